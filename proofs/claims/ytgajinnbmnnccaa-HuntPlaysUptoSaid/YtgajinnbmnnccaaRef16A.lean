/- The walks of gimletref16.At, Within, truth, late, never. -/
import Derived.Test.YtgajinnbmnnccaaHuntNine
namespace Go.Proofs.Ytgajinnbmnnccaa
open Go.RowKit Gim
set_option maxHeartbeats 400000 in
theorem at_calls (a0 : Option Addr) (n0 c0 : Nat) (l : List Int) (a1 : Option Addr) (n1 c1 : Nat) (t : List Int) (n : Nat) (w : World)
    (h0 : Rd w .i64 a0 n0 c0 l) (h1 : Rd w .i64 a1 n1 c1 t) (hn : n ≤ 1099511627776) (hl : n0 ≤ 1099511627776) (ht : n1 ≤ 1099511627776) :
    Calls Try.prog 45 #[.slice a0 n0 c0, .slice a1 n1 c1, .int .i64 n] w fun e w' => e = .returned (.bool (standsB l t n)) ∧ Drew w w' := by
  have H0 := Lib.hid h0.len
  have H1 := Lib.hid h1.len
  have hneg : ¬ (n : Int) < 0 := by omega
  by_cases hlt : n + n1 ≤ n0
  · have hlt' : ¬ (n0 : Int) < n + n1 := by omega
    go_enter Try.func45, Try.ntmps45
    go_wp2
    go_loopw [7] (fun i wr => ∃ k : Nat, k ≤ n1 ∧ i = .int .i64 k ∧ Hid (∀ j, j < k → gt l (n + j) = gt t j) ∧ Drew w wr) (fun i _ => n1 - (intOf i).toNat)
    case atStart => exact ⟨0, by omega, rfl, fun j hj => by omega, Drew.refl _⟩
    case round =>
      obtain ⟨k, hk, rfl, Hall, hbw⟩ := hrel
      by_cases hkn : k < n1
      · obtain ⟨b0, o0, rfl, hb0, hc0⟩ := (h0.below (hbw.below _)).cell 0 (by omega)
        obtain ⟨b1, o1, rfl, hb1, hc1⟩ := (h1.below (hbw.below _)).cell 0 (by omega)
        have hx := hc0 (n + k) (by omega)
        have hy := hc1 k hkn
        have hix : (n : Int) + k < n0 := by omega
        clear hc0 hc1
        cases he : (gt l (n + k) != gt t k)
        · go_wp2
          go_quiet (fail)
          go_wp2
          go_roundw
          case rel => exact ⟨k + 1, by omega, by go_num, fun j hj => by
            by_cases hjk : j < k
            · exact Hall.out j hjk
            · obtain rfl : j = k := by omega
              simpa using he, hbw.drewN _⟩
          case measure => simp [intOf]; omega
        · go_wp2
          go_quiet (fail)
          go_wp2
          go_ret
          exact ⟨by
            have : standsB l t n = false := by
              cases hs : standsB l t n
              · rfl
              · have := (standsB_iff.1 hs).2 k (by rw [H1.out]; exact hkn)
                simp at he
                exact absurd this he
            rw [this]; rfl, hbw.drewN _⟩
      · have : standsB l t n = true := standsB_iff.2 ⟨by rw [H0.out, H1.out]; exact hlt, fun j hj => Hall.out j (by rw [H1.out] at hj; omega)⟩
        have HT := Lib.hid this
        clear this
        go_wp2
        go_ret
        exact ⟨by rw [HT.out]; rfl, hbw⟩
  · have hlt' : (n0 : Int) < n + n1 := by omega
    have : standsB l t n = false := by
      cases hs : standsB l t n
      · rfl
      · have := (standsB_iff.1 hs).1
        rw [H0.out, H1.out] at this
        omega
    have HT := Lib.hid this
    clear this
    go_enter Try.func45, Try.ntmps45
    go_wp2
    go_ret
    exact ⟨by rw [HT.out]; rfl, Drew.refl _⟩
theorem at_neg (v0 v1 : Value) (z : Int) (w : World) (hz : z < 0) :
    Calls Try.prog 45 #[v0, v1, .int .i64 z] w fun e w' => e = .returned (.bool false) ∧ Drew w w' := by
  go_enter Try.func45, Try.ntmps45
  go_wp2
  go_ret
  exact ⟨rfl, Drew.refl _⟩
set_option maxHeartbeats 400000 in
theorem within_calls (a0 : Option Addr) (n0 c0 : Nat) (l : List Int) (a1 : Option Addr) (n1 c1 : Nat) (t : List Int) (w : World)
    (h0 : Rd w .i64 a0 n0 c0 l) (h1 : Rd w .i64 a1 n1 c1 t) (hl : n0 ≤ 1099511627776) (ht : n1 ≤ 1099511627776) :
    Calls Try.prog 46 #[.slice a0 n0 c0, .slice a1 n1 c1] w fun e w' => e = .returned (.bool (fndB l t)) ∧ Drew w w' := by
  have H0 := Lib.hid h0.len
  have H1 := Lib.hid h1.len
  go_enter Try.func46, Try.ntmps46
  go_wp2
  go_loopw [5] (fun i wr => ∃ k : Nat, k ≤ n0 + 1 ∧ i = .int .i64 k ∧ Hid (∀ j, j < k → standsB l t j = false) ∧ Drew w wr) (fun i _ => n0 + 1 - (intOf i).toNat)
  case atStart => exact ⟨0, by omega, rfl, fun j hj => by omega, Drew.refl _⟩
  case round =>
    obtain ⟨k, hk, rfl, Hall, hbw⟩ := hrel
    by_cases hkn : k + n1 ≤ n0
    · have hk2 : (k : Int) + n1 ≤ n0 := by omega
      have hA := at_calls a0 n0 c0 l a1 n1 c1 t k wr (h0.below (hbw.below _)) (h1.below (hbw.below _)) (by omega) hl ht
      cases hs : standsB l t k
      · rw [hs] at hA
        have HS := Lib.hid hs
        clear hs
        go_wp2_with fail
        refine hA.mono ?_
        rintro e w2 ⟨rfl, d⟩
        go_wp2_with fail
        go_roundw
        case rel => exact ⟨k + 1, by omega, by go_num, fun j hj => by
          by_cases hjk : j < k
          · exact Hall.out j hjk
          · obtain rfl : j = k := by omega
            exact HS.out, hbw.trans d⟩
        case measure => simp [intOf]; omega
      · rw [hs] at hA
        have HS := Lib.hid hs
        clear hs
        go_wp2_with fail
        refine hA.mono ?_
        rintro e w2 ⟨rfl, d⟩
        go_wp2
        go_ret
        exact ⟨by rw [show fndB l t = true from fndB_iff.2 ⟨k, HS.out⟩]; rfl, hbw.trans d⟩
    · have hk2 : ¬ (k : Int) + n1 ≤ n0 := by omega
      have HF := Lib.hid (show fndB l t = false by
        rw [← Bool.not_eq_true, fndB_iff]
        rintro ⟨p, hp⟩
        have h2 := (standsB_iff.1 hp).1
        rw [H0.out, H1.out] at h2
        rw [Hall.out p (by omega)] at hp
        cases hp)
      go_wp2
      go_ret
      exact ⟨by rw [HF.out]; rfl, hbw⟩
theorem tri_truth (b : Bool) (w : World) : Calls Try.prog 35 #[.bool b] w fun e w' => e = .returned (.int .i64 (if b then 2 else 0)) ∧ w' = w := by
  go_enter Try.func35, Try.ntmps35
  cases b <;> go_wp2 <;> go_ret <;> exact ⟨rfl, rfl⟩
theorem tri_late (b : Bool) (w : World) : Calls Try.prog 48 #[.bool b] w fun e w' => e = .returned (.int .i64 (if b then 2 else 1)) ∧ w' = w := by
  go_enter Try.func48, Try.ntmps48
  cases b <;> go_wp2 <;> go_ret <;> exact ⟨rfl, rfl⟩
theorem tri_never (b : Bool) (w : World) : Calls Try.prog 47 #[.bool b] w fun e w' => e = .returned (.int .i64 (if b then 0 else 1)) ∧ w' = w := by
  go_enter Try.func47, Try.ntmps47
  cases b <;> go_wp2 <;> go_ret <;> exact ⟨rfl, rfl⟩
end Go.Proofs.Ytgajinnbmnnccaa
