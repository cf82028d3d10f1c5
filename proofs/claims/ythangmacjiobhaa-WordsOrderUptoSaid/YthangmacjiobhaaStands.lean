/- The walks of gimletref03.Stands, words.alike, gimletlaw03.same: loops that only read. -/
import Derived.Test.YthangmacjiobhaaBase
import Derived.Test.YthangmacjiobhaaKmp
namespace Go.Proofs.Ythangmacjiobhaa
open Go.RowKit Gim

set_option maxHeartbeats 400000 in
theorem stands (a0 : Option Addr) (n0 c0 : Nat) (l : List Int) (a1 : Option Addr) (n1 c1 : Nat) (t : List Int) (n : Nat) (w : World)
    (h0 : Rd w .i32 a0 n0 c0 l) (h1 : Rd w .i32 a1 n1 c1 t) (hn : n ≤ 1099511627776) (hl : n0 ≤ 1099511627776) (ht : n1 ≤ 1099511627776) :
    Calls Try.prog 45 #[.slice a0 n0 c0, .slice a1 n1 c1, .int .i64 n] w fun e w' => e = .returned (.bool (standsB l t n)) ∧ Drew w w' := by
  have H0 := Lib.hid h0.len
  have H1 := Lib.hid h1.len
  by_cases hlt : n + n1 ≤ n0
  · have hlt' : ¬ (n0 : Int) < n + n1 := by omega
    go_enter Try.func45, Try.ntmps45
    go_wp2
    go_loopw [7] (fun i wr => ∃ k : Nat, k ≤ n1 ∧ i = .int .i64 k ∧ Hid (∀ j, j < k → gt l (n + j) = gt t j) ∧ Drew w wr) (fun i _ => n1 - (intOf i).toNat)
    case atStart => exact ⟨0, by omega, rfl, fun j hj => by omega, Drew.refl _⟩
    case round =>
      obtain ⟨k, hk, rfl, Hall, hbw⟩ := hrel
      by_cases hkn : k < n1
      · obtain ⟨b0, o0, rfl, hb0, hc0⟩ := (h0.below (hbw.below _)).cell 0 (by omega)
        obtain ⟨b1, o1, rfl, hb1, hc1⟩ := (h1.below (hbw.below _)).cell 0 (by omega)
        have hx := hc0 (n + k) (by omega)
        have hy := hc1 k hkn
        have hix : (n : Int) + k < n0 := by omega
        clear hc0 hc1
        cases he : (gt l (n + k) != gt t k)
        · go_wp2
          go_quiet (fail)
          go_wp2
          go_roundw
          case rel => exact ⟨k + 1, by omega, by go_num, fun j hj => by
            by_cases hjk : j < k
            · exact Hall.out j hjk
            · obtain rfl : j = k := by omega
              simpa using he, hbw.drewN _⟩
          case measure => simp [intOf]; omega
        · go_wp2
          go_quiet (fail)
          go_wp2
          go_ret
          exact ⟨by
            have : standsB l t n = false := by
              cases hs : standsB l t n
              · rfl
              · have := (standsB_iff.1 hs).2 k (by rw [H1.out]; exact hkn)
                simp at he
                exact absurd this he
            rw [this]; rfl, hbw.drewN _⟩
      · have : standsB l t n = true := standsB_iff.2 ⟨by rw [H0.out, H1.out]; exact hlt, fun j hj => Hall.out j (by rw [H1.out] at hj; omega)⟩
        have HT := Lib.hid this
        clear this
        go_wp2
        go_ret
        exact ⟨by rw [HT.out]; rfl, hbw⟩
  · have hlt' : (n0 : Int) < n + n1 := by omega
    have : standsB l t n = false := by
      cases hs : standsB l t n
      · rfl
      · have := (standsB_iff.1 hs).1
        rw [H0.out, H1.out] at this
        omega
    have HT := Lib.hid this
    clear this
    go_enter Try.func45, Try.ntmps45
    go_wp2
    go_ret
    exact ⟨by rw [HT.out]; rfl, Drew.refl _⟩

set_option maxHeartbeats 400000 in
theorem alike (a0 : Option Addr) (n0 c0 : Nat) (l : List Int) (a1 : Option Addr) (n1 c1 : Nat) (t : List Int) (w : World)
    (h0 : Rd w .i32 a0 n0 c0 l) (h1 : Rd w .i32 a1 n1 c1 t) (hl : n0 ≤ 1099511627776) :
    Calls Try.prog 46 #[.slice a0 n0 c0, .slice a1 n1 c1] w fun e w' => e = .returned (.bool (l == t)) ∧ Drew w w' := by
  have H0 := Lib.hid h0.len
  have H1 := Lib.hid h1.len
  cases hlt : ((n0 : Int) != (n1 : Int))
  · obtain rfl : n0 = n1 := by have := hlt; simp at this; omega
    clear hlt
    go_enter Try.func46, Try.ntmps46
    go_wp2
    go_loopw [13] (fun i wr => ∃ k : Nat, k ≤ n0 ∧ i = .int .i64 k ∧ Hid (∀ j, j < k → gt l j = gt t j) ∧ Drew w wr) (fun i _ => n0 - (intOf i).toNat)
    case atStart => exact ⟨0, by omega, rfl, fun j hj => by omega, Drew.refl _⟩
    case round =>
      obtain ⟨k, hk, rfl, Hall, hbw⟩ := hrel
      by_cases hkn : k < n0
      · obtain ⟨b0, o0, rfl, hb0, hc0⟩ := (h0.below (hbw.below _)).cell 0 (by omega)
        obtain ⟨b1, o1, rfl, hb1, hc1⟩ := (h1.below (hbw.below _)).cell 0 (by omega)
        have hx := hc0 k hkn
        have hy := hc1 k hkn
        clear hc0 hc1
        cases he : (gt l k != gt t k)
        · go_wp2
          go_quiet (fail)
          go_wp2
          go_roundw
          case rel => exact ⟨k + 1, by omega, by go_num, fun j hj => by
            by_cases hjk : j < k
            · exact Hall.out j hjk
            · obtain rfl : j = k := by omega
              simpa using he, hbw.drewN _⟩
          case measure => simp [intOf]; omega
        · go_wp2
          go_quiet (fail)
          go_wp2
          go_ret
          exact ⟨by
            have : (l == t) = false := by
              cases hs : (l == t)
              · rfl
              · simp at hs he
                exact absurd (by rw [hs]) he
            rw [this]; rfl, hbw.drewN _⟩
      · have : (l == t) = true := by
          simp only [beq_iff_eq]
          exact gt_ext (by rw [H0.out, H1.out]) fun j hj => Hall.out j (by rw [H0.out] at hj; omega)
        have HT := Lib.hid this
        clear this
        go_wp2
        go_ret
        exact ⟨by rw [HT.out]; rfl, hbw⟩
  · have : (l == t) = false := by
      cases hs : (l == t)
      · rfl
      · simp at hs hlt
        subst hs
        exact absurd (H0.out.symm.trans H1.out) (by omega)
    have HT := Lib.hid this
    clear this
    go_enter Try.func46, Try.ntmps46
    go_wp2
    go_ret
    exact ⟨by rw [HT.out]; rfl, Drew.refl _⟩

set_option maxHeartbeats 400000 in
theorem same (a0 : Option Addr) (n0 c0 : Nat) (l : List Int) (a1 : Option Addr) (n1 c1 : Nat) (t : List Int) (w : World)
    (h0 : Rd w .i64 a0 n0 c0 l) (h1 : Rd w .i64 a1 n1 c1 t) (hl : n0 ≤ 1099511627776) :
    Calls Try.prog 15 #[.slice a0 n0 c0, .slice a1 n1 c1] w fun e w' => e = .returned (.bool (l == t)) ∧ Drew w w' := by
  have H0 := Lib.hid h0.len
  have H1 := Lib.hid h1.len
  cases hlt : ((n0 : Int) != (n1 : Int))
  · obtain rfl : n0 = n1 := by have := hlt; simp at this; omega
    clear hlt
    go_enter Try.func15, Try.ntmps15
    go_wp2
    go_loopw [5] (fun i wr => ∃ k : Nat, k ≤ n0 ∧ i = .int .i64 k ∧ Hid (∀ j, j < k → gt l j = gt t j) ∧ Drew w wr) (fun i _ => n0 - (intOf i).toNat)
    case atStart => exact ⟨0, by omega, rfl, fun j hj => by omega, Drew.refl _⟩
    case round =>
      obtain ⟨k, hk, rfl, Hall, hbw⟩ := hrel
      by_cases hkn : k < n0
      · obtain ⟨b0, o0, rfl, hb0, hc0⟩ := (h0.below (hbw.below _)).cell 0 (by omega)
        obtain ⟨b1, o1, rfl, hb1, hc1⟩ := (h1.below (hbw.below _)).cell 0 (by omega)
        have hx := hc0 k hkn
        have hy := hc1 k hkn
        clear hc0 hc1
        cases he : (gt l k != gt t k)
        · go_wp2
          go_quiet (fail)
          go_wp2
          go_roundw
          case rel => exact ⟨k + 1, by omega, by go_num, fun j hj => by
            by_cases hjk : j < k
            · exact Hall.out j hjk
            · obtain rfl : j = k := by omega
              simpa using he, hbw.drewN _⟩
          case measure => simp [intOf]; omega
        · go_wp2
          go_quiet (fail)
          go_wp2
          go_ret
          exact ⟨by
            have : (l == t) = false := by
              cases hs : (l == t)
              · rfl
              · simp at hs he
                exact absurd (by rw [hs]) he
            rw [this]; rfl, hbw.drewN _⟩
      · have : (l == t) = true := by
          simp only [beq_iff_eq]
          exact gt_ext (by rw [H0.out, H1.out]) fun j hj => Hall.out j (by rw [H0.out] at hj; omega)
        have HT := Lib.hid this
        clear this
        go_wp2
        go_ret
        exact ⟨by rw [HT.out]; rfl, hbw⟩
  · have : (l == t) = false := by
      cases hs : (l == t)
      · rfl
      · simp at hs hlt
        subst hs
        exact absurd (H0.out.symm.trans H1.out) (by omega)
    have HT := Lib.hid this
    clear this
    go_enter Try.func15, Try.ntmps15
    go_wp2
    go_ret
    exact ⟨by rw [HT.out]; rfl, Drew.refl _⟩
end Go.Proofs.Ythangmacjiobhaa
