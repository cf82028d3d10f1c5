/- The walks of gimletref03.Stands, words.alike, gimletlaw03.same: loops that only read. -/
import Derived.Test.YtgajinnbmnnccaaBase
import Derived.Test.YtgajinnbmnnccaaKmp
namespace Go.Proofs.Ytgajinnbmnnccaa
open Go.RowKit Gim

set_option maxHeartbeats 400000 in
theorem alike (a0 : Option Addr) (n0 c0 : Nat) (l : List Int) (a1 : Option Addr) (n1 c1 : Nat) (t : List Int) (w : World)
    (h0 : Rd w .i32 a0 n0 c0 l) (h1 : Rd w .i32 a1 n1 c1 t) (hl : n0 ≤ 1099511627776) :
    Calls Try.prog 39 #[.slice a0 n0 c0, .slice a1 n1 c1] w fun e w' => e = .returned (.bool (l == t)) ∧ Drew w w' := by
  have H0 := Lib.hid h0.len
  have H1 := Lib.hid h1.len
  cases hlt : ((n0 : Int) != (n1 : Int))
  · obtain rfl : n0 = n1 := by have := hlt; simp at this; omega
    clear hlt
    go_enter Try.func39, Try.ntmps39
    go_wp2
    go_loopw [13] (fun i wr => ∃ k : Nat, k ≤ n0 ∧ i = .int .i64 k ∧ Hid (∀ j, j < k → gt l j = gt t j) ∧ Drew w wr) (fun i _ => n0 - (intOf i).toNat)
    case atStart => exact ⟨0, by omega, rfl, fun j hj => by omega, Drew.refl _⟩
    case round =>
      obtain ⟨k, hk, rfl, Hall, hbw⟩ := hrel
      by_cases hkn : k < n0
      · obtain ⟨b0, o0, rfl, hb0, hc0⟩ := (h0.below (hbw.below _)).cell 0 (by omega)
        obtain ⟨b1, o1, rfl, hb1, hc1⟩ := (h1.below (hbw.below _)).cell 0 (by omega)
        have hx := hc0 k hkn
        have hy := hc1 k hkn
        clear hc0 hc1
        cases he : (gt l k != gt t k)
        · go_wp2
          go_quiet (fail)
          go_wp2
          go_roundw
          case rel => exact ⟨k + 1, by omega, by go_num, fun j hj => by
            by_cases hjk : j < k
            · exact Hall.out j hjk
            · obtain rfl : j = k := by omega
              simpa using he, hbw.drewN _⟩
          case measure => simp [intOf]; omega
        · go_wp2
          go_quiet (fail)
          go_wp2
          go_ret
          exact ⟨by
            have : (l == t) = false := by
              cases hs : (l == t)
              · rfl
              · simp at hs he
                exact absurd (by rw [hs]) he
            rw [this]; rfl, hbw.drewN _⟩
      · have : (l == t) = true := by
          simp only [beq_iff_eq]
          exact gt_ext (by rw [H0.out, H1.out]) fun j hj => Hall.out j (by rw [H0.out] at hj; omega)
        have HT := Lib.hid this
        clear this
        go_wp2
        go_ret
        exact ⟨by rw [HT.out]; rfl, hbw⟩
  · have : (l == t) = false := by
      cases hs : (l == t)
      · rfl
      · simp at hs hlt
        subst hs
        exact absurd (H0.out.symm.trans H1.out) (by omega)
    have HT := Lib.hid this
    clear this
    go_enter Try.func39, Try.ntmps39
    go_wp2
    go_ret
    exact ⟨by rw [HT.out]; rfl, Drew.refl _⟩

end Go.Proofs.Ytgajinnbmnnccaa
