/- The walk of gimletlaw14.KleeneValues. -/
import Derived.Test.YtkhbpchjelfmhaaKFixed
namespace Go.Proofs.Ytkhbpchjelfmhaa
open Go.RowKit Gim Go.Sort Go.Lib
set_option maxHeartbeats 4000000 in
theorem kleeneValues_walk (ao : Option Addr) (n cap : Nat) (xs : List Int) (t : Int) (w : World) (h : Rd w .i64 ao n cap xs) (hnone : ao = none → n = 0 ∧ cap = 0) (_hwf : ∀ x ∈ xs, (Lit.int .i64 x).wf = true) (hn : n ≤ 1048576) (_ht : (Lit.int .i64 t).wf = true) :
    Calls Try.prog 3 #[.slice ao n cap, .int .i64 t] w fun e w' => e = .returned (.bool true) ∧ Below w.heap.size w w' := by
  have HR := Lib.hid h
  have HL := Lib.hid h.len
  have hT := truths_calls ao n cap xs w h hnone (by omega)
  clear h hnone _hwf
  go_enter Try.func3, Try.ntmps3
  go_wp2_with fail
  refine hT.mono ?_
  rintro e w1 ⟨v1, rfl, hrow1, hb1⟩
  obtain ⟨a1, c1, rfl, rd1⟩ := hrow1.rd
  rw [HL.out] at rd1
  rw [HL.out]
  clear hT hrow1
  go_wp2_with fail
  refine (and_calls _ _ _ _ _ rd1).mono ?_
  rintro e wz ⟨rfl, rfl⟩
  go_wp2_with fail
  refine (or_calls _ _ _ _ _ rd1).mono ?_
  rintro e wz ⟨rfl, rfl⟩
  go_wp2_with fail
  refine (fixed_calls _).mono ?_
  rintro e w2 ⟨rfl, hb2⟩
  have hB2 := hb1.trans (hb2.mono hb1.size)
  have rd2 := rd1.below hb2
  have RD2 := Lib.hid rd2
  have HB2 := Lib.hid hB2
  clear rd1 rd2 hb1 hb2 hB2
  go_wp2_with fail
  refine (plain_calls ao n cap xs w2 (HR.out.below HB2.out) (by omega)).mono ?_
  rintro e w3 ⟨v3, rfl, hrow3, hb3⟩
  obtain ⟨a3, c3, rfl, rd3⟩ := hrow3.rd
  rw [HL.out] at rd3
  rw [HL.out]
  have RD3 := Lib.hid (RD2.out.below hb3)
  have HB3 := Lib.hid (HB2.out.trans (hb3.mono HB2.out.size))
  clear hrow3 hb3 RD2
  go_wp2_with fail
  refine (all_calls _ _ _ _ _ rd3).mono ?_
  rintro e wz ⟨rfl, rfl⟩
  clear rd3
  go_wp2_with fail
  refine (plain_calls ao n cap xs _ (HR.out.below HB3.out) (by omega)).mono ?_
  rintro e w4 ⟨v4, rfl, hrow4, hb4⟩
  obtain ⟨a4, c4, rfl, rd4⟩ := hrow4.rd
  rw [HL.out] at rd4
  rw [HL.out]
  have RD4 := Lib.hid (RD3.out.below hb4)
  have HB4 := Lib.hid (HB3.out.trans (hb4.mono HB3.out.size))
  clear hrow4 hb4 RD3
  go_wp2_with fail
  refine (any_calls _ _ _ _ _ rd4).mono ?_
  rintro e wz ⟨rfl, rfl⟩
  clear rd4
  go_wp2_with fail
  refine (equal_calls _ _ _ _ _ xs _ RD4.out (HR.out.below HB4.out)).mono ?_
  rintro e w5 ⟨rfl, hd5⟩
  have HB5 := Lib.hid (HB4.out.trans (hd5.below _))
  clear hd5
  go_wp2_with fail
  refine (not_calls t _).mono ?_
  rintro e wz ⟨rfl, rfl⟩
  go_wp2_with fail
  refine (turned_calls t _).mono ?_
  rintro e wz ⟨rfl, rfl⟩
  go_wp2_with fail
  go_ret
  exact ⟨by first | rfl | simp, HB5.out⟩
end Go.Proofs.Ytkhbpchjelfmhaa
