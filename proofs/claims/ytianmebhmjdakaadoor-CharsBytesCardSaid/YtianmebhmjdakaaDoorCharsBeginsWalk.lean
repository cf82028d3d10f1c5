/- The walk of gimletlaw02.CharsBegins. -/
import Derived.Test.YtianmebhmjdakaaDoorBeginsWalk
import Derived.Test.YtianmebhmjdakaaDoorHanded
namespace Go.Proofs.YtianmebhmjdakaaDoor
open Go.RowKit Gim
theorem row_empty (w : World) (t : TypeId) (k : IntKind) (B : Nat) (hB : B ≤ w.heap.size) : Row (w.alloc (.cells #[] t)) B t k (.slice (some ⟨w.heap.size, 0, none⟩) 0 0) [] :=
  ⟨by simp, .inr ⟨w.heap.size, 0, #[], rfl, hB, heap_alloc_new w _, by simp, by unfold maxLen; omega, by simp, by simp⟩⟩
set_option maxHeartbeats 2000000 in
theorem charsBegins_walk (c : Int) (ao : Option Addr) (n cap : Nat) (xs : List Int) (w : World) (_ : (Lit.int .i64 c).wf = true) (h : Rd w .u8 ao n cap xs) (hnone : ao = none → n = 0 ∧ cap = 0) (hwf : ∀ x ∈ xs, (Lit.int .u8 x).wf = true) (hn : n ≤ 140737488351232) (hT : Laid w) :
    Calls Tryd.prog 9 #[.int .i64 c, .slice ao n cap] w fun e w' => e = .returned (.bool true) ∧ Below w.heap.size w w' := by
  have hby := gt_all h.len (fun x hx => wf_u8 (hwf x hx))
  have HL := Lib.hid h.len
  clear hwf
  go_enter Tryd.func9, Tryd.ntmps9
  go_wp2_with (at_builtin; refine append_rd _ rfl _ _ rfl w.heap.size _ [] rfl (row_empty w _ _ _ (Nat.le_refl _)) ao n cap xs rfl (h.below ((Below.refl _ _).alloc (Nat.le_refl _) _)) hnone (by simp; omega) (by simp) ?_; intro v' w1 hrow hgrow)
  rw [List.nil_append] at hrow
  have hb1 : Below w.heap.size w w1 := ((Below.refl _ _).alloc (Nat.le_refl _) _).grown hgrow (by simp) (fun j hj => ((row_empty w 5 .u8 w.heap.size (Nat.le_refl _)).lt j hj).1)
  clear hgrow
  have hT1 := hT.below hb1
  obtain ⟨ao1, cap1, rfl, rd1⟩ := hrow.rd
  rw [HL.out] at rd1
  rw [HL.out]
  have rdb1 := h.below hb1
  clear hrow
  refine (fixed_calls _ hT1).mono ?_
  rintro e w2 ⟨rfl, hb2⟩
  have hT2 := hT1.below hb2
  have rd2 := rd1.below hb2
  have rdb2 := rdb1.below hb2
  clear rd1 rdb1 hT1
  go_wp2_with fail
  refine (begins_calls c _ _ _ _ xs rd2 hby hT2.tab).mono ?_
  rintro e w3 ⟨rfl, hb3⟩
  have rd3 := rd2.below hb3
  have rdb3 := rdb2.below hb3
  clear rd2 rdb2
  go_wp2_with fail
  refine (refBegins_calls c _ _ _ _ xs rdb3 hby).mono ?_
  rintro e w4 ⟨rfl, hb4⟩
  have e1 := (rd3.below hb4).convB (P := Tryd.prog) (src := 41) (dst := 9) (e := 5) rfl rfl rfl
  have e2 := (rdb3.below hb4).convB (P := Tryd.prog) (src := 41) (dst := 9) (e := 5) rfl rfl rfl
  have h2 := hb1.trans (hb2.mono hb1.size)
  have h3 := h2.trans (hb3.mono h2.size)
  have h4 := h3.trans (hb4.mono h3.size)
  clear hb1 hb2 hb3 hb4 rd3 rdb3 h2 h3
  go_wp2
  go_ret
  exact ⟨rfl, h4⟩
end Go.Proofs.YtianmebhmjdakaaDoor
