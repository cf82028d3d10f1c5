/- '[]rune(s)' of any string; the walks of runes.Runes and runes.Mend. -/
import Derived.Test.YtbbfifaojepjiaaDoorOrdA
namespace Gim
open Go Go.RowKit
variable {P : Program}
theorem run_runes_any (w : World) (src dst e : TypeId) (s : ByteArray) (hs : P.underlying src = some .string) (hd : P.underlying dst = some (.slice e)) (he : P.underlying e = some (.int .i32)) :
    (convert src dst (.string s)).run P w = .ok (.slice (some ⟨w.heap.size, 0, none⟩) (Conv.runesFrom s s.size 0 #[]).size (grownCap w (Conv.runesFrom s s.size 0 #[]).size 0 e))
      (w.drew.alloc (.cells (Conv.runesFrom s s.size 0 #[] ++ Array.replicate (grownCap w (Conv.runesFrom s s.size 0 #[]).size 0 e - (Conv.runesFrom s s.size 0 #[]).size) (.int .i32 0)) e)) := by
  simp [convert, run_underlying hs, run_underlying hd, run_underlying he, Conv.stringToRunes, Question.forced, newRow, grownCap]
/-- '[]rune(s)' of any string -/
theorem wpList_runes (w : World) {ops : Array Oper} {rest : List Oper} {o : Oper} {a : Act} {Q : Exit → Act → World → Prop} (hg : o.guard = none) (x : Operand) (src dst e : TypeId)
    (hop : o.op = .convert src dst x) (s : ByteArray) (hx : a.eval x = .string s) (hs : P.underlying src = some .string) (hd : P.underlying dst = some (.slice e)) (he : P.underlying e = some (.int .i32)) (hsz : s.size ≤ 9223372036854775807)
    (hK : ∀ v w', Row w' w.heap.size e .i32 v (rs s) → w.grownBy w' none → wpList P ops Q rest (a.put o.dst v) w') :
    wpList P ops Q (o :: rest) a w := by
  refine wpList_plain hg fun K hK' => ?_
  have hl := rs_length s
  have hrun := run_runes_any (P := P) w src dst e s hs hd he
  have hsize : (Conv.runesFrom s s.size 0 #[]).size = (rs s).length := by rw [convRunes_eq]; simp
  unfold Oper.wp
  simp only [execOp, hop, hx, Sem.run_bind, hrun, Result.andThen]
  refine hK' _ _ (hK _ _ ?_ ?_)
  · refine ⟨by simp, .inr ⟨w.heap.size, grownCap w (rs s).length 0 e, _, by rw [hsize], Nat.le_refl _, heap_alloc_new w.drew _, grownCap_ge _ _ _ _, grownCap_le_maxLen _ _ _ _ (by unfold maxLen; omega), ?_, ?_⟩⟩
    · rw [convRunes_eq]
      have := grownCap_ge w (rs s).length 0 e
      simp; omega
    · rw [convRunes_eq]
      simp
  · exact ⟨rfl, rfl, rfl, by simp, fun k hk _ => heap_alloc_old w.drew _ hk⟩
end Gim
namespace Go.Proofs.YtbbfifaojepjiaaDoor
open Go.RowKit Gim
-- gimlet/runes.Runes
theorem runes_calls (s : ByteArray) (w : World) (hs : s.size ≤ 9223372036854775807) :
    Calls Tryd.prog 15 #[.string s] w (GivesRow w 21 .i32 (rs s)) := by
  go_enter Tryd.func15, Tryd.ntmps15
  go_wp2_with (refine wpList_runes _ rfl _ 9 36 21 rfl s rfl Tryd.underlying9 Tryd.underlying36 Tryd.underlying21 hs ?_; intro v w1 hrow hgrow)
  go_ret
  exact ⟨_, rfl, hrow, (Below.refl _ _).grown hgrow (Nat.le_refl _) (fun k hk => by cases hk)⟩
-- gimlet/runes.Mend
theorem mend_calls (s : ByteArray) (w : World) (hs : s.size ≤ 9223372036854775807) :
    Calls Tryd.prog 14 #[.string s] w fun e w' => e = .returned (.string (runesBytes (rs s))) ∧ Below w.heap.size w w' := by
  go_enter Tryd.func14, Tryd.ntmps14
  go_wp2_with (refine wpList_runes _ rfl _ 9 36 21 rfl s rfl Tryd.underlying9 Tryd.underlying36 Tryd.underlying21 hs ?_; intro v w1 hrow hgrow; obtain ⟨ao, cp, rfl, rdo⟩ := hrow.rd; have hcv := rdo.conv (P := Tryd.prog) (src := 36) (dst := 9) (e := 21) Tryd.underlying36 Tryd.underlying21 Tryd.underlying9)
  go_ret
  exact ⟨rfl, (Below.refl _ _).grown hgrow (Nat.le_refl _) (fun k hk => by cases hk)⟩
end Go.Proofs.YtbbfifaojepjiaaDoor
