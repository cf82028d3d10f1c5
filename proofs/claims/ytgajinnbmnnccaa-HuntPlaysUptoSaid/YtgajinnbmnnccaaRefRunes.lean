/- The walk of gimletref01.Runes. -/
import Derived.Test.YtgajinnbmnnccaaRefChars
import Derived.Test.YtgajinnbmnnccaaHuntOnceWalk
namespace Go.Proofs.Ytgajinnbmnnccaa
open Go.RowKit Gim
theorem info_int64 : (Try.prog.info? 3).map (fun i => (i.zero, i.size, i.bytes)) = some (some (.int .i64 0), 1, 8) := by kernel_rfl
set_option maxRecDepth 20000 in
set_option maxHeartbeats 4000000 in
theorem ref1Runes (w : World) (s : ByteArray) (hs : s.size ≤ 1099511627) :
    Calls Try.prog 32 #[.string s] w (GivesRow w 3 .i64 (rs s)) := by
  obtain ⟨cs, hcs⟩ : ∃ cs, cs = chB (bz s.data.toList) := ⟨_, rfl⟩
  have hrs := rs_ch_eq s
  rw [← hcs] at hrs
  have hcv : ∀ wx : World, (convert 9 58 (.string s)).run Try.prog wx = _ := fun wx => run_bytes_of_string wx 9 58 5 s Try.underlying9 Try.underlying58 Try.underlying5
  have hge := grownCap_ge w s.size 0 5
  have hrb := rb_str w s 5 (grownCap w s.size 0 5) ((bytesRow s (grownCap w s.size 0 5)).size, (bytesRow s (grownCap w s.size 0 5)).size + 1) hge (grownCap_le_maxLen _ _ _ _ (by unfold maxLen; omega))
  have hcl := chB_length (bz s.data.toList)
  rw [← hcs, bz_length] at hcl
  replace hcl : cs.length ≤ s.size := hcl
  obtain ⟨X, hX⟩ : ∃ X, X = rs s := ⟨_, rfl⟩
  rw [← hX] at hrs ⊢
  have HX := Lib.hid hrs
  have HCS := Lib.hid hcs
  clear hcs hX hrs
  go_enter Try.func32, Try.ntmps32
  go_wp2_with fail
  obtain ⟨cap, hcap⟩ : ∃ cap, cap = grownCap w s.size 0 5 := ⟨_, rfl⟩
  rw [← hcap] at hrb hge ⊢
  obtain ⟨wb, hwb⟩ : ∃ wb, wb = (w.alloc (.cells (bytesRow s cap) 5 ((bytesRow s cap).size, (bytesRow s cap).size + 1))).drew := ⟨_, rfl⟩
  have hb0 : Below w.heap.size w wb := by rw [hwb]; exact ((Below.refl _ _).alloc (Nat.le_refl _) _).trans (((Drew.refl _).drewN 1).below _)
  rw [← hwb] at hrb ⊢
  clear hwb hcap hcv
  have cC := chars_calls wb _ _ _ _ hrb (bz_by _) (by omega)
  rw [← HCS.out] at cC
  refine cC.mono ?_
  rintro e w1 ⟨v, rfl, hrow, hb1⟩
  obtain ⟨a1, c1, rfl, rd⟩ := hrow.rd
  have hbw := hb0.trans (hb1.mono hb0.size)
  obtain ⟨l, hl⟩ : ∃ l, l = cs.length := ⟨_, rfl⟩
  have HL := Lib.hid hl
  rw [← hl] at rd hcl ⊢
  obtain ⟨B, hB⟩ : ∃ B, B = w1.heap.size := ⟨_, rfl⟩
  have hBw : w.heap.size ≤ B := by rw [hB]; exact hbw.size
  have HB := Lib.hid hB
  clear cC hrow hb0 hb1 hrb hge hl hB
  go_wp2
  go_loopw [4, 5] (fun v u wr => ∃ (i : Nat) (done : List Int), u = .int .i64 i ∧ Row wr B 3 .i64 v done ∧ i ≤ l ∧ done.length ≤ i ∧ Below B w1 wr ∧ Hid (done = (cs.take i).map (·.2.1))) (fun _ u wr => l - (intOf u).toNat)
  case atStart => exact ⟨0, [], rfl, World.ownsRow_nil _ _ _ _, by omega, by simp, Below.refl _ _, Lib.hid rfl⟩
  case round =>
    obtain ⟨i, done, rfl, hrow, hil, hdl, hb, H⟩ := hrel
    have hBr : B ≤ wr.heap.size := by have := hb.size; have := HB.out; omega
    by_cases hi : i < l
    · have hci : cs[i]? = some (cs[i]'(by rw [← HL.out]; exact hi)) := List.getElem?_eq_getElem _
      obtain ⟨c, hc⟩ : ∃ c, c = cs[i]'(by rw [← HL.out]; exact hi) := ⟨_, rfl⟩
      rw [← hc] at hci
      obtain ⟨g, rfl, _, hg, hcell⟩ := (rd.below (by rw [← HB.out]; exact hb)).cell (by omega)
      have k1 := (hcell i c hci).2.1
      obtain ⟨r, hr⟩ : ∃ r, r = c.2.1 := ⟨_, rfl⟩
      rw [← hr] at k1
      have HN := Lib.hid (show (cs.take (i + 1)).map (·.2.1) = done ++ [r] by
        rw [List.take_add_one, hci, Option.toList_some, List.map_append, List.map_singleton, ← H.out, ← hr])
      clear H hc hci hcell hr
      go_wp2_with (at_builtin; refine append1 _ rfl _ _ 38 rfl B 3 .i64 8 info_int64 Try.underlying38 _ _ rfl hrow _ rfl (by omega) (by decide) hBr ?_; intro v3 w3 hrow3 hgrow3)
      go_roundw
      case rel => exact ⟨i + 1, _, by go_num, hrow3, by omega, by simp; omega, hb.grown hgrow3 hBr (fun j hj => (hrow.lt j hj).1), Lib.hid HN.out.symm⟩
      case measure => simp [RowKit.intOf]; omega
    · obtain rfl : i = l := by omega
      have hd : done = X := by rw [H.out, HX.out, List.take_of_length_le (by rw [← HL.out]; exact Nat.le_refl _)]
      rw [hd] at hrow
      have hfin := hbw.trans (hb.mono hBw)
      clear hd H
      go_wp2
      go_ret
      exact ⟨_, rfl, rowMono hrow hBw, hfin⟩
end Go.Proofs.Ytgajinnbmnnccaa
