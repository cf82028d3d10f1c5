/- The walk of runes.MendParts. -/
import Derived.Test.YtbbfifaojepjiaaDoorMendLaw
namespace Go.Proofs.YtbbfifaojepjiaaDoor
open Go.RowKit Gim
theorem info_rune : (Tryd.prog.info? 21).map (fun i => (i.zero, i.size, i.bytes)) = some (some (.int .i32 0), 1, 4) := by kernel_rfl
theorem _root_.Gim.Row.stays {w w1 : World} {B : Nat} {e : TypeId} {k : IntKind} {v : Value} {xs : List Int} (h : Row w B e k v xs) (hb : Below w.heap.size w w1) : Row w1 B e k v xs := by
  refine ⟨h.1, ?_⟩
  rcases h.2 with h2 | ⟨g, cap, cur, a, b, c, rest⟩
  · exact .inl h2
  · exact .inr ⟨g, cap, cur, a, b, (hb.block g (Array.getElem?_eq_some_iff.1 c).1).trans c, rest⟩
/-- '[]byte(s)' -/
theorem rb_str (w : World) (s : ByteArray) (t : TypeId) (cap : Nat) (fr : Nat × Nat) (h1 : s.size ≤ cap) (h2 : cap ≤ maxLen) : Rb (w.alloc (.cells (bytesRow s cap) t fr)).drew (some ⟨w.heap.size, 0, none⟩) s.size cap (bz s.data.toList) := by
  have h := rd_bytes w s t cap fr h1 h2
  exact ⟨h.drewN 1, gt_all h.len fun x hx => bz_byte hx⟩
set_option maxHeartbeats 2000000 in
theorem mendParts_calls (s : ByteArray) (w : World) (hs : s.size ≤ 1099511627776) (hT : U8 w) :
    Calls Tryd.prog 30 #[.string s] w fun e w' => e = .returned (.string (runesBytes (parts (bz s.data.toList)))) ∧ Below w.heap.size w w' := by
  obtain ⟨xs, hxs⟩ : ∃ xs, xs = bz s.data.toList := ⟨_, rfl⟩
  have HL := Lib.hid (show xs.length = s.size by rw [hxs, bz_length]; rfl)
  have HP := Lib.hid (show parts xs = partsAt xs 0 from rfl)
  rw [← hxs]
  have hcv : ∀ wx : World, (convert 9 32 (.string s)).run Tryd.prog wx = _ := fun wx => run_bytes_of_string wx 9 32 5 s Tryd.underlying9 Tryd.underlying32 Tryd.underlying5
  have hge := grownCap_ge w s.size 0 5
  have hrb := rb_str w s 5 (grownCap w s.size 0 5) ((bytesRow s (grownCap w s.size 0 5)).size, (bytesRow s (grownCap w s.size 0 5)).size + 1) hge (grownCap_le_maxLen _ _ _ _ (by unfold maxLen; omega))
  rw [← hxs] at hrb
  have HX := Lib.hid hxs
  clear hxs
  go_enter Tryd.func30, Tryd.ntmps30
  go_wp2
  obtain ⟨cap, hcap⟩ : ∃ cap, cap = grownCap w s.size 0 5 := ⟨_, rfl⟩
  rw [← hcap] at hrb hge ⊢
  obtain ⟨wb, hwb⟩ : ∃ wb, wb = (w.alloc (.cells (bytesRow s cap) 5 ((bytesRow s cap).size, (bytesRow s cap).size + 1))).drew := ⟨_, rfl⟩
  have hb0 : Below w.heap.size w wb := by rw [hwb]; exact ((Below.refl _ _).alloc (Nat.le_refl _) _).trans (((Drew.refl _).drewN 1).below _)
  have hz0 : wb.heap.size = w.heap.size + 1 := by rw [hwb]; simp
  rw [← hwb] at hrb ⊢
  clear hwb hcap hcv
  have hTb := U8.below hT hb0
  have hcl := hrb.rd.cap_le
  obtain ⟨B, hB⟩ : ∃ B, B = wb.heap.size := ⟨_, rfl⟩
  have HB := Lib.hid hB
  go_loopw [4, 5] (fun v u wr => ∃ (p : Nat) (done : List Int), u = .int .i64 p ∧ Row wr B 21 .i32 v done ∧ p ≤ s.size ∧ done.length ≤ p ∧ Below B wb wr ∧ Hid (done ++ partsAt xs p = partsAt xs 0)) (fun _ u wr => s.size - (intOf u).toNat)
  case atStart => exact ⟨0, [], rfl, World.ownsRow_nil _ _ _ _, by omega, by simp, Below.refl _ _, Lib.hid (by rw [List.nil_append])⟩
  case round =>
    obtain ⟨p, done, rfl, hrow, hps, hdl, hb, H⟩ := hrel
    have hBr : B ≤ wr.heap.size := by have := hb.size; omega
    by_cases hp : p < s.size
    · have hN := H.out
      rw [partsAt_next (by rw [HL.out]; exact hp)] at hN
      have HN := Lib.hid (show (done ++ [((decB (xs.drop p)).1 : Int)]) ++ partsAt xs (p + partW xs p) = partsAt xs 0 by rw [List.append_assoc]; exact hN)
      have hpw := partW_le (xs := xs) (at_ := p) (by rw [HL.out]; exact hp)
      have hp1 := partW_pos (xs := xs) (at_ := p) (by rw [HL.out]; exact hp)
      rw [HL.out] at hpw
      have hbw : Below wb.heap.size wb wr := by rw [← hB]; exact hb
      have rbr := hrb.below hbw
      have hTr := U8.below hTb hbw
      have rbd := rbr.drop (m := p) (by omega)
      have hcp : ¬ cap = p := by omega
      rw [if_neg hcp] at rbd
      replace rbd : Rb wr (some ⟨w.heap.size, 0 + p, none⟩) (s.size - p) (cap - p) (xs.drop p) := by simpa [Addr.add_lit] using rbd
      rw [Nat.zero_add] at rbd
      obtain ⟨D, hD⟩ : ∃ D, D = decB (xs.drop p) := ⟨_, rfl⟩
      have HW := Lib.hid (show partW xs p = if D.1 = 65533 ∧ D.2 ≤ 1 then max (pieceN xs p) 1 else D.2 by rw [hD]; rfl)
      rw [← hD] at HN
      have HD := Lib.hid hD
      clear H hN hD
      go_wp2_with fail
      refine (decode_calls _ _ _ _ _ rbd hTr).mono ?_
      rintro e w1 ⟨rfl, hb1⟩
      rw [← HD.out]
      have hb2 : Below B wb w1 := hb.trans (hb1.mono hBr)
      have hB2 : B ≤ w1.heap.size := by have := hb2.size; omega
      have hrow2 := hrow.stays hb1
      obtain ⟨r, k⟩ := D
      clear HD rbd hrow hbw rbr hTr hb hb1
      by_cases hbad : r = 65533 ∧ k ≤ 1
      · have HW2 := Lib.hid (HW.out.trans (if_pos hbad))
        obtain ⟨rfl, hk⟩ := hbad
        have hkd : decide ((k : Int) ≤ 1) = true := by simp; omega
        clear HW
        go_wp2
        go_loopw [7] (fun y wi => ∃ q : Nat, y = .int .i64 q ∧ p + q ≤ s.size ∧ Hid (runF xs p (s.size - p - q) q = pieceN xs p) ∧ Row wi B 21 .i32 u4 done ∧ Below B wb wi) (fun y _ => s.size - (intOf y).toNat)
        case atStart => exact ⟨0, rfl, by omega, Lib.hid (by unfold pieceN; rw [HL.out]; rfl), hrow2, hb2⟩
        case round =>
          clear hrow2 hb2 hB2 w1
          obtain ⟨q, rfl, hpq, HR, hrow, hb⟩ := hrel
          have hBi : B ≤ wr.heap.size := by have := hb.size; omega
          by_cases hq : p + q < s.size
          · have hbw : Below wb.heap.size wb wr := by rw [← hB]; exact hb
            have rbr := hrb.below hbw
            have hTr := U8.below hTb hbw
            have rbd := rbr.drop (m := p) (by omega)
            have hcp : ¬ cap = p := by omega
            rw [if_neg hcp] at rbd
            replace rbd : Rb wr (some ⟨w.heap.size, 0 + p, none⟩) (s.size - p) (cap - p) (xs.drop p) := by simpa [Addr.add_lit] using rbd
            rw [Nat.zero_add] at rbd
            have rbt := rbd.take (m := q + 1) (by omega)
            have hsub : p + q + 1 - p = q + 1 := by omega
            have hstep := Lib.hid (HR.out.symm.trans (by rw [show s.size - p - q = (s.size - p - (q + 1)) + 1 from by omega, runF]) : pieceN xs p = if p + q < xs.length ∧ beginsB ((xs.drop p).take (q + 1)) = true then runF xs p (s.size - p - (q + 1)) (q + 1) else q)
            clear HR rbd rbr hbw
            go_wp2_with fail
            refine (begins_calls _ _ _ _ _ rbt hTr).mono ?_
            rintro e w2 ⟨rfl, hb2⟩
            have hb3 : Below B wb w2 := hb.trans (hb2.mono hBi)
            have hB3 : B ≤ w2.heap.size := by have := hb3.size; omega
            have hrow3 := hrow.stays hb2
            clear hb hb2 hBi hrow rbt hTr
            obtain ⟨c, hc⟩ : ∃ c, c = beginsB ((xs.drop p).take (q + 1)) := ⟨_, rfl⟩
            rw [← hc] at hstep
            rw [← hc]
            clear hc
            cases c
            · have HKq := Lib.hid (hstep.out.trans (if_neg fun h => by cases h.2) : pieceN xs p = q)
              clear hstep
              have hpk : partW xs p = max q 1 := by rw [HW2.out, HKq.out]
              obtain ⟨M, hM⟩ : ∃ M, M = max q 1 := ⟨_, rfl⟩
              have hMi : max (q : Int) 1 = (M : Int) := by omega
              rw [hpk, ← hM] at HN hpw hp1
              clear hpk HKq HW2 hM
              go_wp2_with (at_builtin; refine append1 _ rfl _ _ 36 rfl B 21 .i32 4 info_rune Tryd.underlying36 _ _ rfl hrow3 _ rfl (by omega) (by decide) hB3 ?_; intro v' w3 hown' hgrow3)
              go_roundw
              case rel => exact ⟨p + M, _, by go_num, hown', by omega, by simp; omega, hb3.grown hgrow3 hB3 (fun j hj => (hrow3.lt j hj).1), HN⟩
              case measure => simp [RowKit.intOf]; omega
            · have HR2 := Lib.hid (hstep.out.trans (if_pos ⟨by rw [HL.out]; exact hq, rfl⟩) : pieceN xs p = runF xs p (s.size - p - (q + 1)) (q + 1))
              clear hstep
              go_wp2
              go_roundw
              case rel => exact ⟨q + 1, by go_num, by omega, Lib.hid HR2.out.symm, hrow3, hb3⟩
              case measure => simp [RowKit.intOf]; omega
          · have HKq := Lib.hid (HR.out.symm.trans (runF_end _ (by rw [HL.out]; omega)) : pieceN xs p = q)
            clear HR
            have hqd : decide ((p : Int) + q < s.size) = false := by simp; omega
            have hpk : partW xs p = max q 1 := by rw [HW2.out, HKq.out]
            obtain ⟨M, hM⟩ : ∃ M, M = max q 1 := ⟨_, rfl⟩
            have hMi : max (q : Int) 1 = (M : Int) := by omega
            rw [hpk, ← hM] at HN hpw hp1
            clear hpk HKq HW2 hM
            go_wp2_with (at_builtin; refine append1 _ rfl _ _ 36 rfl B 21 .i32 4 info_rune Tryd.underlying36 _ _ rfl hrow _ rfl (by omega) (by decide) hBi ?_; intro v' w3 hown' hgrow3)
            go_roundw
            case rel => exact ⟨p + M, _, by go_num, hown', by omega, by simp; omega, hb.grown hgrow3 hBi (fun j hj => (hrow.lt j hj).1), HN⟩
            case measure => simp [RowKit.intOf]; omega
      · have HW2 := Lib.hid (HW.out.trans (if_neg hbad))
        have hpk : partW xs p = k := HW2.out
        rw [hpk] at hpw hp1 HN
        clear HW HW2 hpk
        by_cases hr : r = 65533
        · have hk : ¬ k ≤ 1 := fun h => hbad ⟨hr, h⟩
          have hkd : decide ((k : Int) ≤ 1) = false := by simp; omega
          subst hr
          go_wp2_with (at_builtin; refine append1 _ rfl _ _ 36 rfl B 21 .i32 4 info_rune Tryd.underlying36 _ _ rfl hrow2 _ rfl (by omega) (by decide) hB2 ?_; intro v' w3 hown' hgrow3)
          go_roundw
          case rel => exact ⟨p + k, _, by go_num, hown', by omega, by simp; omega, hb2.grown hgrow3 hB2 (fun j hj => (hrow2.lt j hj).1), HN⟩
          case measure => simp [intOf]; omega
        · have hrd : ((r : Int) == 65533) = false := by simp; omega
          go_wp2_with (at_builtin; refine append1 _ rfl _ _ 36 rfl B 21 .i32 4 info_rune Tryd.underlying36 _ _ rfl hrow2 _ rfl (by omega) (by decide) hB2 ?_; intro v' w3 hown' hgrow3)
          go_roundw
          case rel => exact ⟨p + k, _, by go_num, hown', by omega, by simp; omega, hb2.grown hgrow3 hB2 (fun j hj => (hrow2.lt j hj).1), HN⟩
          case measure => simp [intOf]; omega
    · have HE := Lib.hid (HP.out.trans (H.out.symm.trans (by rw [partsAt_end (by rw [HL.out]; exact hp), List.append_nil])) : parts xs = done)
      have hpe : p = s.size := by omega
      obtain ⟨ao, cp, rfl, rdo⟩ := hrow.rd
      have hcv := rdo.conv (P := Tryd.prog) (src := 36) (dst := 9) (e := 21) Tryd.underlying36 Tryd.underlying21 Tryd.underlying9
      have hbe := hb0.trans (hb.mono (by omega))
      clear H hrow rdo
      go_wp2
      go_ret
      exact ⟨by rw [HE.out]; rfl, hbe⟩
end Go.Proofs.YtbbfifaojepjiaaDoor
