/- (*Hopes).find walked. -/
import Derived.Test.YtkhejkfjhddobaaGreatDoorHoAlongM
set_option maxHeartbeats 32000000
namespace Go.Proofs.YtkhejkfjhddobaaGreatDoor
open Go.RowKit Gim
theorem predsS_next (nd : NetD) (f : FrS) (opn : Bool) (ib : Option (List Int × List Int)) {p : Nat} (hp : p < nd.preds.length) : predsS nd f opn ib (nd.preds.length - p) = predS nd f opn ib (predsS nd f opn ib (nd.preds.length - (p + 1))) p := by
 obtain ⟨d, hd⟩ := je (nd.preds.length - (p + 1))
 rw [hd, show nd.preds.length - p = d + 1 by omega]
 show predS nd f opn ib (predsS nd f opn ib d) (nd.preds.length - (d + 1)) = _
 rw [show nd.preds.length - (d + 1) = p by omega]
theorem rowsS_next (nd : NetD) (f : FrS) (opn : Bool) (ib : Option (List Int × List Int)) (T : List Int) {last i : Nat} (acc : Int × List Int) (hi : i < last) : rowsS nd f opn ib T last acc (last - i) = rowS nd f opn ib T (rowsS nd f opn ib T last acc (last - (i + 1))) i := by
 obtain ⟨d, hd⟩ := je (last - (i + 1))
 rw [hd, show last - i = d + 1 by omega]
 show rowS nd f opn ib T (rowsS nd f opn ib T last acc d) (last - (d + 1)) = _
 rw [show last - (d + 1) = i by omega]
theorem IB.below {w w' : World} {vi vb : Value} {nr : Nat} {ib : Option (List Int × List Int)} (h : IB w vi vb nr ib) (hb : Below w.heap.size w w') : IB w' vi vb nr ib := by
 cases ib with
 | none => exact h
 | some p =>
  obtain ⟨b, b2, h1, h2, h3, h4, h5, h6⟩ := h
  exact ⟨b, b2, h1, h2, h3, h4, (hb.block b (jl h5)).trans h5, (hb.block b2 (jl h6)).trans h6⟩
theorem al_nil (w : World) : AL w w (.slice none 0 0) [] := ⟨World.ownsRow_nil _ _ _ _, jf _ _⟩
theorem al_two (w : World) (x y : Int) : AL w (w.alloc (.cells #[.int .i64 x, .int .i64 y] 67)) (.slice (some ⟨w.heap.size, 0, none⟩) 2 2) [x, y] :=
 ⟨⟨by simp, .inr ⟨w.heap.size, 2, #[.int .i64 x, .int .i64 y], rfl, jr _, jw w _, by simp, by unfold maxLen; omega, by simp, by simp⟩⟩, (jf _ _).alloc (jr _) _⟩
theorem append_al2 (w wx : World) {ops : Array Oper} {rest : List Oper} {o : Oper} {a : Act} {Q : Exit → Act → World → Prop} {v : Value} {ys : List Int} (h : AL w wx v ys) (hg : o.guard = none) (s x : Operand)
  (ho : o.op = .call { callee := .builtin .append, args := #[s, x], argTypes := #[84, 84] }) (z : Int) (hs : a.eval s = v) (X : Nat) (hx : a.eval x = .slice (some ⟨X, 0, none⟩) 1 1) (hX : X = wx.heap.size) (hlen : ys.length ≤ 1048576 + 2)
  (hK : ∀ ao cap w', AL w w' (.slice ao (ys.length + 1) cap) (ys ++ [z]) → Rd w' .i64 ao (ys.length + 1) cap (ys ++ [z]) → wpList Tryz.prog ops Q rest (a.put o.dst (.slice ao (ys.length + 1) cap)) w') :
  wpList Tryz.prog ops Q (o :: rest) a (wx.alloc (.cells #[.int .i64 z] 67)) := by
 subst hX
 have hb1 : Below wx.heap.size wx (wx.alloc (.cells #[.int .i64 z] 67)) := (jf _ _).alloc (jr _) _
 refine append_rt _ hg s x ho w.heap.size v ys hs (World.ownsRow.alloc h.1 _) _ 1 1 [z] hx (rd_one wx z _) (by simp) (by omega) (ju h.2.size hb1.size) ?_
 intro v' w' hrow hgrow
 have hbel : Below w.heap.size w w' := by
  have hb2 := h.2.trans (hb1.mono h.2.size)
  refine ⟨hgrow.os.trans hb2.os, hgrow.tape.trans hb2.tape, hgrow.output.trans hb2.output, ju hb2.size hgrow.size, fun b hb => (hgrow.block b (jt hb hb2.size) ?_).trans (hb2.block b hb)⟩
  intro e
  have := (Row.lt h.1 b e.symm).1
  omega
 obtain ⟨ao, cap, e, hrd⟩ := Row.rd hrow
 rw [jp] at e hrd
 subst e
 exact hK ao cap w' ⟨hrow, hbel⟩ hrd
def FindP (w : World) (r : List Int × List Int) (np nr : Nat) (e : Ending) (w' : World) : Prop := ∃ b b2, e = .returned (.tuple #[.slice (some ⟨b, 0, none⟩) np np, .slice (some ⟨b2, 0, none⟩) nr nr]) ∧ FW w w' b b2 r.1 r.2
set_option maxRecDepth 100000 in
theorem find_calls (nd : NetD) (f : FrS) (tg : Nat → Nat × Nat) (j F H : Nat) (opn : Bool) (vi vb : Value) (ib : Option (List Int × List Int)) (w : World) (hN : HNet w H nd) (hok : NetOk nd) (h : FrM w tg j F nd.rows.length nd.preds.length f) (hib : IB w vi vb nd.rows.length ib) :
  Calls Tryz.prog 66 #[.pointer (some ⟨H, 0, none⟩), .pointer (some ⟨F, 0, none⟩), .bool opn, vi, vb] w (FindP w (findF nd f opn ib) nd.preds.length nd.rows.length) := by
 have hnp := hok.np
 have hnr := hok.nr
 have HLT := jh (predsS_len nd f opn ib)
 obtain ⟨np, hnpe⟩ := je (nd.preds.length)
 obtain ⟨nr, hnre⟩ := je (nd.rows.length)
 have hmk1 := fun w => run_make_row' (P := Tryz.prog) 84 67 (.int .i64 0) 8 Tryz.underlying84 (by kernel_rfl) rfl .i64 .i64 np (by omega) (by omega) w
 have hmk2 := fun w => run_make_row' (P := Tryz.prog) 84 67 (.int .i64 0) 8 Tryz.underlying84 (by kernel_rfl) rfl .i64 .i64 nr (by omega) (by omega) w
 obtain ⟨mn, ra, rc, pa, pc, v3, v4, v5, v6, h1, h2, h3, _, _⟩ := hN.pred
 have hPN : HNet w H nd := hN
 rw [hnpe] at h1 h3 hnp
 rw [hnre] at h1 h2 hnr
 have q1 := jc h1 1 rfl; have q2 := jc h1 2 rfl
 have hHs : H < w.heap.size := jl h1
 have HN := jh hPN
 have HO := jh hok
 have HFR := jh h
 have HIB := jh hib
 have HP := jh hnpe
 have HR := jh hnre
 have hw0 : FW w ((w.alloc (.cells (madeCells #[.int .i64 0] np) 67)).alloc (.cells (madeCells #[.int .i64 0] nr) 67)) w.heap.size (w.heap.size + 1) (predsS nd f opn ib 0).1 (predsS nd f opn ib 0).2 := by
  obtain ⟨a0, a1, _, a3⟩ := alloc2 w (.cells (madeCells #[.int .i64 0] np) 67) (.cells (madeCells #[.int .i64 0] nr) 67)
  refine ⟨a3, ?_, ?_, by omega⟩
  ·rw [a0, made_il, ← hnpe]; rfl
  ·rw [a1, made_il, ← hnre]; rfl
 have HW0 := jh hw0
 have HFI := jh (show findF nd f opn ib = predsS nd f opn ib np by unfold findF; rw [hnpe])
 rw [HFI.out, hnpe, hnre]
 clear hok h hib hN hPN h1 hw0 hnpe hnre
 go_enter Tryz.func66, Tryz.ntmps66
 go_wp2_with fail
 clear hmk1 hmk2 q1 q2
 go_loopw [12] (fun i wr => ∃ k : Nat, i = .int .i64 ((k : Int) - 1) ∧ k ≤ np ∧ FW w wr w.heap.size (w.heap.size + 1) (predsS nd f opn ib (np - k)).1 (predsS nd f opn ib (np - k)).2) (fun i _ => (intOf i + 1).toNat)
 case atStart => exact ⟨np, rfl, jr _, by rw [Nat.sub_self]; exact HW0.out⟩
 case round =>
  revert hrel
  revert wr
  intro wo hrel
  obtain ⟨k, rfl, hk, hw⟩ := hrel
  cases k with
  | zero =>
   have HWQ := jh hw
   clear hw
   go_wp2_with fail
   go_ret2
   exact ⟨_, _, rfl, HWQ.out⟩
  | succ p =>
   have hpn : p < np := by omega
   rw [show (((p + 1 : Nat) : Int) - 1) = p by omega]
   have hnext := predsS_next nd f opn ib (p := p) (by rw [HP.out]; exact hpn)
   rw [HP.out] at hnext
   have hlen := HLT.out (np - (p + 1))
   rw [HP.out, HR.out] at hlen
   obtain ⟨S, hS⟩ := je (predsS nd f opn ib (np - (p + 1)))
   rw [hS] at hw hnext hlen
   obtain ⟨T, E⟩ := S
   have hw : FW w wo w.heap.size (w.heap.size + 1) T E := hw
   have hlT : T.length = np := hlen.1
   have hlE : E.length = nr := hlen.2
   have HLE := jh hlE
   have HLTT := jh hlT
   have hNo := HN.out.below hw.bel
   obtain ⟨mn', ra', rc', pa', pc', u3', u4', u5', u6', g1, g2, g3, gp, gr⟩ := hNo.pred
   rw [HP.out] at g1 g3 gp
   rw [HR.out] at g1 g2 gr
   have q1 := jc g1 1 rfl; have q2 := jc g1 2 rfl
   obtain ⟨b, o, aa, an, ac, hpa, hbs, d0, d1, d2, d3, d4, d5, d6, d7, hrd⟩ := gp p hpn
   subst hpa
   have hop := HO.out.op p (by rw [HP.out]; exact hpn)
   have hag := HO.out.args p (by rw [HP.out]; exact hpn)
   have hon := HO.out.one p (by rw [HP.out]; exact hpn)
   have hso := HO.out.some p (by rw [HP.out]; exact hpn)
   have hnx : predsS nd f opn ib (np - p) = predS nd f opn ib (T, E) p := hnext
   unfold predS at hnx
   simp only at hnx
   generalize hpd : nd.preds.getD p zp = pd at d0 d2 d3 d4 d5 d6 d7 hrd hop hag hon hso hnx
   obtain ⟨op, args, first, count, attr, cmp, txt, num⟩ := pd
   simp only at d0 d2 d3 d4 d5 d6 d7 hrd hop hag hon hso hnx
   have HNX := jh hnx
   have han := hrd.len
   have hal1 := hag.1
   have hanl : an ≤ 1048576 := by omega
   have hHo : H < wo.heap.size := jt hHs hw.bel.size
   have hp' : (p : Int) < np := by omega
   have hpp : (p : Int) < pc' := by omega
   obtain ⟨W5, hW5⟩ := je (wo.alloc (.cells #[.int .i64 op, .slice aa an ac, .int .i64 first, .int .i64 count, .string attr, .int .i64 cmp, .string txt, .int .i64 num] 59))
   have hX5 : W5.heap[wo.heap.size]? = some (.cells #[.int .i64 op, .slice aa an ac, .int .i64 first, .int .i64 count, .string attr, .int .i64 cmp, .string txt, .int .i64 num] 59) := by rw [← hW5]; exact jw _ _
   have hb5 : Below wo.heap.size wo W5 := by rw [← hW5]; exact (jf _ _).alloc (jr _) _
   have hw5 := hw.below hb5
   have hrd5 := hrd.below hb5
   have x0 := jc hX5 0 rfl; have x1 := jc hX5 1 rfl
   have hx5s : wo.heap.size < W5.heap.size := jl hX5
   have HW5 := jh hW5
   have HF5 := jh hw5
   have HX5 := jh hX5
   have HRD5 := jh hrd5
   have HAL := jh han
   have HAG := jh hag.2
   have HON := jh hon
   have HSO := jh hso
   have HOP := jh hop
   have HPD := jh hpd
   have HA0 := jh (al_nil W5)
   have hWT : w.heap.size + 1 ≤ wo.heap.size := by have := hw.t; have := (jl this); omega
   clear hnext hS hlen hw hNo g1 g2 g3 gp gr hop hag hon hso hnx hW5 hX5 hb5 hw5 hrd hrd5 han hal1 hpd hlT hlE
   go_upto_region 8 with fail
   rw [HW5.out]
   go_wp2_with fail
   clear q1 q2 d0 d1 d2 d3 d4 d5 d6 d7
   go_loopw [14, 55] (fun v i wr => ∃ q : Nat, i = .int .i64 q ∧ q ≤ an ∧ AL W5 wr v (atL T (args.take q))) (fun _ i _ => an - (intOf i).toNat)
   case atStart => exact ⟨0, rfl, jz _, HA0.out⟩
   case round =>
    obtain ⟨q, rfl, hq, hal⟩ := hrel
    have hwr := HF5.out.below hal.2
    by_cases hqn : q < an
    ·have hqn' : (q : Int) < an := by omega
     obtain ⟨ba, oa, rfl, hba, hc⟩ := (HRD5.out.below hal.2).cell q hqn
     have k1 := hc q hqn
     have hk := get_gt (xs := args) (q := q) (by have := HAL.out; omega)
     obtain ⟨a, ha⟩ := je (gt args q)
     rw [ha] at k1 hk
     have hab := HAG.out a (List.mem_of_getElem? hk)
     obtain ⟨a', rfl⟩ : ∃ a' : Nat, a = a' := ⟨a.toNat, by omega⟩
     have ha2 : (a' : Int) < np := by have := HP.out; omega
     have kt : wr.cell? ⟨w.heap.size, a', none⟩ = some (.int .i64 (T.getD a' 0)) := il_cell hwr.t (get_getD (by rw [HLTT.out]; omega) 0)
     have hsn := atL_snoc (T := T) hk
     have HSN := jh hsn
     have hal' := hal
     have hwts : w.heap.size < wr.heap.size := jl hwr.t
     obtain ⟨y, hy⟩ := je (T.getD a' 0)
     rw [show ((a' : Int)).toNat = a' from rfl, hy] at HSN
     rw [hy] at kt
     have HYL := jh (show (atL T (args.take q)).length ≤ 1048576 by rw [atL_len]; have := List.length_take_le q args; have := HAL.out; omega)
     clear hc hk ha hsn hwr hab hy
     go_wp2_with (at_builtin; refine append_al W5 _ hal' rfl _ _ rfl _ rfl _ rfl (by simp) HYL.out ?_; intro ao cap w' hal2 hrd2)
     have HAL2 := jh hal2
     clear hal2 hrd2 hal hal'
     go_roundw
     case rel => exact ⟨q + 1, by go_num, by omega, by rw [HSN.out]; exact HAL2.out⟩
     case measure => simp [intOf]; omega
    ·obtain rfl : q = an := by omega
     have hxr := (hal.2.block wo.heap.size hx5s).trans HX5.out
     have x0 := jc hxr 0 rfl
     have HXR := jh hxr
     rw [jm (by rw [HAL.out]; exact jr _)] at hal
     obtain ⟨ao, cap, rfl, hrdp⟩ := Row.rd hal.1
     rw [atL_len, HAL.out] at hrdp ⊢
     have HRP := jh hrdp
     have kt : wr.cell? ⟨w.heap.size, p, none⟩ = some (.int .i64 (T.getD p 0)) := il_cell hwr.t (get_getD (by rw [HLTT.out]; omega) 0)
     have zt := cells_free hwr.t p
     have hwts : w.heap.size < wr.heap.size := jl hwr.t
     have HWR := jh hwr
     have hpw : w.heap.size ≠ wo.heap.size := by omega
     by_cases ho0 : op = 0
     ·subst ho0
      have HNX2 := jh HNX.out
      clear hal hrdp hxr hwr
      go_wp2_with (go_at_call 102; refine (and_calls _ _ _ _ _ HRP.out).mono ?_; rintro e w' ⟨rfl, rfl⟩)
      have HFIN := jh (HWR.out.setT p (andF (atL T args)))
      clear HRP HXR
      go_roundw
      case rel => exact ⟨p, by go_num, by omega, by rw [HNX2.out]; first | exact HFIN.out | (rw [if_pos (by first | rfl | trivial)]; exact HFIN.out)⟩
      case measure => first | (simp [intOf]; done) | (simp [intOf]; omega)
     ·have qo0 : (op == 0) = false := jn.2 ho0
      by_cases ho1 : op = 1
      ·subst ho1
       have HNX2 := jh HNX.out
       clear hal hrdp hxr hwr ho0
       go_wp2_with (go_at_call 68; refine (or_calls _ _ _ _ _ HRP.out).mono ?_; rintro e w' ⟨rfl, rfl⟩)
       have HFIN := jh (HWR.out.setT p (orF (atL T args)))
       clear HRP HXR
       go_roundw
       case rel => exact ⟨p, by go_num, by omega, by rw [HNX2.out]; first | exact HFIN.out | (rw [if_neg (by decide), if_pos (by first | rfl | trivial)]; exact HFIN.out)⟩
       case measure => first | (simp [intOf]; done) | (simp [intOf]; omega)
      ·have qo1 : (op == 1) = false := jn.2 ho1
       by_cases ho2 : op = 2
       ·subst ho2
        have HNX2 := jh HNX.out
        have hpos : 0 < q := by have := HON.out rfl; have := HAL.out; omega
        have hpos' : (0 : Int) < q := by omega
        obtain ⟨bz, oz, rfl, hbz, hcz⟩ := hrdp.cell 0 hpos
        have kz := hcz 0 hpos
        rw [Nat.add_zero] at kz
        obtain ⟨y, hy⟩ := je (gt (atL T args) 0)
        rw [hy] at kz
        have HY := jh (show (atL T args).getD 0 0 = y from hy)
        clear hal hrdp hxr hwr ho0 ho1 hcz hy
        go_wp2_with (go_at_call 103; refine (knot_calls _ _).mono ?_; rintro e w' ⟨rfl, rfl⟩)
        have HFIN := jh (HWR.out.setT p (2 - seenB y))
        clear HRP HXR
        go_roundw
        case rel => exact ⟨p, by go_num, by omega, by rw [HNX2.out]; first | (rw [if_neg (by decide), if_neg (by decide), if_pos (by first | rfl | trivial), HY.out]; exact HFIN.out) | (rw [HY.out]; exact HFIN.out)⟩
        case measure => first | (simp [intOf]; done) | (simp [intOf]; omega)
       ·have qo2 : (op == 2) = false := jn.2 ho2
        obtain rfl : op = 3 := by have := HOP.out; omega
        have HNX2 := jh HNX.out
        obtain ⟨hf0, hc0, hfc⟩ := HSO.out rfl
        obtain ⟨fN, rfl⟩ : ∃ fN : Nat, first = fN := ⟨first.toNat, by omega⟩
        obtain ⟨cN, rfl⟩ : ∃ cN : Nat, count = cN := ⟨count.toNat, by omega⟩
        have hfc' : fN + cN ≤ nr := by have := HR.out; omega
        have x1 := jc hxr 1 rfl; have x2 := jc hxr 2 rfl; have x3 := jc hxr 3 rfl; have x4 := jc hxr 4 rfl; have x5 := jc hxr 5 rfl; have x6 := jc hxr 6 rfl; have x7 := jc hxr 7 rfl
        have hCM := compares_calls f tg j F nd.rows.length nd.preds.length p 3 (.slice aa q ac) fN cN attr cmp txt num wr (HFR.out.below hwr.bel) (by rw [HP.out]; exact hpn) ⟨_, _, _, rfl⟩
        obtain ⟨z0, hz0⟩ := je (cmpF f p attr cmp)
        rw [hz0] at hCM
        have HZ0 := jh hz0
        have HCM := jh hCM
        clear hal hrdp hxr hwr ho0 ho1 ho2 hCM hz0 HRP hf0 hc0 hfc
        go_wp2_with fail
        refine HCM.out.mono ?_
        rintro e w6 ⟨rfl, b6⟩
        have hx6 := (b6.block wo.heap.size (lt_of_cell x0)).trans HXR.out
        have HF6 := jh (HWR.out.below b6)
        have x2 := jc hx6 2 rfl; have x3 := jc hx6 3 rfl
        have HX6 := jh hx6
        have hfn1 : (fN : Int) + cN ≤ 9223372036854775807 := by omega
        clear b6 hx6 x0 x1 x4 x5 x6 x7 kt zt hwts
        obtain ⟨last, hlast⟩ := je (fN + cN)
        have HLA := jh hlast
        have HST3 : Hid (FW w w6 w.heap.size (w.heap.size + 1) T (rowsS nd f opn ib T last (z0, E) (last - last)).2 ∧ w6.heap[wo.heap.size]? = W5.heap[wo.heap.size]? ∧ (Value.int .i64 z0) = .int .i64 (rowsS nd f opn ib T last (z0, E) (last - last)).1) := jh (by
         rw [Nat.sub_self]
         exact ⟨HF6.out, by rw [HX6.out, HX5.out], rfl⟩)
        go_wp2_with fail
        rw [show ((fN : Int) + cN - 1) = (last : Int) - 1 by omega]
        clear x3
        go_loopw [17, 18] (fun v i wr => ∃ k : Nat, i = .int .i64 ((k : Int) - 1) ∧ fN ≤ k ∧ k ≤ last ∧ v = .int .i64 (rowsS nd f opn ib T last (z0, E) (last - k)).1 ∧ FW w wr w.heap.size (w.heap.size + 1) T (rowsS nd f opn ib T last (z0, E) (last - k)).2 ∧ wr.heap[wo.heap.size]? = W5.heap[wo.heap.size]?) (fun _ i _ => (intOf i + 1).toNat)
        case atStart => exact ⟨last, rfl, by omega, jr _, HST3.out.2.2, HST3.out.1, HST3.out.2.1⟩
        case round =>
         revert hrel
         revert wr
         intro w8 hrel
         obtain ⟨k, rfl, hkf, hkl, rfl, hw8, hx8⟩ := hrel
         rw [HX5.out] at hx8
         have x2 := jc hx8 2 rfl
         by_cases hkk : fN < k
         ·obtain ⟨i, rfl⟩ : ∃ i, k = i + 1 := ⟨k - 1, by omega⟩
          rw [show (((i + 1 : Nat) : Int) - 1) = i by omega]
          have hinr : i < nr := by omega
          have hfi : (fN : Int) ≤ i := by omega
          have hrn := rowsS_next nd f opn ib T (last := last) (i := i) (z0, E) (by omega)
          have hrl := rowsS_len nd f opn ib T last (z0, E) (last - (i + 1))
          obtain ⟨A, hA⟩ := je (rowsS nd f opn ib T last (z0, E) (last - (i + 1)))
          rw [hA] at hw8 hrn hrl ⊢
          obtain ⟨rest, E8⟩ := A
          have hw8 : FW w w8 w.heap.size (w.heap.size + 1) T E8 := hw8
          have hrl : E8.length = nr := by have : E8.length = E.length := hrl; rw [this, HLE.out]
          unfold rowS hereF at hrn
          simp only at hrn
          obtain ⟨mn', ra', rc', pa', pc', u3', u4', u5', u6', g1, g2, g3, gp, gr⟩ := (HN.out.below hw8.bel).pred
          rw [HR.out] at g1 g2 gr
          have hps := HO.out.ps i (by rw [HR.out]; exact hinr)
          have q1 := jc g1 1 rfl
          obtain ⟨b3, o3, a3, n3, c3, hra3, hbs3, r0, r1, r2, r3, hrd3⟩ := gr i hinr
          subst hra3
          generalize hrw : nd.rows.getD i zr = rw' at r0 r1 r2 hrd3 hps hrn
          obtain ⟨ax, ts, nm, ps⟩ := rw'
          simp only at r0 r1 r2 hrd3 hps hrn
          have HRN := jh hrn
          have hn3 := hrd3.len
          have hn3l : n3 ≤ 1048576 := by have := hps.1; omega
          have hH8 : H < w8.heap.size := jt hHs hw8.bel.size
          have hin' : (i : Int) < nr := by omega
          have hrr : (i : Int) < rc' := by omega
          obtain ⟨W9, hW9⟩ := je (w8.alloc (.cells #[.int .i64 ax, .int .i64 ts, .string nm, .slice a3 n3 c3] 55))
          have hX9 : W9.heap[w8.heap.size]? = some (.cells #[.int .i64 ax, .int .i64 ts, .string nm, .slice a3 n3 c3] 55) := by rw [← hW9]; exact jw _ _
          have hb9 : Below w8.heap.size w8 W9 := by rw [← hW9]; exact (jf _ _).alloc (jr _) _
          have hw9 := hw8.below hb9
          have h9x := (hb9.block wo.heap.size (lt_of_cell x2)).trans hx8
          have hFM9 := HFR.out.below hw9.bel
          have hTC : Calls Tryz.prog 105 #[.pointer (some ⟨F, 0, none⟩), .agg #[.int .i64 ax, .int .i64 ts, .string nm, .slice a3 n3 c3]] W9 fun e w' => e = .returned (.int .i64 (testF f ts nm)) ∧ Below W9.heap.size W9 w' := by
           obtain ⟨cB, dB, aB, hB, hpp, hFI⟩ := hFM9
           exact test_calls f _ _ _ _ F ax ts nm (.slice a3 n3 c3) W9 hFI.hF ⟨_, _, _, rfl⟩
          obtain ⟨z1, hz1⟩ := je (testF f ts nm)
          rw [hz1] at hTC
          have y0 := jc hX9 0 rfl; have y1 := jc hX9 1 rfl; have y2 := jc hX9 2 rfl; have y3 := jc hX9 3 rfl
          have hx9s : w8.heap.size < W9.heap.size := jl hX9
          have HTC := jh hTC
          have HZ1 := jh hz1
          have HW9 := jh hW9
          have HF9 := jh hw9
          have HX9 := jh hX9
          have H9X := jh h9x
          have HRD9 := jh (hrd3.below hb9)
          have HN3 := jh hn3
          have HPS := jh hps.2
          have HRL := jh hrl
          have HRW := jh hrw
          have hWT8 : w.heap.size + 1 < w8.heap.size := jl hw8.e
          clear hrn hrl hA hw8 g1 g2 g3 gp gr hps hrw hn3 hW9 hX9 hb9 hw9 h9x hFM9 hTC hz1 hrd3 hx8
          go_upto_region 19 with fail
          rw [HW9.out]
          go_wp2_with fail
          refine HTC.out.mono ?_
          rintro e w10 ⟨rfl, b10⟩
          have hw10 := HF9.out.below b10
          have hx10 := (b10.block w8.heap.size hx9s).trans HX9.out
          have h10x := (b10.block wo.heap.size (jl H9X.out)).trans H9X.out
          have hb11 : ∀ o, Below w10.heap.size w10 (w10.alloc o) := fun o => (jf _ _).alloc (jr _) _
          have HA11 := jh (al_two w10 z1 rest)
          have HF10 := jh hw10
          have HX10 := jh hx10
          have H10X := jh h10x
          have HRD10 := jh (HRD9.out.below b10)
          have y0 := jc hx10 0 rfl; have y3 := jc hx10 3 rfl
          have hx10s : w8.heap.size < w10.heap.size := lt_of_cell y0
          clear b10 hw10 hx10 h10x hb11 y1 y2 q1 r0 r1 r2 r3 x2
          go_wp2_with fail
          clear y0 y3
          go_loopw [20, 101] (fun v i wr => ∃ s : Nat, i = .int .i64 s ∧ s ≤ n3 ∧ AL w10 wr v ([z1, rest] ++ atL T (ps.take s))) (fun _ i _ => n3 - (intOf i).toNat)
          case atStart => exact ⟨0, rfl, jz _, by simp only [List.take_zero, atL, List.map_nil, List.append_nil]; exact HA11.out⟩
          case round =>
           obtain ⟨s, rfl, hs, hal⟩ := hrel
           have hwr := HF10.out.below hal.2
           by_cases hsn : s < n3
           ·have hsn' : (s : Int) < n3 := by omega
            obtain ⟨ba, oa, rfl, hba, hc⟩ := (HRD10.out.below hal.2).cell s hsn
            have k1 := hc s hsn
            have hk := get_gt (xs := ps) (q := s) (by have := HN3.out; omega)
            obtain ⟨a, ha⟩ := je (gt ps s)
            rw [ha] at k1 hk
            have hab := HPS.out a (List.mem_of_getElem? hk)
            obtain ⟨a', rfl⟩ : ∃ a' : Nat, a = a' := ⟨a.toNat, by omega⟩
            have ha2 : (a' : Int) < np := by have := HP.out; omega
            have kt : wr.cell? ⟨w.heap.size, a', none⟩ = some (.int .i64 (T.getD a' 0)) := il_cell hwr.t (get_getD (by rw [HLTT.out]; omega) 0)
            have HSN := jh (atL_snoc (T := T) hk)
            have hal' := hal
            obtain ⟨y, hy⟩ := je (T.getD a' 0)
            rw [show ((a' : Int)).toNat = a' from rfl, hy] at HSN
            rw [hy] at kt
            have HYL := jh (show ([z1, rest] ++ atL T (ps.take s)).length ≤ 1048576 + 2 by rw [jp, atL_len]; have := List.length_take_le s ps; have := HN3.out; simp; omega)
            clear hc hk ha hwr hab hy
            go_wp2_with (at_builtin; refine append_al2 w10 _ hal' rfl _ _ rfl _ rfl _ rfl (by simp) HYL.out ?_; intro ao cap w' hal2 hrd2)
            have HAL2 := jh hal2
            clear hal2 hrd2 hal hal'
            go_roundw
            case rel => exact ⟨s + 1, by go_num, by omega, by rw [HSN.out, ← List.append_assoc]; exact HAL2.out⟩
            case measure => simp [intOf]; omega
           ·obtain rfl : s = n3 := by omega
            have hxr := (hal.2.block w8.heap.size hx10s).trans HX10.out
            have h8r := (hal.2.block wo.heap.size (jl H10X.out)).trans H10X.out
            rw [jm (by rw [HN3.out]; exact jr _)] at hal
            obtain ⟨ao, cap, rfl, hrdp⟩ := Row.rd hal.1
            have HRP := jh hrdp
            have ke : wr.cell? ⟨w.heap.size + 1, i, none⟩ = some (.int .i64 (E8.getD i 0)) := il_cell hwr.e (get_getD (by rw [HRL.out]; omega) 0)
            have ze := cells_free hwr.e i
            have hes : w.heap.size + 1 < wr.heap.size := jl hwr.e
            have y0 := jc hxr 0 rfl
            have hne : w.heap.size + 1 ≠ w8.heap.size := by omega
            have HWR := jh hwr
            have H8R := jh h8r
            obtain ⟨av, hav⟩ := je (andF ([z1, rest] ++ atL T ps))
            have HAND := jh (and_calls _ _ _ _ wr hrdp)
            rw [hav] at HAND
            have HRN2 : Hid (rowsS nd f opn ib T last (z0, E) (last - i) = (alongF f ax i av opn ib, E8.set i av)) := jh (by
             have := HRN.out
             rw [HZ1.out, hav] at this
             exact this)
            have hwe := hwr.setE i av
            have hxe := (js wr ⟨w.heap.size + 1, i, none⟩ (.int .i64 av) w8.heap.size (Ne.symm hne)).trans hxr
            have h8e := (js wr ⟨w.heap.size + 1, i, none⟩ (.int .i64 av) wo.heap.size (by
             have := jl hw.e
             show wo.heap.size ≠ w.heap.size + 1
             omega)).trans h8r
            have HFE := jh hwe
            have H8E := jh h8e
            have ke2 : (wr.setCell ⟨w.heap.size + 1, i, none⟩ (.int .i64 av)).cell? ⟨w.heap.size + 1, i, none⟩ = some (.int .i64 av) := World.cell?_setCell_same _ _ _ ke
            have ye2 := jc hxe 0 rfl
            have HAC : Hid (∀ W, Below (wr.setCell ⟨w.heap.size + 1, i, none⟩ (.int .i64 av)).heap.size (wr.setCell ⟨w.heap.size + 1, i, none⟩ (.int .i64 av)) W → Calls Tryz.prog 106 #[.pointer (some ⟨F, 0, none⟩), .int .i64 ax, .int .i64 i, .int .i64 av, .bool opn, vi, vb] W fun e w' => e = .returned (.int .i64 (alongF f ax i av opn ib)) ∧ Below W.heap.size W w') := jh fun W hb => by
             have h1 := (HFE.out.below hb).bel
             exact along_calls f tg j F nd.rows.length nd.preds.length i ax av opn vi vb ib W (HFR.out.below h1) (by rw [HR.out]; exact hinr) (HIB.out.below h1)
            obtain ⟨lv, hlv⟩ := je (alongF f ax i av opn ib)
            rw [hlv] at HAC HRN2
            clear hal hrdp hxr h8r hwr hav hwe hxe h8e hlv hw
            go_upto_region 26 with (go_at_call 102; refine HAND.out.mono ?_; rintro e w' ⟨rfl, rfl⟩)
            go_region_with (first
             | (go_at_call 106; refine (HAC.out _ (by first | exact jf _ _ | exact (jf _ _).drew)).mono ?_; rintro e w13 ⟨rfl, b13⟩; have hb13 := (((jf _ _).drew).trans b13); have HB13 := jh hb13; clear b13 hb13))
            all_goals
             have HF13 := jh (HFE.out.below HB13.out)
             have H13X := jh ((HB13.out.block wo.heap.size (jl H8E.out)).trans H8E.out)
             clear ke2 ye2 ke ze y0
             go_wp2_with fail
             go_roundw
             case rel => exact ⟨i, by go_num, by omega, by omega, by rw [HRN2.out], by rw [HRN2.out]; exact HF13.out, by rw [HX5.out]; exact H13X.out⟩
             case measure => first | (simp [intOf]; done) | (simp [intOf]; omega)
         ·obtain rfl : k = fN := by omega
          obtain ⟨A, hA⟩ := je (rowsS nd f opn ib T last (z0, E) (last - k))
          rw [hA] at hw8 ⊢
          obtain ⟨rest, E8⟩ := A
          have hw8 : FW w w8 w.heap.size (w.heap.size + 1) T E8 := hw8
          have HNX3 : Hid (predsS nd f opn ib (np - p) = (T.set p rest, E8)) := jh (by
           have := HNX2.out
           rw [if_neg (by decide), if_neg (by decide), if_neg (by decide), show ((k : Int) + (cN : Int)).toNat = last by omega, show ((cN : Int)).toNat = last - k by omega, HZ0.out, hA] at this
           exact this)
          have kt : w8.cell? ⟨w.heap.size, p, none⟩ = some (.int .i64 (T.getD p 0)) := il_cell hw8.t (get_getD (by rw [HLTT.out]; omega) 0)
          have zt := cells_free hw8.t p
          have hwts : w.heap.size < w8.heap.size := jl hw8.t
          have HFIN := jh (hw8.setT p rest)
          have hnk : ¬ (k : Int) ≤ (k : Int) - 1 := by omega
          clear hA hw8 hw hx8 HSO HNX HNX2
          go_wp2_with fail
          go_roundw
          case rel => exact ⟨p, by go_num, by omega, by rw [HNX3.out]; exact HFIN.out⟩
          case measure => first | (simp [intOf]; done) | (simp [intOf]; omega)
end Go.Proofs.YtkhejkfjhddobaaGreatDoor
