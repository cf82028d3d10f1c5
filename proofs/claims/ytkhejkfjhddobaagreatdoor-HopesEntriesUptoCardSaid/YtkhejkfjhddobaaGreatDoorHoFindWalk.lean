/- (*Hopes).find walked. -/
import Derived.Test.YtkhejkfjhddobaaGreatDoorHoAlongM
namespace Go.Proofs.YtkhejkfjhddobaaGreatDoor
open Go.RowKit Gim
theorem predsS_next (nd : NetD) (f : FrS) (opn : Bool) (ib : Option (List Int × List Int)) {p : Nat} (hp : p < nd.preds.length) : predsS nd f opn ib (nd.preds.length - p) = predS nd f opn ib (predsS nd f opn ib (nd.preds.length - (p + 1))) p := by
  obtain ⟨d, hd⟩ : ∃ d, nd.preds.length - (p + 1) = d := ⟨_, rfl⟩
  rw [hd, show nd.preds.length - p = d + 1 by omega]
  show predS nd f opn ib (predsS nd f opn ib d) (nd.preds.length - (d + 1)) = _
  rw [show nd.preds.length - (d + 1) = p by omega]
theorem rowsS_next (nd : NetD) (f : FrS) (opn : Bool) (ib : Option (List Int × List Int)) (T : List Int) {last i : Nat} (acc : Int × List Int) (hi : i < last) : rowsS nd f opn ib T last acc (last - i) = rowS nd f opn ib T (rowsS nd f opn ib T last acc (last - (i + 1))) i := by
  obtain ⟨d, hd⟩ : ∃ d, last - (i + 1) = d := ⟨_, rfl⟩
  rw [hd, show last - i = d + 1 by omega]
  show rowS nd f opn ib T (rowsS nd f opn ib T last acc d) (last - (d + 1)) = _
  rw [show last - (d + 1) = i by omega]
theorem IB.below {w w' : World} {vi vb : Value} {nr : Nat} {ib : Option (List Int × List Int)} (h : IB w vi vb nr ib) (hb : Below w.heap.size w w') : IB w' vi vb nr ib := by
  cases ib with
  | none => exact h
  | some p =>
    obtain ⟨b, b2, h1, h2, h3, h4, h5, h6⟩ := h
    exact ⟨b, b2, h1, h2, h3, h4, (hb.block b (Array.getElem?_eq_some_iff.1 h5).1).trans h5, (hb.block b2 (Array.getElem?_eq_some_iff.1 h6).1).trans h6⟩
theorem al_nil (w : World) : AL w w (.slice none 0 0) [] := ⟨World.ownsRow_nil _ _ _ _, Below.refl _ _⟩
theorem al_two (w : World) (x y : Int) : AL w (w.alloc (.cells #[.int .i64 x, .int .i64 y] 67)) (.slice (some ⟨w.heap.size, 0, none⟩) 2 2) [x, y] :=
  ⟨⟨by simp, .inr ⟨w.heap.size, 2, #[.int .i64 x, .int .i64 y], rfl, Nat.le_refl _, heap_alloc_new w _, by simp, by unfold maxLen; omega, by simp, by simp⟩⟩, (Below.refl _ _).alloc (Nat.le_refl _) _⟩
theorem append_al2 (w wx : World) {ops : Array Oper} {rest : List Oper} {o : Oper} {a : Act} {Q : Exit → Act → World → Prop} {v : Value} {ys : List Int} (h : AL w wx v ys) (hg : o.guard = none) (s x : Operand)
    (ho : o.op = .call { callee := .builtin .append, args := #[s, x], argTypes := #[84, 84] }) (z : Int) (hs : a.eval s = v) (X : Nat) (hx : a.eval x = .slice (some ⟨X, 0, none⟩) 1 1) (hX : X = wx.heap.size) (hlen : ys.length ≤ 1048576 + 2)
    (hK : ∀ ao cap w', AL w w' (.slice ao (ys.length + 1) cap) (ys ++ [z]) → Rd w' .i64 ao (ys.length + 1) cap (ys ++ [z]) → wpList Tryz.prog ops Q rest (a.put o.dst (.slice ao (ys.length + 1) cap)) w') :
    wpList Tryz.prog ops Q (o :: rest) a (wx.alloc (.cells #[.int .i64 z] 67)) := by
  subst hX
  have hb1 : Below wx.heap.size wx (wx.alloc (.cells #[.int .i64 z] 67)) := (Below.refl _ _).alloc (Nat.le_refl _) _
  refine append_rt _ hg s x ho w.heap.size v ys hs (World.ownsRow.alloc h.1 _) _ 1 1 [z] hx (rd_one wx z _) (by simp) (by omega) (Nat.le_trans h.2.size hb1.size) ?_
  intro v' w' hrow hgrow
  have hbel : Below w.heap.size w w' := by
    have hb2 := h.2.trans (hb1.mono h.2.size)
    refine ⟨hgrow.os.trans hb2.os, hgrow.tape.trans hb2.tape, hgrow.output.trans hb2.output, Nat.le_trans hb2.size hgrow.size, fun b hb => (hgrow.block b (Nat.lt_of_lt_of_le hb hb2.size) ?_).trans (hb2.block b hb)⟩
    intro e
    have := (Row.lt h.1 b e.symm).1
    omega
  obtain ⟨ao, cap, e, hrd⟩ := Row.rd hrow
  rw [List.length_append] at e hrd
  subst e
  exact hK ao cap w' ⟨hrow, hbel⟩ hrd
/-- what find hands back -/
def FindP (w : World) (r : List Int × List Int) (np nr : Nat) (e : Ending) (w' : World) : Prop := ∃ b b2, e = .returned (.tuple #[.slice (some ⟨b, 0, none⟩) np np, .slice (some ⟨b2, 0, none⟩) nr nr]) ∧ FW w w' b b2 r.1 r.2
set_option maxRecDepth 100000 in
set_option maxHeartbeats 32000000 in
theorem find_calls (nd : NetD) (f : FrS) (tg : Nat → Nat × Nat) (j F H : Nat) (opn : Bool) (vi vb : Value) (ib : Option (List Int × List Int)) (w : World) (hN : HNet w H nd) (hok : NetOk nd) (h : FrM w tg j F nd.rows.length nd.preds.length f) (hib : IB w vi vb nd.rows.length ib) :
    Calls Tryz.prog 66 #[.pointer (some ⟨H, 0, none⟩), .pointer (some ⟨F, 0, none⟩), .bool opn, vi, vb] w (FindP w (findF nd f opn ib) nd.preds.length nd.rows.length) := by
  have hnp := hok.np
  have hnr := hok.nr
  have HLT := Lib.hid (predsS_len nd f opn ib)
  obtain ⟨np, hnpe⟩ : ∃ np, nd.preds.length = np := ⟨_, rfl⟩
  obtain ⟨nr, hnre⟩ : ∃ nr, nd.rows.length = nr := ⟨_, rfl⟩
  have hmk1 := fun w => run_make_row' (P := Tryz.prog) 84 67 (.int .i64 0) 8 Tryz.underlying84 (by kernel_rfl) rfl .i64 .i64 np (by omega) (by omega) w
  have hmk2 := fun w => run_make_row' (P := Tryz.prog) 84 67 (.int .i64 0) 8 Tryz.underlying84 (by kernel_rfl) rfl .i64 .i64 nr (by omega) (by omega) w
  obtain ⟨mn, ra, rc, pa, pc, v3, v4, v5, v6, h1, h2, h3, _, _⟩ := hN.pred
  have hPN : HNet w H nd := hN
  rw [hnpe] at h1 h3 hnp
  rw [hnre] at h1 h2 hnr
  have q1 : w.cell? ⟨H, 1, none⟩ = some (.slice ra nr rc) := by simp [World.cell?, h1]
  have q2 : w.cell? ⟨H, 2, none⟩ = some (.slice pa np pc) := by simp [World.cell?, h1]
  have hHs : H < w.heap.size := (Array.getElem?_eq_some_iff.1 h1).1
  have HN := Lib.hid hPN
  have HO := Lib.hid hok
  have HFR := Lib.hid h
  have HIB := Lib.hid hib
  have HP := Lib.hid hnpe
  have HR := Lib.hid hnre
  have hw0 : FW w ((w.alloc (.cells (madeCells #[.int .i64 0] np) 67)).alloc (.cells (madeCells #[.int .i64 0] nr) 67)) w.heap.size (w.heap.size + 1) (predsS nd f opn ib 0).1 (predsS nd f opn ib 0).2 := by
    obtain ⟨a0, a1, _, a3⟩ := alloc2 w (.cells (madeCells #[.int .i64 0] np) 67) (.cells (madeCells #[.int .i64 0] nr) 67)
    refine ⟨a3, ?_, ?_, by omega⟩
    · rw [a0, made_il, ← hnpe]; rfl
    · rw [a1, made_il, ← hnre]; rfl
  have HW0 := Lib.hid hw0
  have HFI := Lib.hid (show findF nd f opn ib = predsS nd f opn ib np by unfold findF; rw [hnpe])
  rw [HFI.out, hnpe, hnre]
  clear hok h hib hN hPN h1 hw0 hnpe hnre
  go_enter Tryz.func66, Tryz.ntmps66
  go_wp2_with fail
  clear hmk1 hmk2 q1 q2
  go_loopw [12] (fun i wr => ∃ k : Nat, i = .int .i64 ((k : Int) - 1) ∧ k ≤ np ∧ FW w wr w.heap.size (w.heap.size + 1) (predsS nd f opn ib (np - k)).1 (predsS nd f opn ib (np - k)).2) (fun i _ => (RowKit.intOf i + 1).toNat)
  case atStart => exact ⟨np, rfl, Nat.le_refl _, by rw [Nat.sub_self]; exact HW0.out⟩
  case round =>
    revert hrel
    revert wr
    intro wo hrel
    obtain ⟨k, rfl, hk, hw⟩ := hrel
    cases k with
    | zero =>
      have HWQ := Lib.hid hw
      clear hw
      go_wp2_with fail
      go_ret2
      exact ⟨_, _, rfl, HWQ.out⟩
    | succ p =>
      have hpn : p < np := by omega
      rw [show (((p + 1 : Nat) : Int) - 1) = p by omega]
      have hnext := predsS_next nd f opn ib (p := p) (by rw [HP.out]; exact hpn)
      rw [HP.out] at hnext
      have hlen := HLT.out (np - (p + 1))
      rw [HP.out, HR.out] at hlen
      obtain ⟨S, hS⟩ : ∃ S, predsS nd f opn ib (np - (p + 1)) = S := ⟨_, rfl⟩
      rw [hS] at hw hnext hlen
      obtain ⟨T, E⟩ := S
      have hw : FW w wo w.heap.size (w.heap.size + 1) T E := hw
      have hlT : T.length = np := hlen.1
      have hlE : E.length = nr := hlen.2
      have HLE := Lib.hid hlE
      have HLTT := Lib.hid hlT
      have hNo := HN.out.below hw.bel
      obtain ⟨mn', ra', rc', pa', pc', u3', u4', u5', u6', g1, g2, g3, gp, gr⟩ := hNo.pred
      rw [HP.out] at g1 g3 gp
      rw [HR.out] at g1 g2 gr
      have q1 : wo.cell? ⟨H, 1, none⟩ = some (.slice ra' nr rc') := by simp [World.cell?, g1]
      have q2 : wo.cell? ⟨H, 2, none⟩ = some (.slice pa' np pc') := by simp [World.cell?, g1]
      obtain ⟨b, o, aa, an, ac, hpa, hbs, d0, d1, d2, d3, d4, d5, d6, d7, hrd⟩ := gp p hpn
      subst hpa
      have hop := HO.out.op p (by rw [HP.out]; exact hpn)
      have hag := HO.out.args p (by rw [HP.out]; exact hpn)
      have hon := HO.out.one p (by rw [HP.out]; exact hpn)
      have hso := HO.out.some p (by rw [HP.out]; exact hpn)
      have hnx : predsS nd f opn ib (np - p) = predS nd f opn ib (T, E) p := hnext
      unfold predS at hnx
      simp only at hnx
      generalize hpd : nd.preds.getD p zp = pd at d0 d2 d3 d4 d5 d6 d7 hrd hop hag hon hso hnx
      obtain ⟨op, args, first, count, attr, cmp, txt, num⟩ := pd
      simp only at d0 d2 d3 d4 d5 d6 d7 hrd hop hag hon hso hnx
      have HNX := Lib.hid hnx
      have han := hrd.len
      have hal1 := hag.1
      have hanl : an ≤ 1048576 := by omega
      have hHo : H < wo.heap.size := Nat.lt_of_lt_of_le hHs hw.bel.size
      have hp' : (p : Int) < np := by omega
      have hpp : (p : Int) < pc' := by omega
      obtain ⟨W5, hW5⟩ : ∃ W5, wo.alloc (.cells #[.int .i64 op, .slice aa an ac, .int .i64 first, .int .i64 count, .string attr, .int .i64 cmp, .string txt, .int .i64 num] 59) = W5 := ⟨_, rfl⟩
      have hX5 : W5.heap[wo.heap.size]? = some (.cells #[.int .i64 op, .slice aa an ac, .int .i64 first, .int .i64 count, .string attr, .int .i64 cmp, .string txt, .int .i64 num] 59) := by rw [← hW5]; exact heap_alloc_new _ _
      have hb5 : Below wo.heap.size wo W5 := by rw [← hW5]; exact (Below.refl _ _).alloc (Nat.le_refl _) _
      have hw5 := hw.below hb5
      have hrd5 := hrd.below hb5
      have x0 : W5.cell? ⟨wo.heap.size, 0, none⟩ = some (.int .i64 op) := by simp [World.cell?, hX5]
      have x1 : W5.cell? ⟨wo.heap.size, 1, none⟩ = some (.slice aa an ac) := by simp [World.cell?, hX5]
      have hx5s : wo.heap.size < W5.heap.size := (Array.getElem?_eq_some_iff.1 hX5).1
      have HW5 := Lib.hid hW5
      have HF5 := Lib.hid hw5
      have HX5 := Lib.hid hX5
      have HRD5 := Lib.hid hrd5
      have HAL := Lib.hid han
      have HAG := Lib.hid hag.2
      have HON := Lib.hid hon
      have HSO := Lib.hid hso
      have HOP := Lib.hid hop
      have HPD := Lib.hid hpd
      have HA0 := Lib.hid (al_nil W5)
      have hWT : w.heap.size + 1 ≤ wo.heap.size := by have := hw.t; have := (Array.getElem?_eq_some_iff.1 this).1; omega
      clear hnext hS hlen hw hNo g1 g2 g3 gp gr hop hag hon hso hnx hW5 hX5 hb5 hw5 hrd hrd5 han hal1 hpd hlT hlE
      go_upto_region 8 with fail
      rw [HW5.out]
      go_wp2_with fail
      clear q1 q2 d0 d1 d2 d3 d4 d5 d6 d7
      go_loopw [14, 55] (fun v i wr => ∃ q : Nat, i = .int .i64 q ∧ q ≤ an ∧ AL W5 wr v (atL T (args.take q))) (fun _ i _ => an - (RowKit.intOf i).toNat)
      case atStart => exact ⟨0, rfl, Nat.zero_le _, HA0.out⟩
      case round =>
        obtain ⟨q, rfl, hq, hal⟩ := hrel
        have hwr := HF5.out.below hal.2
        by_cases hqn : q < an
        · have hqn' : (q : Int) < an := by omega
          obtain ⟨ba, oa, rfl, hba, hc⟩ := (HRD5.out.below hal.2).cell q hqn
          have k1 := hc q hqn
          have hk := get_gt (xs := args) (q := q) (by have := HAL.out; omega)
          obtain ⟨a, ha⟩ : ∃ a, gt args q = a := ⟨_, rfl⟩
          rw [ha] at k1 hk
          have hab := HAG.out a (List.mem_of_getElem? hk)
          obtain ⟨a', rfl⟩ : ∃ a' : Nat, a = a' := ⟨a.toNat, by omega⟩
          have ha2 : (a' : Int) < np := by have := HP.out; omega
          have kt : wr.cell? ⟨w.heap.size, a', none⟩ = some (.int .i64 (T.getD a' 0)) := il_cell hwr.t (get_getD (by rw [HLTT.out]; omega) 0)
          have hsn := atL_snoc (T := T) hk
          have HSN := Lib.hid hsn
          have hal' := hal
          have hwts : w.heap.size < wr.heap.size := (Array.getElem?_eq_some_iff.1 hwr.t).1
          obtain ⟨y, hy⟩ : ∃ y, T.getD a' 0 = y := ⟨_, rfl⟩
          rw [show ((a' : Int)).toNat = a' from rfl, hy] at HSN
          rw [hy] at kt
          have HYL := Lib.hid (show (atL T (args.take q)).length ≤ 1048576 by rw [atL_len]; have := List.length_take_le q args; have := HAL.out; omega)
          clear hc hk ha hsn hwr hab hy
          go_wp2_with (at_builtin; refine append_al W5 _ hal' rfl _ _ rfl _ rfl _ rfl (by simp) HYL.out ?_; intro ao cap w' hal2 hrd2)
          have HAL2 := Lib.hid hal2
          clear hal2 hrd2 hal hal'
          go_roundw
          case rel => exact ⟨q + 1, by go_num, by omega, by rw [HSN.out]; exact HAL2.out⟩
          case measure => simp [RowKit.intOf]; omega
        · obtain rfl : q = an := by omega
          have hxr := (hal.2.block wo.heap.size hx5s).trans HX5.out
          have x0 : wr.cell? ⟨wo.heap.size, 0, none⟩ = some (.int .i64 op) := by simp [World.cell?, hxr]
          have HXR := Lib.hid hxr
          rw [List.take_of_length_le (by rw [HAL.out]; exact Nat.le_refl _)] at hal
          obtain ⟨ao, cap, rfl, hrdp⟩ := Row.rd hal.1
          rw [atL_len, HAL.out] at hrdp ⊢
          have HRP := Lib.hid hrdp
          have kt : wr.cell? ⟨w.heap.size, p, none⟩ = some (.int .i64 (T.getD p 0)) := il_cell hwr.t (get_getD (by rw [HLTT.out]; omega) 0)
          have zt := cells_free hwr.t p
          have hwts : w.heap.size < wr.heap.size := (Array.getElem?_eq_some_iff.1 hwr.t).1
          have HWR := Lib.hid hwr
          have hpw : w.heap.size ≠ wo.heap.size := by omega
          by_cases ho0 : op = 0
          · subst ho0
            have HNX2 := Lib.hid HNX.out
            clear hal hrdp hxr hwr
            go_wp2_with (go_at_call 102; refine (and_calls _ _ _ _ _ HRP.out).mono ?_; rintro e w' ⟨rfl, rfl⟩)
            have HFIN := Lib.hid (HWR.out.setT p (andF (atL T args)))
            clear HRP HXR
            go_roundw
            case rel => exact ⟨p, by go_num, by omega, by rw [HNX2.out]; first | exact HFIN.out | (rw [if_pos (by first | rfl | trivial)]; exact HFIN.out)⟩
            case measure => first | (simp [RowKit.intOf]; done) | (simp [RowKit.intOf]; omega)
          · have qo0 : (op == 0) = false := beq_eq_false_iff_ne.2 ho0
            by_cases ho1 : op = 1
            · subst ho1
              have HNX2 := Lib.hid HNX.out
              clear hal hrdp hxr hwr ho0
              go_wp2_with (go_at_call 68; refine (or_calls _ _ _ _ _ HRP.out).mono ?_; rintro e w' ⟨rfl, rfl⟩)
              have HFIN := Lib.hid (HWR.out.setT p (orF (atL T args)))
              clear HRP HXR
              go_roundw
              case rel => exact ⟨p, by go_num, by omega, by rw [HNX2.out]; first | exact HFIN.out | (rw [if_neg (by decide), if_pos (by first | rfl | trivial)]; exact HFIN.out)⟩
              case measure => first | (simp [RowKit.intOf]; done) | (simp [RowKit.intOf]; omega)
            · have qo1 : (op == 1) = false := beq_eq_false_iff_ne.2 ho1
              by_cases ho2 : op = 2
              · subst ho2
                have HNX2 := Lib.hid HNX.out
                have hpos : 0 < q := by have := HON.out rfl; have := HAL.out; omega
                have hpos' : (0 : Int) < q := by omega
                obtain ⟨bz, oz, rfl, hbz, hcz⟩ := hrdp.cell 0 hpos
                have kz := hcz 0 hpos
                rw [Nat.add_zero] at kz
                obtain ⟨y, hy⟩ : ∃ y, gt (atL T args) 0 = y := ⟨_, rfl⟩
                rw [hy] at kz
                have HY := Lib.hid (show (atL T args).getD 0 0 = y from hy)
                clear hal hrdp hxr hwr ho0 ho1 hcz hy
                go_wp2_with (go_at_call 103; refine (knot_calls _ _).mono ?_; rintro e w' ⟨rfl, rfl⟩)
                have HFIN := Lib.hid (HWR.out.setT p (2 - seenB y))
                clear HRP HXR
                go_roundw
                case rel => exact ⟨p, by go_num, by omega, by rw [HNX2.out]; first | (rw [if_neg (by decide), if_neg (by decide), if_pos (by first | rfl | trivial), HY.out]; exact HFIN.out) | (rw [HY.out]; exact HFIN.out)⟩
                case measure => first | (simp [RowKit.intOf]; done) | (simp [RowKit.intOf]; omega)
              · have qo2 : (op == 2) = false := beq_eq_false_iff_ne.2 ho2
                obtain rfl : op = 3 := by have := HOP.out; omega
                have HNX2 := Lib.hid HNX.out
                obtain ⟨hf0, hc0, hfc⟩ := HSO.out rfl
                obtain ⟨fN, rfl⟩ : ∃ fN : Nat, first = fN := ⟨first.toNat, by omega⟩
                obtain ⟨cN, rfl⟩ : ∃ cN : Nat, count = cN := ⟨count.toNat, by omega⟩
                have hfc' : fN + cN ≤ nr := by have := HR.out; omega
                have x1 : wr.cell? ⟨wo.heap.size, 1, none⟩ = some (.slice aa q ac) := by simp [World.cell?, hxr]
                have x2 : wr.cell? ⟨wo.heap.size, 2, none⟩ = some (.int .i64 fN) := by simp [World.cell?, hxr]
                have x3 : wr.cell? ⟨wo.heap.size, 3, none⟩ = some (.int .i64 cN) := by simp [World.cell?, hxr]
                have x4 : wr.cell? ⟨wo.heap.size, 4, none⟩ = some (.string attr) := by simp [World.cell?, hxr]
                have x5 : wr.cell? ⟨wo.heap.size, 5, none⟩ = some (.int .i64 cmp) := by simp [World.cell?, hxr]
                have x6 : wr.cell? ⟨wo.heap.size, 6, none⟩ = some (.string txt) := by simp [World.cell?, hxr]
                have x7 : wr.cell? ⟨wo.heap.size, 7, none⟩ = some (.int .i64 num) := by simp [World.cell?, hxr]
                have hCM := compares_calls f tg j F nd.rows.length nd.preds.length p 3 (.slice aa q ac) fN cN attr cmp txt num wr (HFR.out.below hwr.bel) (by rw [HP.out]; exact hpn) ⟨_, _, _, rfl⟩
                obtain ⟨z0, hz0⟩ : ∃ z0, cmpF f p attr cmp = z0 := ⟨_, rfl⟩
                rw [hz0] at hCM
                have HZ0 := Lib.hid hz0
                have HCM := Lib.hid hCM
                clear hal hrdp hxr hwr ho0 ho1 ho2 hCM hz0 HRP hf0 hc0 hfc
                go_wp2_with fail
                refine HCM.out.mono ?_
                rintro e w6 ⟨rfl, b6⟩
                have hx6 := (b6.block wo.heap.size (lt_of_cell x0)).trans HXR.out
                have HF6 := Lib.hid (HWR.out.below b6)
                have x2 : w6.cell? ⟨wo.heap.size, 2, none⟩ = some (.int .i64 fN) := by simp [World.cell?, hx6]
                have x3 : w6.cell? ⟨wo.heap.size, 3, none⟩ = some (.int .i64 cN) := by simp [World.cell?, hx6]
                have HX6 := Lib.hid hx6
                have hfn1 : (fN : Int) + cN ≤ 9223372036854775807 := by omega
                clear b6 hx6 x0 x1 x4 x5 x6 x7 kt zt hwts
                obtain ⟨last, hlast⟩ : ∃ last, fN + cN = last := ⟨_, rfl⟩
                have HLA := Lib.hid hlast
                have HST3 : Hid (FW w w6 w.heap.size (w.heap.size + 1) T (rowsS nd f opn ib T last (z0, E) (last - last)).2 ∧ w6.heap[wo.heap.size]? = W5.heap[wo.heap.size]? ∧ (Value.int .i64 z0) = .int .i64 (rowsS nd f opn ib T last (z0, E) (last - last)).1) := Lib.hid (by
                  rw [Nat.sub_self]
                  exact ⟨HF6.out, by rw [HX6.out, HX5.out], rfl⟩)
                go_wp2_with fail
                rw [show ((fN : Int) + cN - 1) = (last : Int) - 1 by omega]
                clear x3
                go_loopw [17, 18] (fun v i wr => ∃ k : Nat, i = .int .i64 ((k : Int) - 1) ∧ fN ≤ k ∧ k ≤ last ∧ v = .int .i64 (rowsS nd f opn ib T last (z0, E) (last - k)).1 ∧ FW w wr w.heap.size (w.heap.size + 1) T (rowsS nd f opn ib T last (z0, E) (last - k)).2 ∧ wr.heap[wo.heap.size]? = W5.heap[wo.heap.size]?) (fun _ i _ => (RowKit.intOf i + 1).toNat)
                case atStart => exact ⟨last, rfl, by omega, Nat.le_refl _, HST3.out.2.2, HST3.out.1, HST3.out.2.1⟩
                case round =>
                  revert hrel
                  revert wr
                  intro w8 hrel
                  obtain ⟨k, rfl, hkf, hkl, rfl, hw8, hx8⟩ := hrel
                  rw [HX5.out] at hx8
                  have x2 : w8.cell? ⟨wo.heap.size, 2, none⟩ = some (.int .i64 fN) := by simp [World.cell?, hx8]
                  by_cases hkk : fN < k
                  · obtain ⟨i, rfl⟩ : ∃ i, k = i + 1 := ⟨k - 1, by omega⟩
                    rw [show (((i + 1 : Nat) : Int) - 1) = i by omega]
                    have hinr : i < nr := by omega
                    have hfi : (fN : Int) ≤ i := by omega
                    have hrn := rowsS_next nd f opn ib T (last := last) (i := i) (z0, E) (by omega)
                    have hrl := rowsS_len nd f opn ib T last (z0, E) (last - (i + 1))
                    obtain ⟨A, hA⟩ : ∃ A, rowsS nd f opn ib T last (z0, E) (last - (i + 1)) = A := ⟨_, rfl⟩
                    rw [hA] at hw8 hrn hrl ⊢
                    obtain ⟨rest, E8⟩ := A
                    have hw8 : FW w w8 w.heap.size (w.heap.size + 1) T E8 := hw8
                    have hrl : E8.length = nr := by have : E8.length = E.length := hrl; rw [this, HLE.out]
                    unfold rowS hereF at hrn
                    simp only at hrn
                    obtain ⟨mn', ra', rc', pa', pc', u3', u4', u5', u6', g1, g2, g3, gp, gr⟩ := (HN.out.below hw8.bel).pred
                    rw [HR.out] at g1 g2 gr
                    have hps := HO.out.ps i (by rw [HR.out]; exact hinr)
                    have q1 : w8.cell? ⟨H, 1, none⟩ = some (.slice ra' nr rc') := by simp [World.cell?, g1]
                    obtain ⟨b3, o3, a3, n3, c3, hra3, hbs3, r0, r1, r2, r3, hrd3⟩ := gr i hinr
                    subst hra3
                    generalize hrw : nd.rows.getD i zr = rw' at r0 r1 r2 hrd3 hps hrn
                    obtain ⟨ax, ts, nm, ps⟩ := rw'
                    simp only at r0 r1 r2 hrd3 hps hrn
                    have HRN := Lib.hid hrn
                    have hn3 := hrd3.len
                    have hn3l : n3 ≤ 1048576 := by have := hps.1; omega
                    have hH8 : H < w8.heap.size := Nat.lt_of_lt_of_le hHs hw8.bel.size
                    have hin' : (i : Int) < nr := by omega
                    have hrr : (i : Int) < rc' := by omega
                    obtain ⟨W9, hW9⟩ : ∃ W9, w8.alloc (.cells #[.int .i64 ax, .int .i64 ts, .string nm, .slice a3 n3 c3] 55) = W9 := ⟨_, rfl⟩
                    have hX9 : W9.heap[w8.heap.size]? = some (.cells #[.int .i64 ax, .int .i64 ts, .string nm, .slice a3 n3 c3] 55) := by rw [← hW9]; exact heap_alloc_new _ _
                    have hb9 : Below w8.heap.size w8 W9 := by rw [← hW9]; exact (Below.refl _ _).alloc (Nat.le_refl _) _
                    have hw9 := hw8.below hb9
                    have h9x := (hb9.block wo.heap.size (lt_of_cell x2)).trans hx8
                    have hFM9 := HFR.out.below hw9.bel
                    have hTC : Calls Tryz.prog 105 #[.pointer (some ⟨F, 0, none⟩), .agg #[.int .i64 ax, .int .i64 ts, .string nm, .slice a3 n3 c3]] W9 fun e w' => e = .returned (.int .i64 (testF f ts nm)) ∧ Below W9.heap.size W9 w' := by
                      obtain ⟨cB, dB, aB, hB, hpp, hFI⟩ := hFM9
                      exact test_calls f _ _ _ _ F ax ts nm (.slice a3 n3 c3) W9 hFI.hF ⟨_, _, _, rfl⟩
                    obtain ⟨z1, hz1⟩ : ∃ z1, testF f ts nm = z1 := ⟨_, rfl⟩
                    rw [hz1] at hTC
                    have y0 : W9.cell? ⟨w8.heap.size, 0, none⟩ = some (.int .i64 ax) := by simp [World.cell?, hX9]
                    have y1 : W9.cell? ⟨w8.heap.size, 1, none⟩ = some (.int .i64 ts) := by simp [World.cell?, hX9]
                    have y2 : W9.cell? ⟨w8.heap.size, 2, none⟩ = some (.string nm) := by simp [World.cell?, hX9]
                    have y3 : W9.cell? ⟨w8.heap.size, 3, none⟩ = some (.slice a3 n3 c3) := by simp [World.cell?, hX9]
                    have hx9s : w8.heap.size < W9.heap.size := (Array.getElem?_eq_some_iff.1 hX9).1
                    have HTC := Lib.hid hTC
                    have HZ1 := Lib.hid hz1
                    have HW9 := Lib.hid hW9
                    have HF9 := Lib.hid hw9
                    have HX9 := Lib.hid hX9
                    have H9X := Lib.hid h9x
                    have HRD9 := Lib.hid (hrd3.below hb9)
                    have HN3 := Lib.hid hn3
                    have HPS := Lib.hid hps.2
                    have HRL := Lib.hid hrl
                    have HRW := Lib.hid hrw
                    have hWT8 : w.heap.size + 1 < w8.heap.size := (Array.getElem?_eq_some_iff.1 hw8.e).1
                    clear hrn hrl hA hw8 g1 g2 g3 gp gr hps hrw hn3 hW9 hX9 hb9 hw9 h9x hFM9 hTC hz1 hrd3 hx8
                    go_upto_region 19 with fail
                    rw [HW9.out]
                    go_wp2_with fail
                    refine HTC.out.mono ?_
                    rintro e w10 ⟨rfl, b10⟩
                    have hw10 := HF9.out.below b10
                    have hx10 := (b10.block w8.heap.size hx9s).trans HX9.out
                    have h10x := (b10.block wo.heap.size (Array.getElem?_eq_some_iff.1 H9X.out).1).trans H9X.out
                    have hb11 : ∀ o, Below w10.heap.size w10 (w10.alloc o) := fun o => (Below.refl _ _).alloc (Nat.le_refl _) _
                    have HA11 := Lib.hid (al_two w10 z1 rest)
                    have HF10 := Lib.hid hw10
                    have HX10 := Lib.hid hx10
                    have H10X := Lib.hid h10x
                    have HRD10 := Lib.hid (HRD9.out.below b10)
                    have y0 : w10.cell? ⟨w8.heap.size, 0, none⟩ = some (.int .i64 ax) := by simp [World.cell?, hx10]
                    have y3 : w10.cell? ⟨w8.heap.size, 3, none⟩ = some (.slice a3 n3 c3) := by simp [World.cell?, hx10]
                    have hx10s : w8.heap.size < w10.heap.size := lt_of_cell y0
                    clear b10 hw10 hx10 h10x hb11 y1 y2 q1 r0 r1 r2 r3 x2
                    go_wp2_with fail
                    clear y0 y3
                    go_loopw [20, 101] (fun v i wr => ∃ s : Nat, i = .int .i64 s ∧ s ≤ n3 ∧ AL w10 wr v ([z1, rest] ++ atL T (ps.take s))) (fun _ i _ => n3 - (RowKit.intOf i).toNat)
                    case atStart => exact ⟨0, rfl, Nat.zero_le _, by simp only [List.take_zero, atL, List.map_nil, List.append_nil]; exact HA11.out⟩
                    case round =>
                      obtain ⟨s, rfl, hs, hal⟩ := hrel
                      have hwr := HF10.out.below hal.2
                      by_cases hsn : s < n3
                      · have hsn' : (s : Int) < n3 := by omega
                        obtain ⟨ba, oa, rfl, hba, hc⟩ := (HRD10.out.below hal.2).cell s hsn
                        have k1 := hc s hsn
                        have hk := get_gt (xs := ps) (q := s) (by have := HN3.out; omega)
                        obtain ⟨a, ha⟩ : ∃ a, gt ps s = a := ⟨_, rfl⟩
                        rw [ha] at k1 hk
                        have hab := HPS.out a (List.mem_of_getElem? hk)
                        obtain ⟨a', rfl⟩ : ∃ a' : Nat, a = a' := ⟨a.toNat, by omega⟩
                        have ha2 : (a' : Int) < np := by have := HP.out; omega
                        have kt : wr.cell? ⟨w.heap.size, a', none⟩ = some (.int .i64 (T.getD a' 0)) := il_cell hwr.t (get_getD (by rw [HLTT.out]; omega) 0)
                        have HSN := Lib.hid (atL_snoc (T := T) hk)
                        have hal' := hal
                        obtain ⟨y, hy⟩ : ∃ y, T.getD a' 0 = y := ⟨_, rfl⟩
                        rw [show ((a' : Int)).toNat = a' from rfl, hy] at HSN
                        rw [hy] at kt
                        have HYL := Lib.hid (show ([z1, rest] ++ atL T (ps.take s)).length ≤ 1048576 + 2 by rw [List.length_append, atL_len]; have := List.length_take_le s ps; have := HN3.out; simp; omega)
                        clear hc hk ha hwr hab hy
                        go_wp2_with (at_builtin; refine append_al2 w10 _ hal' rfl _ _ rfl _ rfl _ rfl (by simp) HYL.out ?_; intro ao cap w' hal2 hrd2)
                        have HAL2 := Lib.hid hal2
                        clear hal2 hrd2 hal hal'
                        go_roundw
                        case rel => exact ⟨s + 1, by go_num, by omega, by rw [HSN.out, ← List.append_assoc]; exact HAL2.out⟩
                        case measure => simp [RowKit.intOf]; omega
                      · obtain rfl : s = n3 := by omega
                        have hxr := (hal.2.block w8.heap.size hx10s).trans HX10.out
                        have h8r := (hal.2.block wo.heap.size (Array.getElem?_eq_some_iff.1 H10X.out).1).trans H10X.out
                        rw [List.take_of_length_le (by rw [HN3.out]; exact Nat.le_refl _)] at hal
                        obtain ⟨ao, cap, rfl, hrdp⟩ := Row.rd hal.1
                        have HRP := Lib.hid hrdp
                        have ke : wr.cell? ⟨w.heap.size + 1, i, none⟩ = some (.int .i64 (E8.getD i 0)) := il_cell hwr.e (get_getD (by rw [HRL.out]; omega) 0)
                        have ze := cells_free hwr.e i
                        have hes : w.heap.size + 1 < wr.heap.size := (Array.getElem?_eq_some_iff.1 hwr.e).1
                        have y0 : wr.cell? ⟨w8.heap.size, 0, none⟩ = some (.int .i64 ax) := by simp [World.cell?, hxr]
                        have hne : w.heap.size + 1 ≠ w8.heap.size := by omega
                        have HWR := Lib.hid hwr
                        have H8R := Lib.hid h8r
                        obtain ⟨av, hav⟩ : ∃ av, andF ([z1, rest] ++ atL T ps) = av := ⟨_, rfl⟩
                        have HAND := Lib.hid (and_calls _ _ _ _ wr hrdp)
                        rw [hav] at HAND
                        have HRN2 : Hid (rowsS nd f opn ib T last (z0, E) (last - i) = (alongF f ax i av opn ib, E8.set i av)) := Lib.hid (by
                          have := HRN.out
                          rw [HZ1.out, hav] at this
                          exact this)
                        have hwe := hwr.setE i av
                        have hxe := (Below.heap_setCell wr ⟨w.heap.size + 1, i, none⟩ (.int .i64 av) w8.heap.size (Ne.symm hne)).trans hxr
                        have h8e := (Below.heap_setCell wr ⟨w.heap.size + 1, i, none⟩ (.int .i64 av) wo.heap.size (by
                          have := (Array.getElem?_eq_some_iff.1 hw.e).1
                          show wo.heap.size ≠ w.heap.size + 1
                          omega)).trans h8r
                        have HFE := Lib.hid hwe
                        have H8E := Lib.hid h8e
                        have ke2 : (wr.setCell ⟨w.heap.size + 1, i, none⟩ (.int .i64 av)).cell? ⟨w.heap.size + 1, i, none⟩ = some (.int .i64 av) := World.cell?_setCell_same _ _ _ ke
                        have ye2 : (wr.setCell ⟨w.heap.size + 1, i, none⟩ (.int .i64 av)).cell? ⟨w8.heap.size, 0, none⟩ = some (.int .i64 ax) := by simp [World.cell?, hxe]
                        have HAC : Hid (∀ W, Below (wr.setCell ⟨w.heap.size + 1, i, none⟩ (.int .i64 av)).heap.size (wr.setCell ⟨w.heap.size + 1, i, none⟩ (.int .i64 av)) W → Calls Tryz.prog 106 #[.pointer (some ⟨F, 0, none⟩), .int .i64 ax, .int .i64 i, .int .i64 av, .bool opn, vi, vb] W fun e w' => e = .returned (.int .i64 (alongF f ax i av opn ib)) ∧ Below W.heap.size W w') := Lib.hid fun W hb => by
                          have h1 := (HFE.out.below hb).bel
                          exact along_calls f tg j F nd.rows.length nd.preds.length i ax av opn vi vb ib W (HFR.out.below h1) (by rw [HR.out]; exact hinr) (HIB.out.below h1)
                        obtain ⟨lv, hlv⟩ : ∃ lv, alongF f ax i av opn ib = lv := ⟨_, rfl⟩
                        rw [hlv] at HAC HRN2
                        clear hal hrdp hxr h8r hwr hav hwe hxe h8e hlv hw
                        go_upto_region 26 with (go_at_call 102; refine HAND.out.mono ?_; rintro e w' ⟨rfl, rfl⟩)
                        go_region_with (first
                          | (go_at_call 106; refine (HAC.out _ (by first | exact Below.refl _ _ | exact (Below.refl _ _).drew)).mono ?_; rintro e w13 ⟨rfl, b13⟩; have hb13 := (((Below.refl _ _).drew).trans b13); have HB13 := Lib.hid hb13; clear b13 hb13))
                        all_goals
                          have HF13 := Lib.hid (HFE.out.below HB13.out)
                          have H13X := Lib.hid ((HB13.out.block wo.heap.size (Array.getElem?_eq_some_iff.1 H8E.out).1).trans H8E.out)
                          clear ke2 ye2 ke ze y0
                          go_wp2_with fail
                          go_roundw
                          case rel => exact ⟨i, by go_num, by omega, by omega, by rw [HRN2.out], by rw [HRN2.out]; exact HF13.out, by rw [HX5.out]; exact H13X.out⟩
                          case measure => first | (simp [RowKit.intOf]; done) | (simp [RowKit.intOf]; omega)
                  · obtain rfl : k = fN := by omega
                    obtain ⟨A, hA⟩ : ∃ A, rowsS nd f opn ib T last (z0, E) (last - k) = A := ⟨_, rfl⟩
                    rw [hA] at hw8 ⊢
                    obtain ⟨rest, E8⟩ := A
                    have hw8 : FW w w8 w.heap.size (w.heap.size + 1) T E8 := hw8
                    have HNX3 : Hid (predsS nd f opn ib (np - p) = (T.set p rest, E8)) := Lib.hid (by
                      have := HNX2.out
                      rw [if_neg (by decide), if_neg (by decide), if_neg (by decide), show ((k : Int) + (cN : Int)).toNat = last by omega, show ((cN : Int)).toNat = last - k by omega, HZ0.out, hA] at this
                      exact this)
                    have kt : w8.cell? ⟨w.heap.size, p, none⟩ = some (.int .i64 (T.getD p 0)) := il_cell hw8.t (get_getD (by rw [HLTT.out]; omega) 0)
                    have zt := cells_free hw8.t p
                    have hwts : w.heap.size < w8.heap.size := (Array.getElem?_eq_some_iff.1 hw8.t).1
                    have HFIN := Lib.hid (hw8.setT p rest)
                    have hnk : ¬ (k : Int) ≤ (k : Int) - 1 := by omega
                    clear hA hw8 hw hx8 HSO HNX HNX2
                    go_wp2_with fail
                    go_roundw
                    case rel => exact ⟨p, by go_num, by omega, by rw [HNX3.out]; exact HFIN.out⟩
                    case measure => first | (simp [RowKit.intOf]; done) | (simp [RowKit.intOf]; omega)
end Go.Proofs.YtkhejkfjhddobaaGreatDoor

