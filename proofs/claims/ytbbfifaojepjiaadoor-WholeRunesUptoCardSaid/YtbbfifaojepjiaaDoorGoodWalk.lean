/- The walk of runes.Good. Printed by mkgood.py. -/
import Derived.Test.YtbbfifaojepjiaaDoorBackLaw
import Derived.Test.YtbbfifaojepjiaaDoorMendWalk
namespace Go.Proofs.YtbbfifaojepjiaaDoor
open Go.RowKit Gim
set_option maxHeartbeats 4000000 in
theorem good_none (w : World) (ao : Option Addr) (cap : Nat) :
    Calls Tryd.prog 11 #[.slice ao 0 cap] w fun e w' => e = .returned (.int .i64 (goodB [])) ∧ Below w.heap.size w w' := by
  go_enter Tryd.func11, Tryd.ntmps11
  go_wp2
  go_loopw [3] (fun v wr => v = .int .i64 0 ∧ wr = w) (fun _ _ => 0)
  case atStart => exact ⟨rfl, rfl⟩
  case round =>
    obtain ⟨rfl, rfl⟩ := hrel
    go_wp2
    go_loopw [6] (fun v wi => v = .int .i64 0 ∧ wi = wr) (fun _ _ => 0)
    case atStart => exact ⟨rfl, rfl⟩
    case round =>
      obtain ⟨rfl, rfl⟩ := hrel
      go_wp2
      go_ret
      exact ⟨rfl, Below.refl _ _⟩
set_option maxHeartbeats 4000000 in
theorem good_calls (w : World) (ao : Option Addr) (n cap : Nat) (xs : List Int) (h : Rb w ao n cap xs) (hT : U8 w) (hn : n ≤ 1125899906842624) :
    Calls Tryd.prog 11 #[.slice ao n cap] w fun e w' => e = .returned (.int .i64 (goodB xs)) ∧ Below w.heap.size w w' := by
  have hl := h.rd.len
  have hle := h.rd.le
  have hcl := h.rd.cap_le
  by_cases h0 : n = 0
  · subst h0
    obtain rfl := List.eq_nil_of_length_eq_zero hl
    exact good_none w ao cap
  obtain ⟨b0, o0, rfl, _⟩ := h.rd.cell 0 (by omega)
  have HL := Lib.hid hl
  clear hl
  go_enter Tryd.func11, Tryd.ntmps11
  go_wp2
  go_loopw [3] (fun v wr => ∃ p : Nat, v = .int .i64 p ∧ p ≤ n ∧ Below w.heap.size w wr ∧ Hid (goodAt xs p = goodAt xs 0)) (fun v _ => n - (RowKit.intOf v).toNat)
  case atStart => exact ⟨0, rfl, by omega, Below.refl _ _, Lib.hid rfl⟩
  case round =>
    obtain ⟨p, rfl, hpn, hb, HG⟩ := hrel
    have rbr := h.below hb
    have hTr := U8.below hT hb
    by_cases hp : p < n
    · have rbd := rbr.drop (m := p) (by omega)
      have hcp : ¬ cap = p := by omega
      rw [if_neg hcp] at rbd
      replace rbd : Rb wr (some ⟨b0, o0 + p, none⟩) (n - p) (cap - p) (xs.drop p) := by simpa [Addr.add_lit] using rbd
      have cF := full_calls _ _ _ _ _ rbd hTr
      obtain ⟨q, hq⟩ : ∃ q, q = fullB (xs.drop p) := ⟨_, rfl⟩
      rw [← hq] at cF
      have HQ := Lib.hid hq
      clear hq
      cases q
      · go_wp2_with fail
        refine cF.mono ?_
        rintro e we ⟨rfl, hb1⟩
        have hbe := hb.trans (hb1.mono hb.size)
        have HE := Lib.hid ((HG.out.symm.trans (goodAt_end fun k => by rw [← HQ.out] at k; cases k.2.1)) : goodAt xs 0 = p)
        clear cF HQ HG hb hb1 rbr rbd hTr
        have HB := Lib.hid (show goodB xs = p + pieceN xs p by unfold goodB; rw [HE.out])
        have rbe := h.below hbe
        have hTe := U8.below hT hbe
        clear HE
        go_wp2
        go_loopw [6] (fun y wi => ∃ m : Nat, y = .int .i64 m ∧ p ≤ m ∧ m ≤ n ∧ Hid (runF xs p (n - m) (m - p) = pieceN xs p) ∧ Below we.heap.size we wi) (fun y _ => n - (RowKit.intOf y).toNat)
        case atStart => exact ⟨p, rfl, by omega, by omega, Lib.hid (by unfold pieceN; rw [HL.out, Nat.sub_self]), Below.refl _ _⟩
        case round =>
          obtain ⟨m, rfl, hpm, hmn, HR, hbi⟩ := hrel
          by_cases hm : m < n
          · have rbd := (rbe.below hbi).drop (m := p) (by omega)
            have hcp : ¬ cap = p := by omega
            rw [if_neg hcp] at rbd
            replace rbd : Rb wr (some ⟨b0, o0 + p, none⟩) (n - p) (cap - p) (xs.drop p) := by simpa [Addr.add_lit] using rbd
            have rbt := rbd.take (m := m + 1 - p) (by omega)
            have hstep := Lib.hid (HR.out.symm.trans (by rw [show n - m = (n - (m + 1)) + 1 from by omega, runF, show m - p + 1 = m + 1 - p from by omega]) : pieceN xs p = if p + (m - p) < xs.length ∧ beginsB ((xs.drop p).take (m + 1 - p)) = true then runF xs p (n - (m + 1)) (m + 1 - p) else m - p)
            have cB := begins_calls _ _ _ _ _ rbt (U8.below hTe hbi)
            obtain ⟨c, hc⟩ : ∃ c, c = beginsB ((xs.drop p).take (m + 1 - p)) := ⟨_, rfl⟩
            rw [← hc] at cB hstep
            clear HR rbd rbt hc
            cases c
            · have HK := Lib.hid (show goodB xs = m by rw [HB.out, hstep.out, if_neg fun h => by cases h.2]; omega)
              clear hstep HB
              go_wp2_with fail
              refine cB.mono ?_
              rintro e wf ⟨rfl, hb5⟩
              clear cB
              go_wp2
              go_ret
              exact ⟨by rw [HK.out]; rfl, hbe.trans ((hbi.trans (hb5.mono hbi.size)).mono hbe.size)⟩
            · have HR2 := Lib.hid (hstep.out.trans (if_pos ⟨by rw [HL.out]; omega, rfl⟩) : pieceN xs p = runF xs p (n - (m + 1)) (m + 1 - p))
              clear hstep
              go_wp2_with fail
              refine cB.mono ?_
              rintro e wf ⟨rfl, hb5⟩
              clear cB
              go_wp2
              go_roundw
              case rel => exact ⟨m + 1, by go_num, by omega, by omega, Lib.hid HR2.out.symm, hbi.trans (hb5.mono hbi.size)⟩
              case measure => simp [RowKit.intOf]; omega
          · have HK := Lib.hid (show goodB xs = m by
              rw [HB.out, ← HR.out, runF_end _ (by rw [HL.out]; omega)]; omega)
            clear HR HB
            go_wp2
            go_ret
            exact ⟨by rw [HK.out]; rfl, hbe.trans (hbi.mono hbe.size)⟩
      · go_wp2_with fail
        refine cF.mono ?_
        rintro e we1 ⟨rfl, hb1⟩
        have hb2 := hb.trans (hb1.mono hb.size)
        have cV := valid_calls _ _ _ _ _ (rbd.below hb1) (U8.below hTr hb1)
        obtain ⟨q2, hq2⟩ : ∃ q, q = validB (xs.drop p) := ⟨_, rfl⟩
        rw [← hq2] at cV
        have HQ2 := Lib.hid hq2
        clear hq2
        cases q2
        · go_wp2_with fail
          refine cV.mono ?_
          rintro e we ⟨rfl, hb3⟩
          have hbe := hb2.trans (hb3.mono hb2.size)
          have HE := Lib.hid ((HG.out.symm.trans (goodAt_end fun k => by rw [← HQ2.out] at k; cases k.2.2)) : goodAt xs 0 = p)
          clear cF cV HQ HQ2 HG hb hb1 hb2 hb3 rbr rbd hTr
          have HB := Lib.hid (show goodB xs = p + pieceN xs p by unfold goodB; rw [HE.out])
          have rbe := h.below hbe
          have hTe := U8.below hT hbe
          clear HE
          go_wp2
          go_loopw [6] (fun y wi => ∃ m : Nat, y = .int .i64 m ∧ p ≤ m ∧ m ≤ n ∧ Hid (runF xs p (n - m) (m - p) = pieceN xs p) ∧ Below we.heap.size we wi) (fun y _ => n - (RowKit.intOf y).toNat)
          case atStart => exact ⟨p, rfl, by omega, by omega, Lib.hid (by unfold pieceN; rw [HL.out, Nat.sub_self]), Below.refl _ _⟩
          case round =>
            obtain ⟨m, rfl, hpm, hmn, HR, hbi⟩ := hrel
            by_cases hm : m < n
            · have rbd := (rbe.below hbi).drop (m := p) (by omega)
              have hcp : ¬ cap = p := by omega
              rw [if_neg hcp] at rbd
              replace rbd : Rb wr (some ⟨b0, o0 + p, none⟩) (n - p) (cap - p) (xs.drop p) := by simpa [Addr.add_lit] using rbd
              have rbt := rbd.take (m := m + 1 - p) (by omega)
              have hstep := Lib.hid (HR.out.symm.trans (by rw [show n - m = (n - (m + 1)) + 1 from by omega, runF, show m - p + 1 = m + 1 - p from by omega]) : pieceN xs p = if p + (m - p) < xs.length ∧ beginsB ((xs.drop p).take (m + 1 - p)) = true then runF xs p (n - (m + 1)) (m + 1 - p) else m - p)
              have cB := begins_calls _ _ _ _ _ rbt (U8.below hTe hbi)
              obtain ⟨c, hc⟩ : ∃ c, c = beginsB ((xs.drop p).take (m + 1 - p)) := ⟨_, rfl⟩
              rw [← hc] at cB hstep
              clear HR rbd rbt hc
              cases c
              · have HK := Lib.hid (show goodB xs = m by rw [HB.out, hstep.out, if_neg fun h => by cases h.2]; omega)
                clear hstep HB
                go_wp2_with fail
                refine cB.mono ?_
                rintro e wf ⟨rfl, hb5⟩
                clear cB
                go_wp2
                go_ret
                exact ⟨by rw [HK.out]; rfl, hbe.trans ((hbi.trans (hb5.mono hbi.size)).mono hbe.size)⟩
              · have HR2 := Lib.hid (hstep.out.trans (if_pos ⟨by rw [HL.out]; omega, rfl⟩) : pieceN xs p = runF xs p (n - (m + 1)) (m + 1 - p))
                clear hstep
                go_wp2_with fail
                refine cB.mono ?_
                rintro e wf ⟨rfl, hb5⟩
                clear cB
                go_wp2
                go_roundw
                case rel => exact ⟨m + 1, by go_num, by omega, by omega, Lib.hid HR2.out.symm, hbi.trans (hb5.mono hbi.size)⟩
                case measure => simp [RowKit.intOf]; omega
            · have HK := Lib.hid (show goodB xs = m by
                rw [HB.out, ← HR.out, runF_end _ (by rw [HL.out]; omega)]; omega)
              clear HR HB
              go_wp2
              go_ret
              exact ⟨by rw [HK.out]; rfl, hbe.trans (hbi.mono hbe.size)⟩
        · go_wp2_with fail
          refine cV.mono ?_
          rintro e we ⟨rfl, hb3⟩
          have hb4 := hb2.trans (hb3.mono hb2.size)
          have HG2 := Lib.hid ((goodAt_next (by rw [HL.out]; exact hp) HQ.out.symm HQ2.out.symm).symm.trans HG.out)
          have hw := decB_le (xs := xs.drop p) (by rw [List.length_drop, HL.out]; omega)
          have hw2 := decB_width (xs := xs.drop p) (by rw [List.length_drop, HL.out]; omega)
          rw [List.length_drop, HL.out] at hw
          have cD := decode_calls _ _ _ _ _ ((rbd.below hb1).below hb3) (U8.below (U8.below hTr hb1) hb3)
          obtain ⟨D, hD⟩ : ∃ D, D = decB (xs.drop p) := ⟨_, rfl⟩
          rw [← hD] at cD hw hw2 HG2
          obtain ⟨r, k⟩ := D
          simp only [] at cD hw hw2 HG2
          clear cF cV HQ HQ2 HG hb hb1 hb2 hb3 rbr rbd hTr hD
          go_wp2_with fail
          refine cD.mono ?_
          rintro e wf ⟨rfl, hb5⟩
          clear cD
          go_wp2
          go_roundw
          case rel => exact ⟨p + k, by go_num, by omega, hb4.trans (hb5.mono hb4.size), HG2⟩
          case measure => simp [RowKit.intOf]; omega
    · obtain rfl : p = n := by omega
      have HE := Lib.hid ((HG.out.symm.trans (goodAt_end fun k => by rw [HL.out] at k; omega)) : goodAt xs 0 = p)
      clear HG rbr hTr
      go_wp2
      go_loopw [6] (fun y wi => y = .int .i64 p ∧ wi = wr) (fun _ _ => 0)
      case atStart => exact ⟨rfl, rfl⟩
      case round =>
        obtain ⟨rfl, rfl⟩ := hrel
        have hg : goodB xs = p := by
          unfold goodB pieceN
          rw [HE.out, HL.out, Nat.sub_self]; rfl
        have HGB := Lib.hid hg
        clear hg
        go_wp2
        go_ret
        exact ⟨by rw [HGB.out]; rfl, hb⟩
end Go.Proofs.YtbbfifaojepjiaaDoor
