/- (*Check).opens of gimlet/tree, for any element that may come next. -/
import Derived.Test.YtkhejkfjhddobaaGreatDoorHoEvM
import Derived.Test.YtkhejkfjhddobaaGreatDoorUpW
import Derived.IntWalk
import Derived.Deep.DrawnRows
import Derived.Deep.RegionHeld3
namespace Go.Proofs.YtkhejkfjhddobaaGreatDoor
open Go.RowKit Gim
theorem fitAt_el {W : World} {ats : List (ByteArray × ByteArray)} {a : Option Addr} {n cap i : Nat} (h : FitAt W ats a n cap) (hi : i < n) : ∃ b o, a = some ⟨b, o, none⟩ ∧ b < W.heap.size ∧ W.cell? ⟨b, o + i * 2, none⟩ = some (.string (ats.getD i za).1) ∧ W.cell? ⟨b, o + i * 2 + 1, none⟩ = some (.string (ats.getD i za).2) := by
  obtain ⟨b, o, e, hb, hc⟩ := h.fit i hi
  have hil : i < ats.length := by rw [h.len]; exact hi
  have := hc i _ (get_getD hil za)
  exact ⟨b, o, e, hb, this.1, this.2⟩
section
attribute [local irreducible] Go.wpQuiet
attribute [local go_sem ↓] Go.wp_at_zero Go.wp_at_succ
set_option maxRecDepth 100000 in
set_option maxHeartbeats 32000000 in
theorem opens_ok {tg : Nat → Nat × Nat} {K : Nat} {vO : Value} {en : Nat} {es : List Value} {num : Int} {tx dn : Bool} (kd : Int) (nm : ByteArray) (ats : List (ByteArray × ByteArray)) (aa : Option Addr) (an ac : Nat) (c6 c7 : Value) (w : World) (h : ChkP w tg K vO en es num tx dn) (hT : Laid w) (hs : nm.size ≤ 9223372036854775807) (hen : en ≤ 1099511627776) (hb : nameB nm = true)
    (hA : FitAt w ats aa an ac) (hat : atsB ats = true) (hsz : ∀ x ∈ ats, x.1.size ≤ 9223372036854775807 ∧ x.2.size ≤ 9223372036854775807) (han : an ≤ 1099511627776) :
    Calls Tryz.prog 55 #[.pointer (some ⟨K, 0, none⟩), .agg #[.int .i64 kd, .int .i64 num, .int .i64 ((en : Int) + 1), .string nm, .slice aa an ac, .string ⟨#[]⟩, c6, c7]] w fun e w' => e = .returned (.bool true) ∧ Below w.heap.size w w' := by
  obtain ⟨W1, hW1⟩ : ∃ W1, w.alloc (.cells #[.int .i64 kd, .int .i64 num, .int .i64 ((en : Int) + 1), .string nm, .slice aa an ac, .string ⟨#[]⟩, c6, c7] 45) = W1 := ⟨_, rfl⟩
  have b1 : Below w.heap.size w W1 := by rw [← hW1]; exact (Below.refl _ _).alloc (Nat.le_refl _) _
  have hX1 : W1.heap[w.heap.size]? = some (.cells #[.int .i64 kd, .int .i64 num, .int .i64 ((en : Int) + 1), .string nm, .slice aa an ac, .string ⟨#[]⟩, c6, c7] 45) := by rw [← hW1]; exact heap_alloc_new _ _
  obtain ⟨oa, oc, rfl, _⟩ := own_slice h.row
  have hK1 := (b1.block K (Array.getElem?_eq_some_iff.1 h.hK).1).trans h.hK
  have y1 : W1.cell? ⟨w.heap.size, 1, none⟩ = some (.int .i64 num) := by simp [World.cell?, hX1]
  have y2 : W1.cell? ⟨w.heap.size, 2, none⟩ = some (.int .i64 ((en : Int) + 1)) := by simp [World.cell?, hX1]
  have y3 : W1.cell? ⟨w.heap.size, 3, none⟩ = some (.string nm) := by simp [World.cell?, hX1]
  have y4 : W1.cell? ⟨w.heap.size, 4, none⟩ = some (.slice aa an ac) := by simp [World.cell?, hX1]
  have y5 : W1.cell? ⟨w.heap.size, 5, none⟩ = some (.string ⟨#[]⟩) := by simp [World.cell?, hX1]
  have k0 : W1.cell? ⟨K, 0, none⟩ = some (.slice oa en oc) := by simp [World.cell?, hK1]
  have k1 : W1.cell? ⟨K, 1, none⟩ = some (.int .i64 num) := by simp [World.cell?, hK1]
  have h1s : w.heap.size < W1.heap.size := (Array.getElem?_eq_some_iff.1 hX1).1
  have hK1s : K < W1.heap.size := (Array.getElem?_eq_some_iff.1 hK1).1
  have HNM : Hid (∀ W, Below W1.heap.size W1 W → Calls Tryz.prog 75 #[.string nm] W fun e w' => e = .returned (.bool true) ∧ Below W.heap.size W w') := Lib.hid fun W hW => by
    have := name_calls nm W hs ((hT.below b1).below hW)
    rw [hb] at this
    exact this
  have HAT : Hid (∀ i, i < an → ∃ b o n v, aa = some ⟨b, o, none⟩ ∧ (∀ W, Below w.heap.size w W → b < W.heap.size ∧ W.cell? ⟨b, o + i * 2, none⟩ = some (.string n) ∧ W.cell? ⟨b, o + i * 2 + 1, none⟩ = some (.string v) ∧
      Calls Tryz.prog 75 #[.string n] W (fun e w' => e = .returned (.bool true) ∧ Below W.heap.size W w') ∧ Calls Tryz.prog 56 #[.string v] W (fun e w' => e = .returned (.bool true) ∧ Below W.heap.size W w') ∧
      (0 < i → ∃ m, W.cell? ⟨b, o + (i - 1) * 2, none⟩ = some (.string m) ∧ Op.bytesLess m.toList n.toList = true))) := Lib.hid fun i hi => by
    obtain ⟨b, o, e, hbs, _⟩ := fitAt_el hA hi
    have hil : i < ats.length := by rw [hA.len]; exact hi
    have hm : ats.getD i za ∈ ats := by
      rw [List.getD_eq_getElem?_getD, List.getElem?_eq_getElem hil]
      exact List.getElem_mem hil
    have hz := hsz _ hm
    have hbi : atB ats i = true := by
      have := hat
      unfold atsB atsTo at this
      rw [List.all_eq_true] at this
      exact this i (List.mem_range.2 hil)
    unfold atB at hbi
    simp only [Bool.and_eq_true, Bool.or_eq_true, decide_eq_true_eq] at hbi
    refine ⟨b, o, (ats.getD i za).1, (ats.getD i za).2, e, fun W hW => ?_⟩
    have hAW := hA.below hW
    obtain ⟨b', o', e', hbs', g1, g2⟩ := fitAt_el hAW hi
    have eo : b' = b ∧ o' = o := by
      rw [e] at e'
      injection e' with e'
      injection e' with e1 e2
      exact ⟨e1.symm, e2.symm⟩
    obtain ⟨rfl, rfl⟩ := eo
    refine ⟨hbs', g1, g2, ?_, ?_, fun h0 => ?_⟩
    · have := name_calls (ats.getD i za).1 W hz.1 (hT.below hW)
      rw [hbi.1.1] at this
      exact this
    · have := texts_calls (ats.getD i za).2 W hz.2 (hT.below hW)
      rw [hbi.1.2] at this
      exact this
    · obtain ⟨b2, o2, e2, _, g3, _⟩ := fitAt_el hAW (i := i - 1) (by omega)
      have eo : b2 = b' ∧ o2 = o' := by
        rw [e] at e2
        injection e2 with e2
        injection e2 with e1 e2
        exact ⟨e1.symm, e2.symm⟩
      obtain ⟨rfl, rfl⟩ := eo
      exact ⟨_, g3, hbi.2.resolve_left (by omega)⟩
  have HLE := Lib.hid (And.intro hA.le hA.cap_le)
  have HB1 := Lib.hid b1
  have HX1 := Lib.hid hX1
  have HW1 := Lib.hid hW1
  have HAN := Lib.hid han
  have e1 : (num == num) = true := beq_self_eq_true _
  have e2 : (num != num) = false := by simp
  have e3 : ((en : Int) + 1 != (en : Int) + 1) = false := by simp
  have e4 : IntKind.i64.wrap ((en : Int) + 1) = (en : Int) + 1 := IntWalk.i64_in _ (by omega)
  clear hX1 b1 hW1 hK1 h hT hs hb hA hat hsz han
  go_enter Tryz.func55, Tryz.ntmps55
  go_upto_region 1 with fail
  rw [HW1.out]
  go_cut [35] from 7 to 35 (fun v wx => v = .bool false ∧ Below W1.heap.size W1 wx)
  case first =>
    go_region_held3 (fun W => W.cell? ⟨w.heap.size, 1, none⟩ = some (.int .i64 num) ∧ W.cell? ⟨w.heap.size, 2, none⟩ = some (.int .i64 ((en : Int) + 1)) ∧ W.cell? ⟨w.heap.size, 3, none⟩ = some (.string nm) ∧ W.cell? ⟨w.heap.size, 5, none⟩ = some (.string ⟨#[]⟩) ∧ W.cell? ⟨K, 0, none⟩ = some (.slice oa en oc) ∧ W.cell? ⟨K, 1, none⟩ = some (.int .i64 num)) (first | go_keep | exact ⟨by assumption, by assumption, by assumption, by assumption, by assumption, by assumption⟩) (first
      | (go_at_call 75; refine (HNM.out _ (by first | exact Below.refl _ _ | exact (Below.refl _ _).drew)).mono ?_; rintro e w13 ⟨rfl, b13⟩; have c13 : Below W1.heap.size W1 w13 := (by first | exact b13 | exact ((Below.refl _ _).drew).trans b13); have j1 := (c13.cell (p := ⟨w.heap.size, 1, none⟩) h1s).trans y1; have j2 := (c13.cell (p := ⟨w.heap.size, 2, none⟩) h1s).trans y2; have j3 := (c13.cell (p := ⟨w.heap.size, 3, none⟩) h1s).trans y3; have j5 := (c13.cell (p := ⟨w.heap.size, 5, none⟩) h1s).trans y5; have j6 := (c13.cell (p := ⟨K, 0, none⟩) hK1s).trans k0; have j7 := (c13.cell (p := ⟨K, 1, none⟩) hK1s).trans k1))
    have HB13 := Lib.hid c13
    clear c13 b13 j1 j2 j3 j5 j6 j7
    · go_wp2_with fail
      go_meet
      exact ⟨rfl, by first | exact HB13.out | exact HB13.out.drew⟩
  case rest =>
  obtain ⟨rfl, hb13⟩ := hcut
  have HBF := Lib.hid (HB1.out.trans (hb13.mono HB1.out.size))
  have HX13 := Lib.hid ((hb13.block _ h1s).trans HX1.out)
  replace y4 := (hb13.cell (p := ⟨w.heap.size, 4, none⟩) h1s).trans y4
  have h1c : w.heap.size < wc.heap.size := Nat.lt_of_lt_of_le h1s hb13.size
  clear e1 e2 e3 e4 k0 k1 y1 y2 y3 y5 hb13
  go_wp2_with fail
  clear y4
  go_loopw [39] (fun v wr => ∃ i : Nat, v = .int .i64 i ∧ i ≤ an ∧ Below w.heap.size w wr ∧ wr.heap[w.heap.size]? = some (.cells #[.int .i64 kd, .int .i64 num, .int .i64 ((en : Int) + 1), .string nm, .slice aa an ac, .string ⟨#[]⟩, c6, c7] 45)) (fun v _ => an - (RowKit.intOf v).toNat)
  case atStart => exact ⟨0, rfl, Nat.zero_le _, HBF.out, HX13.out⟩
  case round =>
    obtain ⟨i, rfl, hi, hb9, hX9⟩ := hrel
    by_cases hin : i < an
    · obtain ⟨b, o, n, v, rfl, hW⟩ := HAT.out i hin
      have hin' : (i : Int) < an := by omega
      have hanl := HAN.out
      have HB9 := Lib.hid hb9
      have HX9 := Lib.hid hX9
      have hX9s : w.heap.size < wr.heap.size := (Array.getElem?_eq_some_iff.1 hX9).1
      obtain ⟨g0, g1, g2, _, _, _⟩ := hW wr hb9
      have hle := HLE.out.1
      have HW := Lib.hid hW
      clear hW hb9 hX9
      go_upto_region 6 with fail
      have HB5 : Hid (Below w.heap.size w (wr.alloc (.cells #[.string n, .string v] 61))) := Lib.hid (HB9.out.trans ((Below.refl _ _).alloc HB9.out.size _))
      have HX5 : Hid ((wr.alloc (.cells #[.string n, .string v] 61)).heap[w.heap.size]? = some (.cells #[.int .i64 kd, .int .i64 num, .int .i64 ((en : Int) + 1), .string nm, .slice (some ⟨b, o, none⟩) an ac, .string ⟨#[]⟩, c6, c7] 45)) := Lib.hid (by
        rw [heap_alloc_old _ _ hX9s]
        exact HX9.out)
      have h5s : wr.heap.size < (wr.alloc (.cells #[.string n, .string v] 61)).heap.size := by rw [World.size_alloc]; exact Nat.lt_succ_self _
      have x0 : (wr.alloc (.cells #[.string n, .string v] 61)).cell? ⟨wr.heap.size, 0, none⟩ = some (.string n) := by
        unfold World.cell?
        rw [heap_alloc_new]
        rfl
      have x1 : (wr.alloc (.cells #[.string n, .string v] 61)).cell? ⟨wr.heap.size, 1, none⟩ = some (.string v) := by
        unfold World.cell?
        rw [heap_alloc_new]
        rfl
      obtain ⟨W5, hW5⟩ : ∃ W5, wr.alloc (.cells #[.string n, .string v] 61) = W5 := ⟨_, rfl⟩
      rw [hW5] at HB5 HX5 h5s x0 x1 ⊢
      obtain ⟨X, hX⟩ : ∃ X, wr.heap.size = X := ⟨_, rfl⟩
      rw [hX] at h5s x0 x1 ⊢
      have y4 : W5.cell? ⟨w.heap.size, 4, none⟩ = some (.slice (some ⟨b, o, none⟩) an ac) := by simp [World.cell?, HX5.out]
      have h5w : w.heap.size < W5.heap.size := (Array.getElem?_eq_some_iff.1 HX5.out).1
      have HCN : Hid (∀ W, Below W5.heap.size W5 W → Calls Tryz.prog 75 #[.string n] W (fun e w' => e = .returned (.bool true) ∧ Below W.heap.size W w')) := Lib.hid fun W hW => (HW.out W (HB5.out.trans (hW.mono HB5.out.size))).2.2.2.1
      have HCT : Hid (∀ W, Below W5.heap.size W5 W → Calls Tryz.prog 56 #[.string v] W (fun e w' => e = .returned (.bool true) ∧ Below W.heap.size W w')) := Lib.hid fun W hW => (HW.out W (HB5.out.trans (hW.mono HB5.out.size))).2.2.2.2.1
      have HPV : Hid (∀ W, Below W5.heap.size W5 W → 0 < i → ∃ m, W.cell? ⟨b, o + (i - 1) * 2, none⟩ = some (.string m) ∧ Op.bytesLess m.toList n.toList = true) := Lib.hid fun W hW => (HW.out W (HB5.out.trans (hW.mono HB5.out.size))).2.2.2.2.2
      clear hW5 hX g0 g1 g2 HB9 HX9
      go_cut [69] from 44 to 69 (fun v wx => v = .bool false ∧ Below W5.heap.size W5 wx)
      case first =>
        have h5b : b < W5.heap.size := (HW.out W5 HB5.out).1
        have f1 : (!true) = false := rfl
        have u0 := up_cell h5s x0
        have u1 := up_cell h5s x1
        have u4 := up_cell h5w y4
        have hcn : Hid (∀ p : UpW W5, Calls Tryz.prog 75 #[.string n] p.W fun e w'' => e = .returned (.bool true) ∧ ∃ q : UpW W5, w'' = q.W) := Lib.hid fun p => calls_up (HCN.out _ p.h)
        have hct : Hid (∀ p : UpW W5, Calls Tryz.prog 56 #[.string v] p.W fun e w'' => e = .returned (.bool true) ∧ ∃ q : UpW W5, w'' = q.W) := Lib.hid fun p => calls_up (HCT.out _ p.h)
        by_cases hi0 : 0 < i
        · obtain ⟨q, hq⟩ : ∃ q, i = q + 1 := ⟨i - 1, by omega⟩
          obtain ⟨m, hm, hlm⟩ := HPV.out W5 (Below.refl _ _) hi0
          rw [show i - 1 = q by omega] at hm
          have u5 := up_cell h5b hm
          have f2 : IntKind.i64.wrap ((i : Int) - 1) = (q : Int) := by rw [show ((i : Int) - 1) = (q : Int) by omega]; exact IntWalk.i64_in _ (by omega)
          have f4 : (q : Int) < an := by omega
          have f5 : (0 : Int) < (i : Int) := by omega
          clear hq x0 x1 y4 hm
          refine wp_region_up (by kernel_rfl) (by kernel_rfl) ?_
          iterate 26 (quiet_step (first | (go_at_call 75; with_reducible exact hcn.out _) | (go_at_call 56; with_reducible exact hct.out _)))
          refine wpQuiet_nil ?_
          intro _ hw'
          obtain ⟨⟨w6, hb6⟩, hw''⟩ := hw'
          subst hw''
          go_wp2_with fail
          go_meet
          exact ⟨rfl, hb6⟩
        · have f5 : (0 < i) = False := eq_false hi0
          clear x0 x1 y4 hi0
          refine wp_region_up (by kernel_rfl) (by kernel_rfl) ?_
          iterate 26 (quiet_step (first | (go_at_call 75; with_reducible exact hcn.out _) | (go_at_call 56; with_reducible exact hct.out _)))
          refine wpQuiet_nil ?_
          intro _ hw'
          obtain ⟨⟨w6, hb6⟩, hw''⟩ := hw'
          subst hw''
          go_wp2_with fail
          go_meet
          exact ⟨rfl, hb6⟩
      case rest =>
      obtain ⟨rfl, hb8⟩ := hcut
      have HRL : Hid (Below w.heap.size w wc ∧ wc.heap[w.heap.size]? = some (.cells #[.int .i64 kd, .int .i64 num, .int .i64 ((en : Int) + 1), .string nm, .slice (some ⟨b, o, none⟩) an ac, .string ⟨#[]⟩, c6, c7] 45)) := Lib.hid ⟨HB5.out.trans (hb8.mono HB5.out.size), (hb8.block _ h5w).trans HX5.out⟩
      clear hb8 x0 x1 y4
      go_wp2_with fail
      go_roundw
      case rel => exact ⟨i + 1, by simp, by omega, HRL.out⟩
      case measure => simp [RowKit.intOf]; omega
    · have e : i = an := by omega
      subst e
      have HB9 := Lib.hid hb9
      clear hb9 hX9
      go_wp2_with fail
      go_ret
      exact ⟨rfl, HB9.out⟩
end
end Go.Proofs.YtkhejkfjhddobaaGreatDoor

