/- The walk of gimletlaw16.HuntPlays. -/
import Derived.Test.YtgajinnbmnnccaaHuntPlaysLaw
namespace Go.Proofs.Ytgajinnbmnnccaa
open Go.RowKit Gim
set_option maxRecDepth 100000 in
set_option maxHeartbeats 8000000 in
theorem huntPlaysWalk (c0 n0 : Int) (s0 : ByteArray) (c1 n1 : Int) (s1 : ByteArray) (ao : Option Addr) (n cap : Nat) (os : List (Int × Bool × ByteArray)) (w : World) (hs0 : s0.size ≤ 1048576) (hs1 : s1.size ≤ 1048576) (hos : Od w ao n cap os) (hn : n ≤ 1048576) (hsum : (os.map (·.2.2.size)).sum ≤ 1048576) :
    Calls Try.prog 5 #[.agg #[.int .i64 c0, .string s0, .int .i64 n0], .agg #[.int .i64 c1, .string s1, .int .i64 n1], .slice ao n cap] w fun e w' => e = .returned (.bool true) ∧ Below w.heap.size w w' := by
  have HS := Lib.hid hsum
  have HOS := Lib.hid hos
  have hncap := hos.le
  have hA0 : Hid (∀ w, Calls Try.prog 9 #[.int .i64 c0, .string s0, .int .i64 n0] w (ProgNew w c0 n0 s0)) := fun w => progNew w c0 n0 s0 hs0
  have hA1 : Hid (∀ w, Calls Try.prog 9 #[.int .i64 c1, .string s1, .int .i64 n1] w (ProgNew w c1 n1 s1)) := fun w => progNew w c1 n1 s1 hs1
  have hD0 : Hid (∀ w, Calls Try.prog 17 #[.int .i64 c0, .string s0, .int .i64 n0] w (DocNew w c0 n0 s0)) := fun w => docNew w c0 n0 s0 hs0
  have hD1 : Hid (∀ w, Calls Try.prog 17 #[.int .i64 c1, .string s1, .int .i64 n1] w (DocNew w c1 n1 s1)) := fun w => docNew w c1 n1 s1 hs1
  clear hsum hos
  go_enter Try.func5, Try.ntmps5
  go_wp2_with fail
  refine (awake _).mono ?_
  rintro e w1 ⟨rfl, b1⟩
  have x1 : w1.heap[w.heap.size]? = some (Obj.cells #[.int .i64 c0, .string s0, .int .i64 n0] 23) := (b1.block _ (by simp; omega)).trans ((heap_alloc_old _ _ (by simp)).trans (heap_alloc_new w _))
  have x2 : w1.heap[w.heap.size + 1]? = some (Obj.cells #[.int .i64 c1, .string s1, .int .i64 n1] 23) := (b1.block _ (by simp)).trans (by
    have := heap_alloc_new (w.alloc (Obj.cells #[.int .i64 c0, .string s0, .int .i64 n0] 23)) (Obj.cells #[.int .i64 c1, .string s1, .int .i64 n1] 23)
    simpa using this)
  have b0 : Below w.heap.size w w1 := (((Below.refl _ _).alloc (Nat.le_refl _) _).alloc (by simp) _).trans (b1.mono (by simp; omega))
  clear b1
  have y0 : w1.cell? ⟨w.heap.size, 0, none⟩ = some (.int .i64 c0) := by simp [World.cell?, x1]
  have y1 : w1.cell? ⟨w.heap.size, 1, none⟩ = some (.string s0) := by simp [World.cell?, x1]
  have y2 : w1.cell? ⟨w.heap.size, 2, none⟩ = some (.int .i64 n0) := by simp [World.cell?, x1]
  go_wp2_with fail
  refine (hA0.out _).mono ?_
  rintro e w2 ⟨hp, rfl, b12, k1⟩
  have e2 : w2.heap[w.heap.size + 1]? = _ := (b12.block _ (Array.getElem?_eq_some_iff.1 x2).1).trans x2
  have d2 : w2.heap[w.heap.size]? = _ := (b12.block _ (Array.getElem?_eq_some_iff.1 x1).1).trans x1
  clear y0 y1 y2
  have y0 : w2.cell? ⟨w.heap.size + 1, 0, none⟩ = some (.int .i64 c1) := by simp [World.cell?, e2]
  have y1 : w2.cell? ⟨w.heap.size + 1, 1, none⟩ = some (.string s1) := by simp [World.cell?, e2]
  have y2 : w2.cell? ⟨w.heap.size + 1, 2, none⟩ = some (.int .i64 n1) := by simp [World.cell?, e2]
  go_wp2_with fail
  refine (hA1.out _).mono ?_
  rintro e w3 ⟨gp, rfl, b23, k2⟩
  have e3 : w3.heap[w.heap.size + 1]? = _ := (b23.block _ (Array.getElem?_eq_some_iff.1 e2).1).trans e2
  have d3 : w3.heap[w.heap.size]? = _ := (b23.block _ (Array.getElem?_eq_some_iff.1 d2).1).trans d2
  clear y0 y1 y2
  have y0 : w3.cell? ⟨w.heap.size, 0, none⟩ = some (.int .i64 c0) := by simp [World.cell?, d3]
  have y1 : w3.cell? ⟨w.heap.size, 1, none⟩ = some (.string s0) := by simp [World.cell?, d3]
  have y2 : w3.cell? ⟨w.heap.size, 2, none⟩ = some (.int .i64 n0) := by simp [World.cell?, d3]
  go_wp2_with fail
  refine (hD0.out _).mono ?_
  rintro e w4 ⟨mp, rfl, b34, k3⟩
  have e4 : w4.heap[w.heap.size + 1]? = _ := (b34.block _ (Array.getElem?_eq_some_iff.1 e3).1).trans e3
  clear y0 y1 y2
  have y0 : w4.cell? ⟨w.heap.size + 1, 0, none⟩ = some (.int .i64 c1) := by simp [World.cell?, e4]
  have y1 : w4.cell? ⟨w.heap.size + 1, 1, none⟩ = some (.string s1) := by simp [World.cell?, e4]
  have y2 : w4.cell? ⟨w.heap.size + 1, 2, none⟩ = some (.int .i64 n1) := by simp [World.cell?, e4]
  go_wp2_with fail
  refine (hD1.out _).mono ?_
  rintro e w5 ⟨np, rfl, b45, k4⟩
  clear y0 y1 y2 e4 e3 e2 d2 d3
  have b24 := b23.trans (b34.mono b23.size)
  have b25 := b24.trans (b45.mono b24.size)
  have b35 := b34.trans (b45.mono b34.size)
  have b15 := b12.trans (b25.mono b12.size)
  have sa := side_new hs0 b0.size k1 k3 b25 b45 b23.size
  have sb := side_new hs1 (Nat.le_trans b0.size b12.size) k2 k4 b35 (Below.refl _ _) b34.size
  have h12 := b12.size
  have h23 := b23.size
  have h34 := b34.size
  have h45 := b45.size
  have tw : Two w w5 0 hp mp gp np := ⟨_, _, sa, sb, fun j h1 h2 => by omega, fun j hj => by omega, b0.trans (b15.mono b0.size)⟩
  have hh : (errZ c0 n0 ≠ 0 ∧ hp = .pointer none) ∨ (errZ c0 n0 = 0 ∧ ∃ H, hp = .pointer (some ⟨H, 0, none⟩)) := k1.imp id (fun ⟨a, _, _, _, _, b, _⟩ => ⟨a, _, b⟩)
  have hg : (errZ c1 n1 ≠ 0 ∧ gp = .pointer none) ∨ (errZ c1 n1 = 0 ∧ ∃ H, gp = .pointer (some ⟨H, 0, none⟩)) := k2.imp id (fun ⟨a, _, _, _, _, b, _⟩ => ⟨a, _, b⟩)
  obtain ⟨z0, hz0⟩ : ∃ z, z = errZ c0 n0 := ⟨_, rfl⟩
  obtain ⟨z1, hz1⟩ : ∃ z, z = errZ c1 n1 := ⟨_, rfl⟩
  rw [← hz0] at hh ⊢
  rw [← hz1] at hg ⊢
  clear sa sb k1 k2 k3 k4 b12 b23 b34 b45 b24 b25 b35 b15 b0 hA0 hA1 hD0 hD1 h12 h23 h34 h45 x1 x2 hz0 hz1
  have tw0 : Two w w5 (oSum os 0) hp mp gp np := tw
  have HH := Lib.hid hh
  have HG := Lib.hid hg
  clear hh hg tw
  go_upto_region 7 with fail
  go_cut [81] from 60 to 81 (fun v wx => v = .bool false ∧ wx = w5)
  case first =>
    rcases HH.out with ⟨hz, rfl⟩ | ⟨rfl, H, rfl⟩
    all_goals
      rcases HG.out with ⟨hy, rfl⟩ | ⟨rfl, G, rfl⟩
      all_goals
        try have hz1 : (z0 == 0) = false := beq_eq_false_iff_ne.2 hz
        try have hz2 : (z0 != 0) = true := by rw [bne, hz1]; rfl
        try have hy1 : (z1 == 0) = false := beq_eq_false_iff_ne.2 hy
        try have hy2 : (z1 != 0) = true := by rw [bne, hy1]; rfl
        go_wp2_with fail
        go_meet
        case rel => exact ⟨rfl, rfl⟩
  case rest =>
  obtain ⟨rfl, rfl⟩ := hcut
  go_wp2_with fail
  go_loopw [15] (fun u wr => ∃ i : Nat, u = .int .i64 i ∧ i ≤ n ∧ Two w wr (oSum os i) hp mp gp np) (fun u _ => n - (intOf u).toNat)
  case atStart => exact ⟨0, rfl, by omega, tw0⟩
  case round =>
    clear tw0
    obtain ⟨i, rfl, hi, tw⟩ := hrel
    by_cases hlt : i < n
    · have hlt2 : (i : Int) < n := by omega
      have hx : os[i]? = some (os[i]'(by rw [HOS.out.len]; exact hlt)) := List.getElem?_eq_getElem _
      obtain ⟨x, hxx⟩ : ∃ x, x = os[i]'(by rw [HOS.out.len]; exact hlt) := ⟨_, rfl⟩
      rw [← hxx] at hx
      clear hxx
      obtain ⟨b, o, rfl, hb, hc⟩ := HOS.out.cell i hlt
      obtain ⟨q0, q1, q2⟩ := hc i x hx
      have q0 := (tw.below.cell (p := ⟨b, o + i * 3, none⟩) hb).trans q0
      have q1 := (tw.below.cell (p := ⟨b, o + i * 3 + 1, none⟩) hb).trans q1
      have q2 := (tw.below.cell (p := ⟨b, o + i * 3 + 2, none⟩) hb).trans q2
      have hle := Lib.hid (oSum_le os (i + 1))
      obtain ⟨kd, ot, S⟩ := x
      have hnx := Lib.hid (show oSum os (i + 1) = oSum os i + S.size from oSum_next os hx)
      clear hc hx
      simp only [] at q0 q1 q2
      have HSz := Lib.hid (show S.size ≤ 1048576 by have := hle.out; have := HS.out; have := hnx.out; omega)
      cases ot
      · have twO := tw.fresh ((Below.refl wr.heap.size wr).alloc (Nat.le_refl _) (Obj.cells #[.int .i64 kd, .bool false, .string S] 51)) (Nat.le_refl _)
        have twF := twO.fresh (Below.refl _ _) (show oSum os i ≤ oSum os (i + 1) by have := hnx.out; omega)
        clear tw
        rcases (twO).a (bd2 := oSum os (i + 1)) (by have := hnx.out; omega) with rfl | ⟨H, M, c, N, s, tv, bv, tv2, cv, l, wh, rfl, rfl, hpr, hnext⟩
        · go_wp2_with fail
          go_roundw
          case rel => exact ⟨i + 1, by simp, by omega, twF⟩
          case measure => simp [intOf]; omega
        · have h1 := one_calls _ _ _ (oSum os (i + 1)) _ _ _ _ _ _ _ _ _ _ _ kd false S hpr HSz.out (by have := hnx.out; omega) (by have := hle.out; have := HS.out; omega)
          have hno := hpr.not_op (heap_alloc_new wr (Obj.cells #[.int .i64 kd, .bool false, .string S] 51))
          clear hpr twO
          go_wp2_with fail
          refine h1.mono ?_
          rintro e w2 hok
          have xO : w2.cell? ⟨wr.heap.size, 1, none⟩ = some (.bool false) := by
            obtain ⟨_, _, _, _, _, hf, _⟩ := hok
            have := (hf.block wr.heap.size (by simp) hno).trans (heap_alloc_new wr _)
            simp [World.cell?, this]
          obtain ⟨rfl, tw2⟩ := hnext e w2 hok
          clear hok hnext h1
          go_wp2
          go_roundw
          case rel => exact ⟨i + 1, by simp, by omega, tw2⟩
          case measure => simp [intOf]; omega
      · have twO := tw.fresh ((Below.refl wr.heap.size wr).alloc (Nat.le_refl _) (Obj.cells #[.int .i64 kd, .bool true, .string S] 51)) (Nat.le_refl _)
        have twF := twO.fresh (Below.refl _ _) (show oSum os i ≤ oSum os (i + 1) by have := hnx.out; omega)
        clear tw
        rcases (twO.swap).a (bd2 := oSum os (i + 1)) (by have := hnx.out; omega) with rfl | ⟨H, M, c, N, s, tv, bv, tv2, cv, l, wh, rfl, rfl, hpr, hnext⟩
        · go_wp2_with fail
          go_roundw
          case rel => exact ⟨i + 1, by simp, by omega, twF⟩
          case measure => simp [intOf]; omega
        · have h1 := one_calls _ _ _ (oSum os (i + 1)) _ _ _ _ _ _ _ _ _ _ _ kd true S hpr HSz.out (by have := hnx.out; omega) (by have := hle.out; have := HS.out; omega)
          have hno := hpr.not_op (heap_alloc_new wr (Obj.cells #[.int .i64 kd, .bool true, .string S] 51))
          clear hpr twO
          go_wp2_with fail
          refine h1.mono ?_
          rintro e w2 hok
          have xO : w2.cell? ⟨wr.heap.size, 1, none⟩ = some (.bool true) := by
            obtain ⟨_, _, _, _, _, hf, _⟩ := hok
            have := (hf.block wr.heap.size (by simp) hno).trans (heap_alloc_new wr _)
            simp [World.cell?, this]
          obtain ⟨rfl, tw2⟩ := hnext e w2 hok
          clear hok hnext h1
          go_wp2
          go_roundw
          case rel => exact ⟨i + 1, by simp, by omega, tw2.swap⟩
          case measure => simp [intOf]; omega
    · obtain rfl : i = n := by omega
      have hbl := tw.below
      have hbd : ∀ m, Below w.heap.size w (wr.drewN m) := fun m => hbl.trans ⟨rfl, rfl, rfl, Nat.le_refl _, fun _ _ => rfl⟩
      have HB := Lib.hid (show oSum os i ≤ 1048576 by have := oSum_le os i; have := HS.out; omega)
      rcases (tw.swap).a (Nat.le_refl _) with rfl | ⟨G, L, c2, N2, s2, tv3, bv3, tv4, cv4, l2, wh2, rfl, rfl, hpr2, _⟩
      · rcases tw.a (Nat.le_refl _) with rfl | ⟨H, M, c, N, s, tv, bv, tv2, cv, l, wh, rfl, rfl, hpr, _⟩
        · clear tw
          go_wp2_with fail
          refine (nil_add _ _).mono ?_
          rintro e w6 ⟨rfl, rfl⟩
          go_wp2_with fail
          refine (nil_close _).mono ?_
          rintro e w6 ⟨rfl, rfl⟩
          go_wp2_with fail
          refine (nil_truth _).mono ?_
          rintro e w6 ⟨rfl, rfl⟩
          go_wp2_with fail
          refine (nil_kept _).mono ?_
          rintro e w6 ⟨rfl, rfl⟩
          go_wp2
          go_ret
          exact ⟨rfl, by first | exact hbl | exact hbd _⟩
        · clear tw
          obtain ⟨t1, ht1⟩ : ∃ t, Hid (t = tB c N (askedT c s) l wh) := ⟨_, rfl⟩
          have T1 : Hid (∀ wx, (∃ m, wx = wr.drewN m) → Calls Try.prog 12 #[.pointer (some ⟨H, 0, none⟩)] wx fun e w' => e = .returned (.int .i64 t1) ∧ ∃ m, w' = wx.drewN m) := fun wx ⟨m, hm⟩ => by
            subst hm; rw [ht1.out]; exact (hpr.drewN m).st.truth hpr.c0 hpr.c8
          have D1 : Hid (∀ wx, (∃ m, wx = wr.drewN m) → Calls Try.prog 19 #[.pointer (some ⟨M, 0, none⟩)] wx fun e w' => e = .returned (.int .i64 t1) ∧ ∃ m, w' = wx.drewN m) := fun wx ⟨m, hm⟩ => by
            subst hm; rw [ht1.out]; exact (hpr.drewN m).mm.truth hpr.c0 hpr.c8 (by have := hpr.sz; omega) (by have := hpr.len; have := HB.out; omega)
          clear hpr
          go_wp2_with fail
          refine (T1.out _ (by first | exact ⟨0, rfl⟩ | exact ⟨_, rfl⟩)).mono ?_
          rintro e w6 ⟨rfl, m1a, rfl⟩
          go_wp2_with fail
          refine (D1.out _ (by first | exact ⟨0, rfl⟩ | exact ⟨_, rfl⟩)).mono ?_
          rintro e w6 ⟨rfl, m1b, rfl⟩
          go_wp2_with fail
          refine (nil_add _ _).mono ?_
          rintro e w6 ⟨rfl, rfl⟩
          go_wp2_with fail
          refine (nil_close _).mono ?_
          rintro e w6 ⟨rfl, rfl⟩
          go_wp2_with fail
          refine (nil_truth _).mono ?_
          rintro e w6 ⟨rfl, rfl⟩
          go_wp2_with fail
          refine (nil_kept _).mono ?_
          rintro e w6 ⟨rfl, rfl⟩
          go_wp2
          go_ret
          exact ⟨rfl, by first | exact hbl | exact hbd _⟩
      · rcases tw.a (Nat.le_refl _) with rfl | ⟨H, M, c, N, s, tv, bv, tv2, cv, l, wh, rfl, rfl, hpr, _⟩
        · clear tw
          obtain ⟨t2, ht2⟩ : ∃ t, Hid (t = tB c2 N2 (askedT c2 s2) l2 wh2) := ⟨_, rfl⟩
          have T2 : Hid (∀ wx, (∃ m, wx = wr.drewN m) → Calls Try.prog 12 #[.pointer (some ⟨G, 0, none⟩)] wx fun e w' => e = .returned (.int .i64 t2) ∧ ∃ m, w' = wx.drewN m) := fun wx ⟨m, hm⟩ => by
            subst hm; rw [ht2.out]; exact (hpr2.drewN m).st.truth hpr2.c0 hpr2.c8
          have D2 : Hid (∀ wx, (∃ m, wx = wr.drewN m) → Calls Try.prog 19 #[.pointer (some ⟨L, 0, none⟩)] wx fun e w' => e = .returned (.int .i64 t2) ∧ ∃ m, w' = wx.drewN m) := fun wx ⟨m, hm⟩ => by
            subst hm; rw [ht2.out]; exact (hpr2.drewN m).mm.truth hpr2.c0 hpr2.c8 (by have := hpr2.sz; omega) (by have := hpr2.len; have := HB.out; omega)
          clear hpr2
          go_wp2_with fail
          refine (T2.out _ (by first | exact ⟨0, rfl⟩ | exact ⟨_, rfl⟩)).mono ?_
          rintro e w6 ⟨rfl, m2a, rfl⟩
          go_wp2_with fail
          refine (D2.out _ (by first | exact ⟨0, rfl⟩ | exact ⟨_, rfl⟩)).mono ?_
          rintro e w6 ⟨rfl, m2b, rfl⟩
          go_wp2_with fail
          refine (nil_add _ _).mono ?_
          rintro e w6 ⟨rfl, rfl⟩
          go_wp2_with fail
          refine (nil_close _).mono ?_
          rintro e w6 ⟨rfl, rfl⟩
          go_wp2_with fail
          refine (nil_truth _).mono ?_
          rintro e w6 ⟨rfl, rfl⟩
          go_wp2_with fail
          refine (nil_kept _).mono ?_
          rintro e w6 ⟨rfl, rfl⟩
          go_wp2
          go_ret
          exact ⟨rfl, by first | exact hbl | exact hbd _⟩
        · clear tw
          obtain ⟨t1, ht1⟩ : ∃ t, Hid (t = tB c N (askedT c s) l wh) := ⟨_, rfl⟩
          have T1 : Hid (∀ wx, (∃ m, wx = wr.drewN m) → Calls Try.prog 12 #[.pointer (some ⟨H, 0, none⟩)] wx fun e w' => e = .returned (.int .i64 t1) ∧ ∃ m, w' = wx.drewN m) := fun wx ⟨m, hm⟩ => by
            subst hm; rw [ht1.out]; exact (hpr.drewN m).st.truth hpr.c0 hpr.c8
          have D1 : Hid (∀ wx, (∃ m, wx = wr.drewN m) → Calls Try.prog 19 #[.pointer (some ⟨M, 0, none⟩)] wx fun e w' => e = .returned (.int .i64 t1) ∧ ∃ m, w' = wx.drewN m) := fun wx ⟨m, hm⟩ => by
            subst hm; rw [ht1.out]; exact (hpr.drewN m).mm.truth hpr.c0 hpr.c8 (by have := hpr.sz; omega) (by have := hpr.len; have := HB.out; omega)
          clear hpr
          obtain ⟨t2, ht2⟩ : ∃ t, Hid (t = tB c2 N2 (askedT c2 s2) l2 wh2) := ⟨_, rfl⟩
          have T2 : Hid (∀ wx, (∃ m, wx = wr.drewN m) → Calls Try.prog 12 #[.pointer (some ⟨G, 0, none⟩)] wx fun e w' => e = .returned (.int .i64 t2) ∧ ∃ m, w' = wx.drewN m) := fun wx ⟨m, hm⟩ => by
            subst hm; rw [ht2.out]; exact (hpr2.drewN m).st.truth hpr2.c0 hpr2.c8
          have D2 : Hid (∀ wx, (∃ m, wx = wr.drewN m) → Calls Try.prog 19 #[.pointer (some ⟨L, 0, none⟩)] wx fun e w' => e = .returned (.int .i64 t2) ∧ ∃ m, w' = wx.drewN m) := fun wx ⟨m, hm⟩ => by
            subst hm; rw [ht2.out]; exact (hpr2.drewN m).mm.truth hpr2.c0 hpr2.c8 (by have := hpr2.sz; omega) (by have := hpr2.len; have := HB.out; omega)
          clear hpr2
          go_wp2_with fail
          refine (T1.out _ (by first | exact ⟨0, rfl⟩ | exact ⟨_, rfl⟩)).mono ?_
          rintro e w6 ⟨rfl, m1a, rfl⟩
          go_wp2_with fail
          refine (D1.out _ (by first | exact ⟨0, rfl⟩ | exact ⟨_, rfl⟩)).mono ?_
          rintro e w6 ⟨rfl, m1b, rfl⟩
          go_wp2_with fail
          refine (T2.out _ (by first | exact ⟨0, rfl⟩ | exact ⟨_, rfl⟩)).mono ?_
          rintro e w6 ⟨rfl, m2a, rfl⟩
          go_wp2_with fail
          refine (D2.out _ (by first | exact ⟨0, rfl⟩ | exact ⟨_, rfl⟩)).mono ?_
          rintro e w6 ⟨rfl, m2b, rfl⟩
          go_wp2_with fail
          refine (nil_add _ _).mono ?_
          rintro e w6 ⟨rfl, rfl⟩
          go_wp2_with fail
          refine (nil_close _).mono ?_
          rintro e w6 ⟨rfl, rfl⟩
          go_wp2_with fail
          refine (nil_truth _).mono ?_
          rintro e w6 ⟨rfl, rfl⟩
          go_wp2_with fail
          refine (nil_kept _).mono ?_
          rintro e w6 ⟨rfl, rfl⟩
          go_wp2
          go_ret
          exact ⟨rfl, by first | exact hbl | exact hbd _⟩
theorem huntPlays_walk (c0 : Int) (s0 : ByteArray) (n0 : Int) (c1 : Int) (s1 : ByteArray) (n1 : Int) (ao : Option Addr) (n cap : Nat) (os : List (Int × Bool × ByteArray)) (w : World) (_ : (Lit.int .i64 c0).wf = true) (hs0 : s0.size ≤ 1048576) (_ : (Lit.int .i64 n0).wf = true) (_ : (Lit.int .i64 c1).wf = true) (hs1 : s1.size ≤ 1048576) (_ : (Lit.int .i64 n1).wf = true)
    (hos : Od w ao n cap os) (hn : n ≤ 1048576) (hsum : (os.map (·.2.2.size)).sum ≤ 1048576) :
    Calls Try.prog 5 #[.agg #[.int .i64 c0, .string s0, .int .i64 n0], .agg #[.int .i64 c1, .string s1, .int .i64 n1], .slice ao n cap] w fun e w' => e = .returned (.bool true) ∧ Below w.heap.size w w' :=
  huntPlaysWalk c0 n0 s0 c1 n1 s1 ao n cap os w hs0 hs1 hos hn hsum
end Go.Proofs.Ytgajinnbmnnccaa
