/- The walk of gimletlaw16.HuntTurned. -/
import Derived.Test.YtgajinnbmnnccaaHuntNine
import Derived.Deep.CutRange
import Derived.Deep.CutBlock
import Derived.Deep.RegionHeld3
namespace Go.Proofs.Ytgajinnbmnnccaa
open Go.RowKit Gim
set_option maxRecDepth 100000 in
set_option maxHeartbeats 8000000 in
theorem huntTurnedWalk (c0 n0 : Int) (s : ByteArray) (ao : Option Addr) (n cap : Nat) (ss : List ByteArray) (w : World) (hn : n0 ≤ 9223372036854775807) (hs : s.size ≤ 1048576) (hss : Sd w ao n cap ss) (hn2 : n ≤ 1048576) (hsum : (ss.map (·.size)).sum ≤ 1048576) :
    Calls Try.prog 3 #[.agg #[.int .i64 c0, .string s, .int .i64 n0], .slice ao n cap] w fun e w' => e = .returned (.bool true) ∧ Below w.heap.size w w' := by
  have HS := Lib.hid hsum
  clear hsum
  have HSS := Lib.hid hss
  have hncap := hss.le
  clear hss
  obtain ⟨N, hN⟩ : ∃ N, Hid (N = n0.toNat) := ⟨_, rfl⟩
  have hz : (if n0 < 0 then (0 : Int) else n0) = (N : Int) := by have := hN.out; split <;> omega
  have hC : Hid (∀ (c : Nat) (w : World), c ≤ 8 → Calls Try.prog 9 #[.int .i64 c, .string s, .int .i64 N] w (NewOK w c N (askedT c s))) := fun c w hc => new_calls w c s N (by omega) (by omega) (by omega)
  go_enter Try.func3, Try.ntmps3
  go_wp2_with fail
  refine (awake _).mono ?_
  rintro e w1 ⟨rfl, b1⟩
  have x1 : w1.heap[w.heap.size]? = some (Obj.cells #[.int .i64 c0, .string s, .int .i64 n0] 23) := (b1.block _ (by simp)).trans (heap_alloc_new w _)
  have b0 : Below w.heap.size w w1 := ((Below.refl _ _).alloc (Nat.le_refl _) _).trans (b1.mono (by simp))
  clear b1
  have n9 : Nine w w1 0 N s (fun _ => 0) (fun _ => .bool true) (fun _ => .bool true) (fun _ => []) (fun _ => false) := ⟨fun c hc => by omega, fun c hc => by omega, fun c d hc => by omega, b0⟩
  go_wp2_with fail
  go_loopw [5, 6] (fun v u wr => ∃ (m : Nat) (Hs : Nat → Nat) (tv bv : Nat → Value), u = .int .i64 m ∧ m ≤ 9 ∧ Pr wr w.heap.size v m Hs ∧ Nine w wr m N s Hs tv bv (fun _ => []) (fun _ => false) ∧ wr.heap[w.heap.size]? = some (Obj.cells #[.int .i64 c0, .string s, .int .i64 n0] 23)) (fun _ u _ => 9 - (intOf u).toNat)
  case atStart => exact ⟨0, _, _, _, rfl, by omega, World.ownsRow_nil _ _ _ _, n9, x1⟩
  case round =>
    obtain ⟨m, Hs, tv, bv, rfl, hm, hp, h9, xr⟩ := hrel
    by_cases hm8 : m < 9
    · have hm9 : (m : Int) ≤ 8 := by omega
      have y0 : wr.cell? ⟨w.heap.size, 0, none⟩ = some (.int .i64 c0) := by simp [World.cell?, xr]
      have y1 : wr.cell? ⟨w.heap.size, 1, none⟩ = some (.string s) := by simp [World.cell?, xr]
      have y2 : wr.cell? ⟨w.heap.size, 2, none⟩ = some (.int .i64 n0) := by simp [World.cell?, xr]
      go_wp2_with fail
      refine (hC.out m _ (by omega)).mono ?_
      rintro e w2 ⟨tv2, bv2, rfl, st, b⟩
      have h9' := h9.push b st
      have hp2 := hp.fresh b
      have x2 := (b.block _ (Array.getElem?_eq_some_iff.1 xr).1).trans xr
      have hB := h9'.below.size
      obtain ⟨H, hH⟩ : ∃ H, Hid (H = wr.heap.size) := ⟨_, rfl⟩
      rw [← hH.out]
      clear y0 y1 y2 b st
      go_wp2_with (at_builtin; refine appendP _ rfl _ _ rfl w.heap.size _ m Hs rfl hp2 H rfl (by omega) hB ?_; intro v3 w3 hp3 hgrow)
      have h93 := h9'.grown hp2 hgrow
      rw [hH.out] at hp3
      have x3 : w3.heap[w.heap.size]? = _ := (hgrow.block _ (Array.getElem?_eq_some_iff.1 x2).1 (fun e => by have := (World.ownsRow.lt hp2 _ e.symm).1; obtain ⟨cur, hcur⟩ := own_ty hp2 e.symm; exact ty_ne x2 hcur (by decide) rfl)).trans x2
      go_roundw
      case rel => exact ⟨m + 1, _, _, _, by simp, by omega, hp3, h93, x3⟩
      case measure => simp [intOf]; omega
    · obtain rfl : m = 9 := by omega
      clear xr hC hz n9 x1 b0 hm hm8
      obtain ⟨g, gc, rfl, hgc, hgm⟩ := hp.open_ (by omega)
      have hw0 := h9.below
      rw [show (((9 : Nat) : Nat) : Int) = 9 from rfl]
      go_wp2_with fail
      go_loopw [9] (fun u wr2 => ∃ i : Nat, u = .int .i64 i ∧ i ≤ n + 1 ∧ Nine w wr2 9 N s Hs tv bv (fun _ => catL ss (min i n)) (fun _ => decide (i = n + 1)) ∧ Pr wr2 w.heap.size (.slice (some ⟨g, 0, none⟩) 9 gc) 9 Hs) (fun u _ => n + 1 - (intOf u).toNat)
      case atStart =>
        refine ⟨0, rfl, by omega, ?_, hp⟩
        have e : catL ss (min 0 n) = [] := by simp [catL]
        have e2 : decide (0 = n + 1) = false := by simp
        rw [e, e2]
        exact h9
      case round =>
        clear hp h9 hw0
        obtain ⟨i, rfl, hi, h9, hp⟩ := hrel
        by_cases hin : i ≤ n
        · have hin2 : (i : Int) ≤ n := by omega
          have e2 : decide (i = n + 1) = false := by simp; omega
          rw [e2, Nat.min_eq_left hin] at h9
          clear e2
          go_upto_if 50 with fail
          go_cut [10, 11] from 41 to 152 (fun _ _ wx => Nine w wx 9 N s Hs tv bv (fun _ => catL ss (min (i + 1) n)) (fun _ => decide (i = n)) ∧ Pr wx w.heap.size (.slice (some ⟨g, 0, none⟩) 9 gc) 9 Hs)
          case first =>
            by_cases hlt : i < n
            · have hlt2 : (i : Int) < n := by omega
              simp only [hlt, decide_true]
              obtain ⟨b, o, rfl, hbb, hcell⟩ := HSS.out.cell i hlt
              have hci := hcell i hlt
              have hnx := Lib.hid (catL_next ss (i := i) (by rw [HSS.out.len]; exact hlt))
              have HB := Lib.hid (show (catL ss i).length + (ss.getD i ByteArray.empty).size ≤ 2 ^ 62 by have := catL_len ss i; have := size_le ss i; have := HS.out; omega)
              obtain ⟨pc, hpc⟩ : ∃ pc, Hid (pc = ss.getD i ByteArray.empty) := ⟨_, rfl⟩
              rw [← hpc.out] at hci hnx HB
              clear hcell
              go_wp2_with fail
              go_loopw [10] (fun u wy => ∃ k : Nat, u = .int .i64 k ∧ k ≤ 9 ∧ Nine w wy 9 N s Hs tv bv (fun c => if c < k then catL ss (i + 1) else catL ss i) (fun _ => false) ∧ Pr wy w.heap.size (.slice (some ⟨g, 0, none⟩) 9 gc) 9 Hs) (fun u _ => 9 - (intOf u).toNat)
              case atStart => exact ⟨0, rfl, by omega, by simpa using h9, hp⟩
              case round =>
                clear hp h9
                obtain ⟨k, rfl, hk, h9, hp⟩ := hrel
                by_cases hk9 : k < 9
                · have hk2 : (k : Int) < 9 := by omega
                  have hd9 := h9.fresh ((Below.refl _ wr).drew)
                  have st : St wr.drew (Hs k + 1) (Hs k) k N (askedT k s) (tv k) (bv k) (catL ss i) false := by
                    have := hd9.st k hk9
                    simpa using this
                  have yk := hp.cell hk9
                  have yi := (h9.below.cell (p := ⟨b, o + i, none⟩) hbb).trans hci
                  have hpd : Pr wr.drew w.heap.size (.slice (some ⟨g, 0, none⟩) 9 gc) 9 Hs := hp
                  have hsz := h9.below.size
                  have hlo := h9.lo k hk9
                  go_wp2_with fail
                  go_region_held3 (fun W => W.cell? ⟨g, k, none⟩ = some (.pointer (some ⟨Hs k, 0, none⟩)) ∧ W.cell? ⟨b, o + i, none⟩ = some (.string pc)) (first | go_keep | exact ⟨by assumption, by assumption⟩) (first | (go_at_call 10; refine (add_calls _ _ _ _ _ _ _ _ _ pc st (askedT_fl _ _) HB.out).mono ?_; rintro e w3 ha; obtain rfl := ha.1; have hp3 := hpd.step hd9 hk9 ha.2.1; have h93 := hd9.step hk9 ha (ls2 := fun c => if c < k + 1 then catL ss (i + 1) else catL ss i) (wh2 := fun _ => false) (by rw [hnx.out]; simp) rfl (fun c hc hne => ⟨by by_cases hck : c < k <;> simp [hck] <;> omega, rfl⟩); have z1 := hp3.cell hk9; have z2 : w3.cell? ⟨b, o + i, none⟩ = some (.string pc) := (World.cell?_of_block (ha.2.1.block b (Nat.lt_of_lt_of_le hbb hsz) (fun e => by omega))).trans yi))
                  all_goals
                    go_wp2_with fail
                    go_roundw
                    case rel => first | exact ⟨k + 1, by simp, by omega, h93, hp3⟩ | ((repeat apply Exists.intro); refine ⟨?_, rfl⟩; exact ⟨k + 1, by simp, by omega, h93, hp3⟩)
                    case measure => simp [intOf]; omega
                · obtain rfl : k = 9 := by omega
                  go_wp2_with fail
                  go_meet
                  case rel =>
                    have e1 : decide (i = n) = false := by simp; omega
                    refine ⟨⟨fun c hc => ?_, h9.lo, h9.ap, h9.below⟩, hp⟩
                    have := h9.st c hc
                    simp only [hc, if_true] at this
                    rw [Nat.min_eq_left (by omega), e1]
                    exact this
            · obtain rfl : i = n := by omega
              go_wp2_with fail
              go_loopw [11] (fun u wy => ∃ k : Nat, u = .int .i64 k ∧ k ≤ 9 ∧ Nine w wy 9 N s Hs tv bv (fun _ => catL ss i) (fun c => decide (c < k)) ∧ Pr wy w.heap.size (.slice (some ⟨g, 0, none⟩) 9 gc) 9 Hs) (fun u _ => 9 - (intOf u).toNat)
              case atStart => exact ⟨0, rfl, by omega, by simpa using h9, hp⟩
              case round =>
                clear hp h9
                obtain ⟨k, rfl, hk, h9, hp⟩ := hrel
                by_cases hk9 : k < 9
                · have hk2 : (k : Int) < 9 := by omega
                  have st : St wr (Hs k + 1) (Hs k) k N (askedT k s) (tv k) (bv k) (catL ss i) false := by
                    have := h9.st k hk9
                    simpa using this
                  have yk := hp.cell hk9
                  go_wp2_with fail
                  refine (St.close (by first | exact st | exact st.drewN _)).mono ?_
                  rintro e w3 ha
                  obtain rfl := ha.1
                  have hp3 := hp.step h9 hk9 ha.2.1
                  have h93 := h9.step hk9 ha (ls2 := fun _ => catL ss i) (wh2 := fun c => decide (c < k + 1)) rfl (by simp) (fun c hc hne => ⟨rfl, by simp; omega⟩)
                  clear ha st
                  go_wp2_with fail
                  go_roundw
                  case rel => exact ⟨k + 1, by simp, by omega, h93, hp3⟩
                  case measure => simp [intOf]; omega
                · obtain rfl : k = 9 := by omega
                  go_wp2_with fail
                  go_meet
                  case rel =>
                    refine ⟨⟨fun c hc => ?_, h9.lo, h9.ap, h9.below⟩, hp⟩
                    have := h9.st c hc
                    simp only [hc, decide_true] at this
                    rw [Nat.min_eq_right (by omega)]
                    simpa using this
          case rest =>
            clear hp h9
            obtain ⟨h9, hp⟩ := hcut
            obtain ⟨L, hL⟩ : ∃ L, Hid (L = catL ss (min (i + 1) n)) := ⟨_, rfl⟩
            obtain ⟨wh, hwh⟩ : ∃ wh, Hid (wh = decide (i = n)) := ⟨_, rfl⟩
            rw [← hL.out, ← hwh.out] at h9
            obtain ⟨t0, ht0⟩ : ∃ t, Hid (t = tB 0 N (askedT 0 s) L wh) := ⟨_, rfl⟩
            obtain ⟨t1, ht1⟩ : ∃ t, Hid (t = tB 1 N (askedT 1 s) L wh) := ⟨_, rfl⟩
            obtain ⟨t2, ht2⟩ : ∃ t, Hid (t = tB 2 N (askedT 2 s) L wh) := ⟨_, rfl⟩
            obtain ⟨t3, ht3⟩ : ∃ t, Hid (t = tB 3 N (askedT 3 s) L wh) := ⟨_, rfl⟩
            obtain ⟨t4, ht4⟩ : ∃ t, Hid (t = tB 4 N (askedT 4 s) L wh) := ⟨_, rfl⟩
            obtain ⟨t5, ht5⟩ : ∃ t, Hid (t = tB 5 N (askedT 5 s) L wh) := ⟨_, rfl⟩
            obtain ⟨t6, ht6⟩ : ∃ t, Hid (t = tB 6 N (askedT 6 s) L wh) := ⟨_, rfl⟩
            obtain ⟨t7, ht7⟩ : ∃ t, Hid (t = tB 7 N (askedT 7 s) L wh) := ⟨_, rfl⟩
            obtain ⟨t8, ht8⟩ : ∃ t, Hid (t = tB 8 N (askedT 8 s) L wh) := ⟨_, rfl⟩
            have R12 : t1 + t2 = 2 ∧ 0 ≤ t1 ∧ t1 ≤ 2 := by rw [ht1.out, ht2.out]; have := tB_range 1 N (askedT 1 s) L wh; exact ⟨tB_turned N s L wh, this⟩
            have R0 : t0 = 2 := ht0.out
            have R7 : 0 ≤ t7 ∧ t7 ≤ 2 := by rw [ht7.out]; exact tB_range 7 N (askedT 7 s) L wh
            have R3 : 0 ≤ t3 ∧ t3 ≤ 2 := by rw [ht3.out]; exact tB_range 3 N (askedT 3 s) L wh
            have Q7 : t7 = 2 → t6 = 0 ∧ t8 = 0 := fun h => by rw [ht7.out] at h; rw [ht6.out, ht8.out]; exact tB_longer h
            have Q1 : t1 = 2 → t3 = 2 ∧ t4 = 2 ∧ t5 = 2 := fun h => by rw [ht1.out] at h; rw [ht3.out, ht4.out, ht5.out]; exact tB_equal h
            have Q3 : t3 = 2 → t5 = 2 := fun h => by rw [ht3.out] at h; rw [ht5.out]; exact tB_begins h
            have RR := Lib.hid (And.intro R12 (And.intro R0 (And.intro R7 (And.intro R3 (And.intro Q7 (And.intro Q1 Q3))))))
            clear R12 R0 R7 R3 Q7 Q1 Q3
            have T0 : Hid (∀ m, Calls Try.prog 12 #[.pointer (some ⟨Hs 0, 0, none⟩)] (wc.drewN m) fun e w' => e = .returned (.int .i64 t0) ∧ ∃ m2, w' = (wc.drewN m).drewN m2) := fun m => by
              rw [ht0.out]; exact ((h9.drewN m).st 0 (by omega)).truth (by decide) (by decide)
            have y0 : ∀ m, (wc.drewN m).cell? ⟨g, 0, none⟩ = some (.pointer (some ⟨Hs 0, 0, none⟩)) := fun m => hp.cell (by omega)
            have T1 : Hid (∀ m, Calls Try.prog 12 #[.pointer (some ⟨Hs 1, 0, none⟩)] (wc.drewN m) fun e w' => e = .returned (.int .i64 t1) ∧ ∃ m2, w' = (wc.drewN m).drewN m2) := fun m => by
              rw [ht1.out]; exact ((h9.drewN m).st 1 (by omega)).truth (by decide) (by decide)
            have y1 : ∀ m, (wc.drewN m).cell? ⟨g, 1, none⟩ = some (.pointer (some ⟨Hs 1, 0, none⟩)) := fun m => hp.cell (by omega)
            have T2 : Hid (∀ m, Calls Try.prog 12 #[.pointer (some ⟨Hs 2, 0, none⟩)] (wc.drewN m) fun e w' => e = .returned (.int .i64 t2) ∧ ∃ m2, w' = (wc.drewN m).drewN m2) := fun m => by
              rw [ht2.out]; exact ((h9.drewN m).st 2 (by omega)).truth (by decide) (by decide)
            have y2 : ∀ m, (wc.drewN m).cell? ⟨g, 2, none⟩ = some (.pointer (some ⟨Hs 2, 0, none⟩)) := fun m => hp.cell (by omega)
            go_upto_region 25 with fail
            go_cut [95] from 41 to 152 (fun v wx => v = .bool false ∧ Nine w wx 9 N s Hs tv bv (fun _ => L) (fun _ => wh) ∧ Pr wx w.heap.size (.slice (some ⟨g, 0, none⟩) 9 gc) 9 Hs)
            case first =>
              obtain ⟨R12, R0, R7, R3, Q7, Q1, Q3⟩ := RR.out
              clear RR R7 R3 Q7 Q1 Q3
              subst R0
              obtain ⟨rfl, rfl⟩ | ⟨rfl, rfl⟩ | ⟨rfl, rfl⟩ : t1 = 0 ∧ t2 = 2 ∨ t1 = 1 ∧ t2 = 1 ∨ t1 = 2 ∧ t2 = 0 := by omega
              all_goals
                go_quiet ((first | with_reducible exact Calls.quiet_of (T0.out _) | with_reducible exact Calls.quiet_of (T1.out _) | with_reducible exact Calls.quiet_of (T2.out _)))
                go_wp2_with fail
                go_meet
                case rel => exact ⟨rfl, h9.drewN _, hp⟩
            case rest =>
            clear hp h9 T0 y0 T1 y1 T2 y2
            obtain ⟨rfl, h9, hp⟩ := hcut
            have TC6 : Hid (∀ wx, Nine w wx 9 N s Hs tv bv (fun _ => L) (fun _ => wh) → Calls Try.prog 12 #[.pointer (some ⟨Hs 6, 0, none⟩)] wx fun e w' => e = .returned (.int .i64 t6) ∧ ∃ m2, w' = wx.drewN m2) := fun wx h => by
              rw [ht6.out]; exact (h.st 6 (by omega)).truth (by decide) (by decide)
            have y6 : wc.cell? ⟨g, 6, none⟩ = some (.pointer (some ⟨Hs 6, 0, none⟩)) := hp.cell (by omega)
            have yd6 : ∀ m, (wc.drewN m).cell? ⟨g, 6, none⟩ = some (.pointer (some ⟨Hs 6, 0, none⟩)) := fun m => hp.cell (by omega)
            have TC7 : Hid (∀ wx, Nine w wx 9 N s Hs tv bv (fun _ => L) (fun _ => wh) → Calls Try.prog 12 #[.pointer (some ⟨Hs 7, 0, none⟩)] wx fun e w' => e = .returned (.int .i64 t7) ∧ ∃ m2, w' = wx.drewN m2) := fun wx h => by
              rw [ht7.out]; exact (h.st 7 (by omega)).truth (by decide) (by decide)
            have y7 : wc.cell? ⟨g, 7, none⟩ = some (.pointer (some ⟨Hs 7, 0, none⟩)) := hp.cell (by omega)
            have yd7 : ∀ m, (wc.drewN m).cell? ⟨g, 7, none⟩ = some (.pointer (some ⟨Hs 7, 0, none⟩)) := fun m => hp.cell (by omega)
            have TC8 : Hid (∀ wx, Nine w wx 9 N s Hs tv bv (fun _ => L) (fun _ => wh) → Calls Try.prog 12 #[.pointer (some ⟨Hs 8, 0, none⟩)] wx fun e w' => e = .returned (.int .i64 t8) ∧ ∃ m2, w' = wx.drewN m2) := fun wx h => by
              rw [ht8.out]; exact (h.st 8 (by omega)).truth (by decide) (by decide)
            have y8 : wc.cell? ⟨g, 8, none⟩ = some (.pointer (some ⟨Hs 8, 0, none⟩)) := hp.cell (by omega)
            have yd8 : ∀ m, (wc.drewN m).cell? ⟨g, 8, none⟩ = some (.pointer (some ⟨Hs 8, 0, none⟩)) := fun m => hp.cell (by omega)
            go_upto_region 27 with fail
            go_cut [114] from 41 to 152 (fun v wx => v = .bool false ∧ Nine w wx 9 N s Hs tv bv (fun _ => L) (fun _ => wh) ∧ Pr wx w.heap.size (.slice (some ⟨g, 0, none⟩) 9 gc) 9 Hs)
            case first =>
              obtain ⟨R12, R0, R7, R3, Q7, Q1, Q3⟩ := RR.out
              clear RR R12 R0 R3 Q1 Q3
              obtain rfl | rfl | ⟨rfl, rfl, rfl⟩ : t7 = 0 ∨ t7 = 1 ∨ (t7 = 2 ∧ t6 = 0 ∧ t8 = 0) := by omega
              · skip
                go_wp2_with fail
                first | refine (TC7.out _ h9).mono ?_ | refine (TC7.out _ (h9.drewN _)).mono ?_
                rintro e w6 ⟨rfl, m0, rfl⟩
                go_wp2_with fail
                go_meet
                case rel => exact ⟨rfl, h9.drewN _, hp⟩
              · skip
                go_wp2_with fail
                first | refine (TC7.out _ h9).mono ?_ | refine (TC7.out _ (h9.drewN _)).mono ?_
                rintro e w6 ⟨rfl, m0, rfl⟩
                go_wp2_with fail
                go_meet
                case rel => exact ⟨rfl, h9.drewN _, hp⟩
              · skip
                go_wp2_with fail
                first | refine (TC7.out _ h9).mono ?_ | refine (TC7.out _ (h9.drewN _)).mono ?_
                rintro e w6 ⟨rfl, m0, rfl⟩
                go_wp2_with fail
                first | refine (TC6.out _ h9).mono ?_ | refine (TC6.out _ (h9.drewN _)).mono ?_
                rintro e w6 ⟨rfl, m1, rfl⟩
                go_wp2_with fail
                first | refine (TC8.out _ h9).mono ?_ | refine (TC8.out _ (h9.drewN _)).mono ?_
                rintro e w6 ⟨rfl, m2, rfl⟩
                go_wp2_with fail
                go_meet
                case rel => exact ⟨rfl, h9.drewN _, hp⟩
            case rest =>
            clear hp h9 TC6 y6 yd6 TC7 y7 yd7 TC8 y8 yd8
            obtain ⟨rfl, h9, hp⟩ := hcut
            have TC1 : Hid (∀ wx, Nine w wx 9 N s Hs tv bv (fun _ => L) (fun _ => wh) → Calls Try.prog 12 #[.pointer (some ⟨Hs 1, 0, none⟩)] wx fun e w' => e = .returned (.int .i64 t1) ∧ ∃ m2, w' = wx.drewN m2) := fun wx h => by
              rw [ht1.out]; exact (h.st 1 (by omega)).truth (by decide) (by decide)
            have y1 : wc.cell? ⟨g, 1, none⟩ = some (.pointer (some ⟨Hs 1, 0, none⟩)) := hp.cell (by omega)
            have yd1 : ∀ m, (wc.drewN m).cell? ⟨g, 1, none⟩ = some (.pointer (some ⟨Hs 1, 0, none⟩)) := fun m => hp.cell (by omega)
            have TC3 : Hid (∀ wx, Nine w wx 9 N s Hs tv bv (fun _ => L) (fun _ => wh) → Calls Try.prog 12 #[.pointer (some ⟨Hs 3, 0, none⟩)] wx fun e w' => e = .returned (.int .i64 t3) ∧ ∃ m2, w' = wx.drewN m2) := fun wx h => by
              rw [ht3.out]; exact (h.st 3 (by omega)).truth (by decide) (by decide)
            have y3 : wc.cell? ⟨g, 3, none⟩ = some (.pointer (some ⟨Hs 3, 0, none⟩)) := hp.cell (by omega)
            have yd3 : ∀ m, (wc.drewN m).cell? ⟨g, 3, none⟩ = some (.pointer (some ⟨Hs 3, 0, none⟩)) := fun m => hp.cell (by omega)
            have TC4 : Hid (∀ wx, Nine w wx 9 N s Hs tv bv (fun _ => L) (fun _ => wh) → Calls Try.prog 12 #[.pointer (some ⟨Hs 4, 0, none⟩)] wx fun e w' => e = .returned (.int .i64 t4) ∧ ∃ m2, w' = wx.drewN m2) := fun wx h => by
              rw [ht4.out]; exact (h.st 4 (by omega)).truth (by decide) (by decide)
            have y4 : wc.cell? ⟨g, 4, none⟩ = some (.pointer (some ⟨Hs 4, 0, none⟩)) := hp.cell (by omega)
            have yd4 : ∀ m, (wc.drewN m).cell? ⟨g, 4, none⟩ = some (.pointer (some ⟨Hs 4, 0, none⟩)) := fun m => hp.cell (by omega)
            have TC5 : Hid (∀ wx, Nine w wx 9 N s Hs tv bv (fun _ => L) (fun _ => wh) → Calls Try.prog 12 #[.pointer (some ⟨Hs 5, 0, none⟩)] wx fun e w' => e = .returned (.int .i64 t5) ∧ ∃ m2, w' = wx.drewN m2) := fun wx h => by
              rw [ht5.out]; exact (h.st 5 (by omega)).truth (by decide) (by decide)
            have y5 : wc.cell? ⟨g, 5, none⟩ = some (.pointer (some ⟨Hs 5, 0, none⟩)) := hp.cell (by omega)
            have yd5 : ∀ m, (wc.drewN m).cell? ⟨g, 5, none⟩ = some (.pointer (some ⟨Hs 5, 0, none⟩)) := fun m => hp.cell (by omega)
            go_upto_region 29 with fail
            go_cut [140] from 41 to 152 (fun v wx => v = .bool false ∧ Nine w wx 9 N s Hs tv bv (fun _ => L) (fun _ => wh) ∧ Pr wx w.heap.size (.slice (some ⟨g, 0, none⟩) 9 gc) 9 Hs)
            case first =>
              obtain ⟨R12, R0, R7, R3, Q7, Q1, Q3⟩ := RR.out
              clear RR R0 R7 R3 Q7 Q3
              obtain rfl | rfl | ⟨rfl, rfl, rfl, rfl⟩ : t1 = 0 ∨ t1 = 1 ∨ (t1 = 2 ∧ t3 = 2 ∧ t4 = 2 ∧ t5 = 2) := by omega
              · skip
                go_wp2_with fail
                first | refine (TC1.out _ h9).mono ?_ | refine (TC1.out _ (h9.drewN _)).mono ?_
                rintro e w6 ⟨rfl, m0, rfl⟩
                go_wp2_with fail
                go_meet
                case rel => exact ⟨rfl, h9.drewN _, hp⟩
              · skip
                go_wp2_with fail
                first | refine (TC1.out _ h9).mono ?_ | refine (TC1.out _ (h9.drewN _)).mono ?_
                rintro e w6 ⟨rfl, m0, rfl⟩
                go_wp2_with fail
                go_meet
                case rel => exact ⟨rfl, h9.drewN _, hp⟩
              · skip
                go_wp2_with fail
                first | refine (TC1.out _ h9).mono ?_ | refine (TC1.out _ (h9.drewN _)).mono ?_
                rintro e w6 ⟨rfl, m0, rfl⟩
                go_wp2_with fail
                first | refine (TC3.out _ h9).mono ?_ | refine (TC3.out _ (h9.drewN _)).mono ?_
                rintro e w6 ⟨rfl, m1, rfl⟩
                go_wp2_with fail
                first | refine (TC4.out _ h9).mono ?_ | refine (TC4.out _ (h9.drewN _)).mono ?_
                rintro e w6 ⟨rfl, m2, rfl⟩
                go_wp2_with fail
                first | refine (TC5.out _ h9).mono ?_ | refine (TC5.out _ (h9.drewN _)).mono ?_
                rintro e w6 ⟨rfl, m3, rfl⟩
                go_wp2_with fail
                go_meet
                case rel => exact ⟨rfl, h9.drewN _, hp⟩
            case rest =>
            clear hp h9 TC1 y1 yd1 TC3 y3 yd3 TC4 y4 yd4 TC5 y5 yd5
            obtain ⟨rfl, h9, hp⟩ := hcut
            have TC3 : Hid (∀ wx, Nine w wx 9 N s Hs tv bv (fun _ => L) (fun _ => wh) → Calls Try.prog 12 #[.pointer (some ⟨Hs 3, 0, none⟩)] wx fun e w' => e = .returned (.int .i64 t3) ∧ ∃ m2, w' = wx.drewN m2) := fun wx h => by
              rw [ht3.out]; exact (h.st 3 (by omega)).truth (by decide) (by decide)
            have y3 : wc.cell? ⟨g, 3, none⟩ = some (.pointer (some ⟨Hs 3, 0, none⟩)) := hp.cell (by omega)
            have yd3 : ∀ m, (wc.drewN m).cell? ⟨g, 3, none⟩ = some (.pointer (some ⟨Hs 3, 0, none⟩)) := fun m => hp.cell (by omega)
            have TC5 : Hid (∀ wx, Nine w wx 9 N s Hs tv bv (fun _ => L) (fun _ => wh) → Calls Try.prog 12 #[.pointer (some ⟨Hs 5, 0, none⟩)] wx fun e w' => e = .returned (.int .i64 t5) ∧ ∃ m2, w' = wx.drewN m2) := fun wx h => by
              rw [ht5.out]; exact (h.st 5 (by omega)).truth (by decide) (by decide)
            have y5 : wc.cell? ⟨g, 5, none⟩ = some (.pointer (some ⟨Hs 5, 0, none⟩)) := hp.cell (by omega)
            have yd5 : ∀ m, (wc.drewN m).cell? ⟨g, 5, none⟩ = some (.pointer (some ⟨Hs 5, 0, none⟩)) := fun m => hp.cell (by omega)
            go_upto_region 31 with fail
            go_cut [152] from 41 to 152 (fun v wx => v = .bool false ∧ Nine w wx 9 N s Hs tv bv (fun _ => L) (fun _ => wh) ∧ Pr wx w.heap.size (.slice (some ⟨g, 0, none⟩) 9 gc) 9 Hs)
            case first =>
              obtain ⟨R12, R0, R7, R3, Q7, Q1, Q3⟩ := RR.out
              clear RR R0 R7 R12 Q7 Q1
              obtain rfl | rfl | ⟨rfl, rfl⟩ : t3 = 0 ∨ t3 = 1 ∨ (t3 = 2 ∧ t5 = 2) := by omega
              · skip
                go_wp2_with fail
                first | refine (TC3.out _ h9).mono ?_ | refine (TC3.out _ (h9.drewN _)).mono ?_
                rintro e w6 ⟨rfl, m0, rfl⟩
                go_wp2_with fail
                go_meet
                case rel => exact ⟨rfl, h9.drewN _, hp⟩
              · skip
                go_wp2_with fail
                first | refine (TC3.out _ h9).mono ?_ | refine (TC3.out _ (h9.drewN _)).mono ?_
                rintro e w6 ⟨rfl, m0, rfl⟩
                go_wp2_with fail
                go_meet
                case rel => exact ⟨rfl, h9.drewN _, hp⟩
              · skip
                go_wp2_with fail
                first | refine (TC3.out _ h9).mono ?_ | refine (TC3.out _ (h9.drewN _)).mono ?_
                rintro e w6 ⟨rfl, m0, rfl⟩
                go_wp2_with fail
                first | refine (TC5.out _ h9).mono ?_ | refine (TC5.out _ (h9.drewN _)).mono ?_
                rintro e w6 ⟨rfl, m1, rfl⟩
                go_wp2_with fail
                go_meet
                case rel => exact ⟨rfl, h9.drewN _, hp⟩
            case rest =>
            clear hp h9 TC3 y3 yd3 TC5 y5 yd5
            obtain ⟨rfl, h9, hp⟩ := hcut
            have h9f : Nine w wc 9 N s Hs tv bv (fun _ => catL ss (min (i + 1) n)) (fun _ => decide (i + 1 = n + 1)) := by
              have e : decide (i + 1 = n + 1) = decide (i = n) := decide_eq_decide.2 (by omega)
              rw [e, ← hwh.out, ← hL.out]; exact h9
            go_wp2_with fail
            go_roundw
            case rel => first | exact ⟨i + 1, by simp, by omega, h9f, hp⟩ | ((repeat apply Exists.intro); refine ⟨?_, rfl⟩; exact ⟨i + 1, by simp, by omega, h9f, hp⟩)
            case measure => simp [intOf]; omega
        · obtain rfl : i = n + 1 := by omega
          have h9e : Nine w wr 9 N s Hs tv bv (fun _ => catL ss n) (fun _ => true) := by
            have := h9
            rwa [Nat.min_eq_right (by omega), decide_eq_true rfl] at this
          obtain ⟨L, hL⟩ : ∃ L, Hid (L = catL ss n) := ⟨_, rfl⟩
          rw [← hL.out] at h9e
          obtain ⟨t6, ht6⟩ : ∃ t, Hid (t = tB 6 N (askedT 6 s) L true) := ⟨_, rfl⟩
          obtain ⟨t7, ht7⟩ : ∃ t, Hid (t = tB 7 N (askedT 7 s) L true) := ⟨_, rfl⟩
          obtain ⟨t8, ht8⟩ : ∃ t, Hid (t = tB 8 N (askedT 8 s) L true) := ⟨_, rfl⟩
          obtain ⟨p, hp3, hq6, hq7, hq8⟩ : ∃ p : Nat, p < 3 ∧ t6 = (if p = 0 then 2 else 0) ∧ t7 = (if p = 1 then 2 else 0) ∧ t8 = (if p = 2 then 2 else 0) := by
            rw [ht6.out, ht7.out, ht8.out]
            rcases tB_one N (askedT 6 s) (askedT 7 s) (askedT 8 s) L with ⟨a, b, c⟩ | ⟨a, b, c⟩ | ⟨a, b, c⟩
            · exact ⟨0, by omega, a, b, c⟩
            · exact ⟨1, by omega, a, b, c⟩
            · exact ⟨2, by omega, a, b, c⟩
          have HQ := Lib.hid (And.intro hq6 (And.intro hq7 hq8))
          clear hq6 hq7 hq8 hi hin h9
          go_wp2_with fail
          have xa0 : (wr.alloc (Obj.cells #[.int .i64 6, .int .i64 7, .int .i64 8] 27)).heap[wr.heap.size]? = some (Obj.cells #[.int .i64 6, .int .i64 7, .int .i64 8] 27) := heap_alloc_new _ _
          have n0 := h9e.fresh ((Below.refl wr.heap.size wr).alloc (Nat.le_refl _) (Obj.cells #[.int .i64 6, .int .i64 7, .int .i64 8] 27))
          have p0 := hp.fresh ((Below.refl wr.heap.size wr).alloc (Nat.le_refl _) (Obj.cells #[.int .i64 6, .int .i64 7, .int .i64 8] 27))
          clear hp h9e
          generalize wr.alloc (Obj.cells #[.int .i64 6, .int .i64 7, .int .i64 8] 27) = W1 at xa0 n0 p0 ⊢
          generalize wr.heap.size = A at xa0 ⊢
          go_loopw [12, 155] (fun u v wx => ∃ (j : Nat) (q : Int), v = .int .i64 j ∧ u = .int .i64 q ∧ j ≤ 3 ∧ Hid (q = if p < j then 1 else 0) ∧ Nine w wx 9 N s Hs tv bv (fun _ => L) (fun _ => true) ∧ Pr wx w.heap.size (.slice (some ⟨g, 0, none⟩) 9 gc) 9 Hs ∧ wx.heap[A]? = some (Obj.cells #[.int .i64 6, .int .i64 7, .int .i64 8] 27)) (fun _ v _ => 3 - (intOf v).toNat)
          case atStart => exact ⟨0, 0, rfl, rfl, by omega, rfl, n0, p0, xa0⟩
          case round =>
            clear n0 p0 xa0
            obtain ⟨j, q, rfl, rfl, hj, HJ, h9, hp, xa⟩ := hrel
            by_cases hj3 : j < 3
            · have TT : Hid (∀ (c : Nat) (t : Int) (wx : World), c < 9 → t = tB c N (askedT c s) L true → Nine w wx 9 N s Hs tv bv (fun _ => L) (fun _ => true) → Calls Try.prog 12 #[.pointer (some ⟨Hs c, 0, none⟩)] wx fun e w' => e = .returned (.int .i64 t) ∧ ∃ m2, w' = wx.drewN m2) := fun c t wx hc ht h => by
                rw [ht]; exact (h.st c hc).truth (by omega) (by omega)
              have hq : ∀ k : Nat, k < 3 → (if k = 0 then t6 else if k = 1 then t7 else t8) = if p = k then 2 else 0 := fun k hk => by
                obtain ⟨a, b, c⟩ := HQ.out
                obtain rfl | rfl | rfl : k = 0 ∨ k = 1 ∨ k = 2 := by omega
                · exact a
                · exact b
                · exact c
              have HQ2 := Lib.hid hq
              clear hq
              have z0 : wr.cell? ⟨A, 0, none⟩ = some (.int .i64 6) := by simp [World.cell?, xa]
              have z1 : wr.cell? ⟨A, 1, none⟩ = some (.int .i64 7) := by simp [World.cell?, xa]
              have z2 : wr.cell? ⟨A, 2, none⟩ = some (.int .i64 8) := by simp [World.cell?, xa]
              have y6 : wr.cell? ⟨g, 6, none⟩ = some (.pointer (some ⟨Hs 6, 0, none⟩)) := hp.cell (by omega)
              have y7 : wr.cell? ⟨g, 7, none⟩ = some (.pointer (some ⟨Hs 7, 0, none⟩)) := hp.cell (by omega)
              have y8 : wr.cell? ⟨g, 8, none⟩ = some (.pointer (some ⟨Hs 8, 0, none⟩)) := hp.cell (by omega)
              obtain rfl | rfl | rfl : j = 0 ∨ j = 1 ∨ j = 2 := by omega
              · have hv := HQ2.out 0 (by omega)
                by_cases hpj : p = 0
                · obtain rfl : q = 0 := by rw [HJ.out, if_neg (by omega)]
                  obtain rfl : t6 = 2 := by simpa [hpj] using hv
                  clear hv HQ2 HQ
                  have HJ2 := Lib.hid (show (1 : Int) = if p < 0 + 1 then 1 else 0 by rw [if_pos (by omega)])
                  clear hpj hj hj3
                  go_wp2_with fail
                  refine (TT.out 6 2 _ (by omega) ht6.out (by first | exact h9 | exact h9.drewN _)).mono ?_
                  rintro e w3 ⟨rfl, m3, rfl⟩
                  go_wp2_with fail
                  go_roundw
                  case rel => first | exact ⟨0 + 1, _, by simp, rfl, by omega, HJ2, h9.drewN _, hp, xa⟩ | ((repeat apply Exists.intro); refine ⟨?_, rfl⟩; exact ⟨0 + 1, _, by simp, rfl, by omega, HJ2, h9.drewN _, hp, xa⟩)
                  case measure => simp [intOf]
                · obtain rfl : t6 = 0 := by simpa [hpj] using hv
                  have HJ2 := Lib.hid (show q = if p < 0 + 1 then 1 else 0 by
                    rw [HJ.out]
                    by_cases hpp : p < 0
                    · rw [if_pos hpp, if_pos (by omega)]
                    · rw [if_neg hpp, if_neg (by omega)])
                  clear hv HQ2 HQ
                  clear hpj hj hj3
                  go_wp2_with fail
                  refine (TT.out 6 0 _ (by omega) ht6.out (by first | exact h9 | exact h9.drewN _)).mono ?_
                  rintro e w3 ⟨rfl, m3, rfl⟩
                  go_wp2_with fail
                  go_roundw
                  case rel => first | exact ⟨0 + 1, _, by simp, rfl, by omega, HJ2, h9.drewN _, hp, xa⟩ | ((repeat apply Exists.intro); refine ⟨?_, rfl⟩; exact ⟨0 + 1, _, by simp, rfl, by omega, HJ2, h9.drewN _, hp, xa⟩)
                  case measure => simp [intOf]
              · have hv := HQ2.out 1 (by omega)
                by_cases hpj : p = 1
                · obtain rfl : q = 0 := by rw [HJ.out, if_neg (by omega)]
                  obtain rfl : t7 = 2 := by simpa [hpj] using hv
                  clear hv HQ2 HQ
                  have HJ2 := Lib.hid (show (1 : Int) = if p < 1 + 1 then 1 else 0 by rw [if_pos (by omega)])
                  clear hpj hj hj3
                  go_wp2_with fail
                  refine (TT.out 7 2 _ (by omega) ht7.out (by first | exact h9 | exact h9.drewN _)).mono ?_
                  rintro e w3 ⟨rfl, m3, rfl⟩
                  go_wp2_with fail
                  go_roundw
                  case rel => first | exact ⟨1 + 1, _, by simp, rfl, by omega, HJ2, h9.drewN _, hp, xa⟩ | ((repeat apply Exists.intro); refine ⟨?_, rfl⟩; exact ⟨1 + 1, _, by simp, rfl, by omega, HJ2, h9.drewN _, hp, xa⟩)
                  case measure => simp [intOf]
                · obtain rfl : t7 = 0 := by simpa [hpj] using hv
                  have HJ2 := Lib.hid (show q = if p < 1 + 1 then 1 else 0 by
                    rw [HJ.out]
                    by_cases hpp : p < 1
                    · rw [if_pos hpp, if_pos (by omega)]
                    · rw [if_neg hpp, if_neg (by omega)])
                  clear hv HQ2 HQ
                  clear hpj hj hj3
                  go_wp2_with fail
                  refine (TT.out 7 0 _ (by omega) ht7.out (by first | exact h9 | exact h9.drewN _)).mono ?_
                  rintro e w3 ⟨rfl, m3, rfl⟩
                  go_wp2_with fail
                  go_roundw
                  case rel => first | exact ⟨1 + 1, _, by simp, rfl, by omega, HJ2, h9.drewN _, hp, xa⟩ | ((repeat apply Exists.intro); refine ⟨?_, rfl⟩; exact ⟨1 + 1, _, by simp, rfl, by omega, HJ2, h9.drewN _, hp, xa⟩)
                  case measure => simp [intOf]
              · have hv := HQ2.out 2 (by omega)
                by_cases hpj : p = 2
                · obtain rfl : q = 0 := by rw [HJ.out, if_neg (by omega)]
                  obtain rfl : t8 = 2 := by simpa [hpj] using hv
                  clear hv HQ2 HQ
                  have HJ2 := Lib.hid (show (1 : Int) = if p < 2 + 1 then 1 else 0 by rw [if_pos (by omega)])
                  clear hpj hj hj3
                  go_wp2_with fail
                  refine (TT.out 8 2 _ (by omega) ht8.out (by first | exact h9 | exact h9.drewN _)).mono ?_
                  rintro e w3 ⟨rfl, m3, rfl⟩
                  go_wp2_with fail
                  go_roundw
                  case rel => first | exact ⟨2 + 1, _, by simp, rfl, by omega, HJ2, h9.drewN _, hp, xa⟩ | ((repeat apply Exists.intro); refine ⟨?_, rfl⟩; exact ⟨2 + 1, _, by simp, rfl, by omega, HJ2, h9.drewN _, hp, xa⟩)
                  case measure => simp [intOf]
                · obtain rfl : t8 = 0 := by simpa [hpj] using hv
                  have HJ2 := Lib.hid (show q = if p < 2 + 1 then 1 else 0 by
                    rw [HJ.out]
                    by_cases hpp : p < 2
                    · rw [if_pos hpp, if_pos (by omega)]
                    · rw [if_neg hpp, if_neg (by omega)])
                  clear hv HQ2 HQ
                  clear hpj hj hj3
                  go_wp2_with fail
                  refine (TT.out 8 0 _ (by omega) ht8.out (by first | exact h9 | exact h9.drewN _)).mono ?_
                  rintro e w3 ⟨rfl, m3, rfl⟩
                  go_wp2_with fail
                  go_roundw
                  case rel => first | exact ⟨2 + 1, _, by simp, rfl, by omega, HJ2, h9.drewN _, hp, xa⟩ | ((repeat apply Exists.intro); refine ⟨?_, rfl⟩; exact ⟨2 + 1, _, by simp, rfl, by omega, HJ2, h9.drewN _, hp, xa⟩)
                  case measure => simp [intOf]
            · obtain rfl : j = 3 := by omega
              obtain rfl : q = 1 := by rw [HJ.out, if_pos hp3]
              go_wp2
              go_ret
              exact ⟨rfl, h9.below⟩
theorem huntTurned_walk (c0 : Int) (s : ByteArray) (n0 : Int) (ao : Option Addr) (n cap : Nat) (ss : List ByteArray) (w : World) (_ : (Lit.int .i64 c0).wf = true) (hs : s.size ≤ 1048576) (hn : (Lit.int .i64 n0).wf = true)
    (hss : Sd w ao n cap ss) (hn2 : n ≤ 1048576) (hsum : (ss.map (·.size)).sum ≤ 1048576) :
    Calls Try.prog 3 #[.agg #[.int .i64 c0, .string s, .int .i64 n0], .slice ao n cap] w fun e w' => e = .returned (.bool true) ∧ Below w.heap.size w w' :=
  huntTurnedWalk c0 n0 s ao n cap ss w (by have h : -9223372036854775808 ≤ n0 ∧ n0 ≤ 9223372036854775807 := by simpa [Lit.wf, IntKind.min, IntKind.max, IntKind.signed, IntKind.bits] using hn
                                           exact h.2) hs hss hn2 hsum
end Go.Proofs.Ytgajinnbmnnccaa
