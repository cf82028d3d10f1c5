/- The walk of hunt's take, way A. -/
import Derived.Test.YtkhejkfjhddobaaGreatDoorHuntBaseM
section
namespace Go.Proofs.YtkhejkfjhddobaaGreatDoor
open Go.RowKit Gim
set_option maxHeartbeats 2000000 in
theorem takeA (w : World) (B H : Nat) (c : Int) (N : Nat) (T : List Int) (tv bv : Value) (came k : Nat) (off fnd whole : Bool) (l : List Int) (r : Int) (h : Hm w B H c N T tv bv came k off fnd whole) (hk : Mx l T k) (hT : 0 < T.length) (hcm : came ≤ 2 ^ 62)
    (h1 : came < T.length) (h2 : gt T came = r) (came2 : Nat) (off2 : Bool) (hc2 : came2 = if came ≤ max N T.length then came + 1 else came) (ho2 : off2 = (off || (decide (came < T.length) && (gt T came != r)))) :
    Calls Tryz.prog 89 #[.pointer (some ⟨H, 0, none⟩), .int .i32 r] w (Took w B H c N T tv bv came2 off2 fnd whole l r) := by
  obtain ⟨g, cap, rfl, hg, hgz, ⟨hn1, hn2⟩, hcell⟩ := h.rt.shape (by omega)
  have c1 : w.cell? ⟨H, 1, none⟩ = some (.slice (some ⟨g, 0, none⟩) T.length cap) := by simp [World.cell?, h.hH]
  have c3 : w.cell? ⟨H, 3, none⟩ = some (.int .i64 N) := by simp [World.cell?, h.hH]
  have c4 : w.cell? ⟨H, 4, none⟩ = some (.int .i64 came) := by simp [World.cell?, h.hH]
  have c5 : w.cell? ⟨H, 5, none⟩ = some (.int .i64 k) := by simp [World.cell?, h.hH]
  have c6 : w.cell? ⟨H, 6, none⟩ = some (.bool off) := by simp [World.cell?, h.hH]
  have f4 : w.frozen? ⟨H, 4, none⟩ = false := by simp [World.frozen?, h.hH]
  have f5 : w.frozen? ⟨H, 5, none⟩ = false := by simp [World.frozen?, h.hH]
  have f6 : w.frozen? ⟨H, 6, none⟩ = false := by simp [World.frozen?, h.hH]
  have HM := Lib.hid h
  have HC := Lib.hid hcell
  have HE := Lib.hid hc2
  have HO := Lib.hid ho2
  have HK := Lib.hid hk
  clear h hcell hc2 ho2 hk
  obtain ⟨M, hM⟩ : ∃ M : Nat, (if N < T.length then (T.length : Int) else (N : Int)) = M := ⟨max N T.length, by split <;> omega⟩
  have HX := Lib.hid (show M = max N T.length by split at hM <;> omega)
  have t0 : (((T.length : Nat) : Int) == 0) = false := beq_eq_false_iff_ne.2 (by omega)
  have x1 := HC.out came h1
  have t1 : ((came : Int) < (T.length : Int)) := by omega
  have t4 : ((came : Int) ≤ (M : Int)) := by have := HX.out; omega
  have t2 : (gt T came == r) = true := by simpa using h2
  have t3 : (gt T came != r) = false := by simpa using h2
  obtain rfl : came2 = came + 1 := by rw [HE.out]; have := HX.out; split <;> omega
  obtain rfl : off2 = off := by rw [HO.out, t3]; simp
  clear HE HO
  go_enter Tryz.func89, Tryz.ntmps89
  go_wp2
  go_quiet (fail)
  go_wp2
  go_quiet (fail)
  by_cases hkn : k = T.length
  · have e1 : (((k : Nat) : Int) == ((T.length : Nat) : Int)) = true := beq_iff_eq.2 (by omega)
    go_wp2_with fail
    refine Calls.mono (back_calls _ B H c N T _ bv _ k _ fnd whole ((HM.out.drewN _).setCame ((came : Int) + 1) (came + 1) rfl) T.length hT (Nat.le_refl _)) ?_
    rintro e w1 ⟨rfl, m1, rfl⟩
    go_wp2_with fail
    go_loopw [] (fun wr => ∃ q : Nat, Hid (CandM l T q r) ∧ Hm wr B H c N T (.slice (some ⟨g, 0, none⟩) T.length cap) bv (came + 1) q off2 fnd whole ∧ Fr (fun j => j = H) w wr) (fun wr => (wr.cell? ⟨H, 5, none⟩).elim 0 (fun v => (intOf v).toNat))
    case atStart => exact ⟨br T T.length, candM_full r (hkn ▸ HK.out) hT, ((((HM.out.drewN _).setCame ((came : Int) + 1) (came + 1) rfl)).drewN _).setK _ _ rfl, ((((Fr.refl (fun j => j = H) w).drewN _).set H 4 _ rfl).drewN _).set H 5 _ rfl⟩
    case round =>
      clear c1 c3 c4 c5 c6 f4 f5 f6 x1
      obtain ⟨q, HQ, hm, hf⟩ := hrel
      have hql := HQ.out.2.1
      have hcq : wr.cell? ⟨g, q, none⟩ = some (.int .i32 (gt T q)) := hm.rt.cell hql
      have c1 : wr.cell? ⟨H, 1, none⟩ = some (.slice (some ⟨g, 0, none⟩) T.length cap) := by simp [World.cell?, hm.hH]
      have c5 : wr.cell? ⟨H, 5, none⟩ = some (.int .i64 q) := by simp [World.cell?, hm.hH]
      have c7 : wr.cell? ⟨H, 7, none⟩ = some (.bool fnd) := by simp [World.cell?, hm.hH]
      have f5 : wr.frozen? ⟨H, 5, none⟩ = false := by simp [World.frozen?, hm.hH]
      have f7 : wr.frozen? ⟨H, 7, none⟩ = false := by simp [World.frozen?, hm.hH]
      have HH := Lib.hid hm
      clear hm
      have b1 : (q : Int) < (T.length : Int) := by omega
      by_cases hq0 : q = 0
      · subst hq0
        by_cases heq : gt T 0 = r
        · have u1 : (gt T 0 == r) = true := by simpa using heq
          have u2 : (gt T 0 != r) = false := by simpa using heq
          have HR := Lib.hid (candM_hit HQ.out heq)
          clear heq
          have u3 : ((1 : Int) == ((T.length : Nat) : Int)) = decide (0 + 1 = T.length) := by
            by_cases h : 0 + 1 = T.length
            · simp only [h, decide_true]; exact beq_iff_eq.2 (by omega)
            · simp only [h, decide_false]; exact beq_eq_false_iff_ne.2 (by omega)
          cases fnd
          all_goals
            go_wp2
            go_quiet (fail)
            go_wp2
            go_quiet (fail)
            go_wp2
            exact bodyPost_end (results_none rfl _ _ _) rfl ⟨rfl, ((hf.drewN _).set H 5 _ rfl).set H 7 _ rfl, _, HR.out, ((HH.out.drewN _).setK _ _ (by rfl)).setFnd _⟩
        · have u1 : (gt T 0 == r) = false := by simpa using heq
          have u2 : (gt T 0 != r) = true := by simpa using heq
          have HR := Lib.hid (candM_miss HQ.out heq)
          clear heq
          have u3 : ((0 : Int) == ((T.length : Nat) : Int)) = decide (0 = T.length) := by
            simp only [show ¬ (0 = T.length) by omega, decide_false]; exact beq_eq_false_iff_ne.2 (by omega)
          cases fnd
          all_goals
            go_wp2
            go_quiet (fail)
            go_wp2
            go_quiet (fail)
            go_wp2
            exact bodyPost_end (results_none rfl _ _ _) rfl ⟨rfl, (hf.drewN _).set H 7 _ rfl, _, HR.out, (HH.out.drewN _).setFnd _⟩
      · have hq1 : 0 < q := by omega
        have b2 : (q : Int) < 9223372036854775807 := by unfold maxLen at hn2; omega
        by_cases heq : gt T q = r
        · have u1 : (gt T q == r) = true := by simpa using heq
          have u2 : (gt T q != r) = false := by simpa using heq
          have HR := Lib.hid (candM_hit HQ.out heq)
          clear heq
          have u3 : (((q : Int) + 1) == ((T.length : Nat) : Int)) = decide (q + 1 = T.length) := by
            by_cases h : q + 1 = T.length
            · simp only [h, decide_true]; exact beq_iff_eq.2 (by omega)
            · simp only [h, decide_false]; exact beq_eq_false_iff_ne.2 (by omega)
          cases fnd
          all_goals
            go_wp2
            go_quiet (fail)
            go_wp2
            go_quiet (fail)
            go_wp2
            exact bodyPost_end (results_none rfl _ _ _) rfl ⟨rfl, ((hf.drewN _).set H 5 _ rfl).set H 7 _ rfl, _, HR.out, ((HH.out.drewN _).setK _ _ (by rfl)).setFnd _⟩
        · have u1 : (gt T q == r) = false := by simpa using heq
          have u2 : (gt T q != r) = true := by simpa using heq
          have HR := Lib.hid (candM_down HQ.out (by omega) heq)
          clear heq
          go_wp2
          go_quiet (fail)
          go_wp2_with fail
          refine Calls.mono (back_calls _ B H c N T _ bv _ q _ fnd whole (HH.out.drewN _) q hq1 (by omega)) ?_
          rintro e w1 ⟨rfl, m2, rfl⟩
          go_wp2
          go_roundw
          case rel => exact ⟨br T q, HR, (HH.out.drewN _).setK _ _ rfl, (hf.drewN _).set H 5 _ rfl⟩
          case measure =>
            have hbl := br_lt (t := T) hq1
            rw [((HH.out.drewN _).setK _ (br T q) rfl).k5, c5]
            simp [intOf]
            exact hbl
  · have e1 : (((k : Nat) : Int) == ((T.length : Nat) : Int)) = false := beq_eq_false_iff_ne.2 (by omega)
    go_wp2_with fail
    go_loopw [] (fun wr => ∃ q : Nat, Hid (CandM l T q r) ∧ Hm wr B H c N T (.slice (some ⟨g, 0, none⟩) T.length cap) bv (came + 1) q off2 fnd whole ∧ Fr (fun j => j = H) w wr) (fun wr => (wr.cell? ⟨H, 5, none⟩).elim 0 (fun v => (intOf v).toNat))
    case atStart => exact ⟨k, candM_less r HK.out (by have := HK.out.1.2.1; omega), ((HM.out.drewN _).setCame ((came : Int) + 1) (came + 1) rfl), ((Fr.refl (fun j => j = H) w).drewN _).set H 4 _ rfl⟩
    case round =>
      clear c1 c3 c4 c5 c6 f4 f5 f6 x1
      obtain ⟨q, HQ, hm, hf⟩ := hrel
      have hql := HQ.out.2.1
      have hcq : wr.cell? ⟨g, q, none⟩ = some (.int .i32 (gt T q)) := hm.rt.cell hql
      have c1 : wr.cell? ⟨H, 1, none⟩ = some (.slice (some ⟨g, 0, none⟩) T.length cap) := by simp [World.cell?, hm.hH]
      have c5 : wr.cell? ⟨H, 5, none⟩ = some (.int .i64 q) := by simp [World.cell?, hm.hH]
      have c7 : wr.cell? ⟨H, 7, none⟩ = some (.bool fnd) := by simp [World.cell?, hm.hH]
      have f5 : wr.frozen? ⟨H, 5, none⟩ = false := by simp [World.frozen?, hm.hH]
      have f7 : wr.frozen? ⟨H, 7, none⟩ = false := by simp [World.frozen?, hm.hH]
      have HH := Lib.hid hm
      clear hm
      have b1 : (q : Int) < (T.length : Int) := by omega
      by_cases hq0 : q = 0
      · subst hq0
        by_cases heq : gt T 0 = r
        · have u1 : (gt T 0 == r) = true := by simpa using heq
          have u2 : (gt T 0 != r) = false := by simpa using heq
          have HR := Lib.hid (candM_hit HQ.out heq)
          clear heq
          have u3 : ((1 : Int) == ((T.length : Nat) : Int)) = decide (0 + 1 = T.length) := by
            by_cases h : 0 + 1 = T.length
            · simp only [h, decide_true]; exact beq_iff_eq.2 (by omega)
            · simp only [h, decide_false]; exact beq_eq_false_iff_ne.2 (by omega)
          cases fnd
          all_goals
            go_wp2
            go_quiet (fail)
            go_wp2
            go_quiet (fail)
            go_wp2
            exact bodyPost_end (results_none rfl _ _ _) rfl ⟨rfl, ((hf.drewN _).set H 5 _ rfl).set H 7 _ rfl, _, HR.out, ((HH.out.drewN _).setK _ _ (by rfl)).setFnd _⟩
        · have u1 : (gt T 0 == r) = false := by simpa using heq
          have u2 : (gt T 0 != r) = true := by simpa using heq
          have HR := Lib.hid (candM_miss HQ.out heq)
          clear heq
          have u3 : ((0 : Int) == ((T.length : Nat) : Int)) = decide (0 = T.length) := by
            simp only [show ¬ (0 = T.length) by omega, decide_false]; exact beq_eq_false_iff_ne.2 (by omega)
          cases fnd
          all_goals
            go_wp2
            go_quiet (fail)
            go_wp2
            go_quiet (fail)
            go_wp2
            exact bodyPost_end (results_none rfl _ _ _) rfl ⟨rfl, (hf.drewN _).set H 7 _ rfl, _, HR.out, (HH.out.drewN _).setFnd _⟩
      · have hq1 : 0 < q := by omega
        have b2 : (q : Int) < 9223372036854775807 := by unfold maxLen at hn2; omega
        by_cases heq : gt T q = r
        · have u1 : (gt T q == r) = true := by simpa using heq
          have u2 : (gt T q != r) = false := by simpa using heq
          have HR := Lib.hid (candM_hit HQ.out heq)
          clear heq
          have u3 : (((q : Int) + 1) == ((T.length : Nat) : Int)) = decide (q + 1 = T.length) := by
            by_cases h : q + 1 = T.length
            · simp only [h, decide_true]; exact beq_iff_eq.2 (by omega)
            · simp only [h, decide_false]; exact beq_eq_false_iff_ne.2 (by omega)
          cases fnd
          all_goals
            go_wp2
            go_quiet (fail)
            go_wp2
            go_quiet (fail)
            go_wp2
            exact bodyPost_end (results_none rfl _ _ _) rfl ⟨rfl, ((hf.drewN _).set H 5 _ rfl).set H 7 _ rfl, _, HR.out, ((HH.out.drewN _).setK _ _ (by rfl)).setFnd _⟩
        · have u1 : (gt T q == r) = false := by simpa using heq
          have u2 : (gt T q != r) = true := by simpa using heq
          have HR := Lib.hid (candM_down HQ.out (by omega) heq)
          clear heq
          go_wp2
          go_quiet (fail)
          go_wp2_with fail
          refine Calls.mono (back_calls _ B H c N T _ bv _ q _ fnd whole (HH.out.drewN _) q hq1 (by omega)) ?_
          rintro e w1 ⟨rfl, m2, rfl⟩
          go_wp2
          go_roundw
          case rel => exact ⟨br T q, HR, (HH.out.drewN _).setK _ _ rfl, (hf.drewN _).set H 5 _ rfl⟩
          case measure =>
            have hbl := br_lt (t := T) hq1
            rw [((HH.out.drewN _).setK _ (br T q) rfl).k5, c5]
            simp [intOf]
            exact hbl
end Go.Proofs.YtkhejkfjhddobaaGreatDoor

end

section
namespace Go.Proofs.YtkhejkfjhddobaaGreatDoor
open Go.RowKit Gim
set_option maxHeartbeats 2000000 in
theorem takeB (w : World) (B H : Nat) (c : Int) (N : Nat) (T : List Int) (tv bv : Value) (came k : Nat) (off fnd whole : Bool) (l : List Int) (r : Int) (h : Hm w B H c N T tv bv came k off fnd whole) (hk : Mx l T k) (hT : 0 < T.length) (hcm : came ≤ 2 ^ 62)
    (h1 : came < T.length) (h2 : gt T came ≠ r) (came2 : Nat) (off2 : Bool) (hc2 : came2 = if came ≤ max N T.length then came + 1 else came) (ho2 : off2 = (off || (decide (came < T.length) && (gt T came != r)))) :
    Calls Tryz.prog 89 #[.pointer (some ⟨H, 0, none⟩), .int .i32 r] w (Took w B H c N T tv bv came2 off2 fnd whole l r) := by
  obtain ⟨g, cap, rfl, hg, hgz, ⟨hn1, hn2⟩, hcell⟩ := h.rt.shape (by omega)
  have c1 : w.cell? ⟨H, 1, none⟩ = some (.slice (some ⟨g, 0, none⟩) T.length cap) := by simp [World.cell?, h.hH]
  have c3 : w.cell? ⟨H, 3, none⟩ = some (.int .i64 N) := by simp [World.cell?, h.hH]
  have c4 : w.cell? ⟨H, 4, none⟩ = some (.int .i64 came) := by simp [World.cell?, h.hH]
  have c5 : w.cell? ⟨H, 5, none⟩ = some (.int .i64 k) := by simp [World.cell?, h.hH]
  have c6 : w.cell? ⟨H, 6, none⟩ = some (.bool off) := by simp [World.cell?, h.hH]
  have f4 : w.frozen? ⟨H, 4, none⟩ = false := by simp [World.frozen?, h.hH]
  have f5 : w.frozen? ⟨H, 5, none⟩ = false := by simp [World.frozen?, h.hH]
  have f6 : w.frozen? ⟨H, 6, none⟩ = false := by simp [World.frozen?, h.hH]
  have HM := Lib.hid h
  have HC := Lib.hid hcell
  have HE := Lib.hid hc2
  have HO := Lib.hid ho2
  have HK := Lib.hid hk
  clear h hcell hc2 ho2 hk
  obtain ⟨M, hM⟩ : ∃ M : Nat, (if N < T.length then (T.length : Int) else (N : Int)) = M := ⟨max N T.length, by split <;> omega⟩
  have HX := Lib.hid (show M = max N T.length by split at hM <;> omega)
  have t0 : (((T.length : Nat) : Int) == 0) = false := beq_eq_false_iff_ne.2 (by omega)
  have x1 := HC.out came h1
  have t1 : ((came : Int) < (T.length : Int)) := by omega
  have t4 : ((came : Int) ≤ (M : Int)) := by have := HX.out; omega
  have t2 : (gt T came == r) = false := by simpa using h2
  have t3 : (gt T came != r) = true := by simpa using h2
  obtain rfl : came2 = came + 1 := by rw [HE.out]; have := HX.out; split <;> omega
  obtain rfl : off2 = true := by rw [HO.out, t3]; simp [h1]
  clear HE HO
  go_enter Tryz.func89, Tryz.ntmps89
  go_wp2
  go_quiet (fail)
  go_wp2
  go_quiet (fail)
  by_cases hkn : k = T.length
  · have e1 : (((k : Nat) : Int) == ((T.length : Nat) : Int)) = true := beq_iff_eq.2 (by omega)
    go_wp2_with fail
    refine Calls.mono (back_calls _ B H c N T _ bv _ k _ fnd whole ((((HM.out.drewN _).setOff true).drewN _).setCame ((came : Int) + 1) (came + 1) rfl) T.length hT (Nat.le_refl _)) ?_
    rintro e w1 ⟨rfl, m1, rfl⟩
    go_wp2_with fail
    go_loopw [] (fun wr => ∃ q : Nat, Hid (CandM l T q r) ∧ Hm wr B H c N T (.slice (some ⟨g, 0, none⟩) T.length cap) bv (came + 1) q true fnd whole ∧ Fr (fun j => j = H) w wr) (fun wr => (wr.cell? ⟨H, 5, none⟩).elim 0 (fun v => (intOf v).toNat))
    case atStart => exact ⟨br T T.length, candM_full r (hkn ▸ HK.out) hT, ((((((HM.out.drewN _).setOff true).drewN _).setCame ((came : Int) + 1) (came + 1) rfl)).drewN _).setK _ _ rfl, ((((((Fr.refl (fun j => j = H) w).drewN _).set H 6 _ rfl).drewN _).set H 4 _ rfl).drewN _).set H 5 _ rfl⟩
    case round =>
      clear c1 c3 c4 c5 c6 f4 f5 f6 x1
      obtain ⟨q, HQ, hm, hf⟩ := hrel
      have hql := HQ.out.2.1
      have hcq : wr.cell? ⟨g, q, none⟩ = some (.int .i32 (gt T q)) := hm.rt.cell hql
      have c1 : wr.cell? ⟨H, 1, none⟩ = some (.slice (some ⟨g, 0, none⟩) T.length cap) := by simp [World.cell?, hm.hH]
      have c5 : wr.cell? ⟨H, 5, none⟩ = some (.int .i64 q) := by simp [World.cell?, hm.hH]
      have c7 : wr.cell? ⟨H, 7, none⟩ = some (.bool fnd) := by simp [World.cell?, hm.hH]
      have f5 : wr.frozen? ⟨H, 5, none⟩ = false := by simp [World.frozen?, hm.hH]
      have f7 : wr.frozen? ⟨H, 7, none⟩ = false := by simp [World.frozen?, hm.hH]
      have HH := Lib.hid hm
      clear hm
      have b1 : (q : Int) < (T.length : Int) := by omega
      by_cases hq0 : q = 0
      · subst hq0
        by_cases heq : gt T 0 = r
        · have u1 : (gt T 0 == r) = true := by simpa using heq
          have u2 : (gt T 0 != r) = false := by simpa using heq
          have HR := Lib.hid (candM_hit HQ.out heq)
          clear heq
          have u3 : ((1 : Int) == ((T.length : Nat) : Int)) = decide (0 + 1 = T.length) := by
            by_cases h : 0 + 1 = T.length
            · simp only [h, decide_true]; exact beq_iff_eq.2 (by omega)
            · simp only [h, decide_false]; exact beq_eq_false_iff_ne.2 (by omega)
          cases fnd
          all_goals
            go_wp2
            go_quiet (fail)
            go_wp2
            go_quiet (fail)
            go_wp2
            exact bodyPost_end (results_none rfl _ _ _) rfl ⟨rfl, ((hf.drewN _).set H 5 _ rfl).set H 7 _ rfl, _, HR.out, ((HH.out.drewN _).setK _ _ (by rfl)).setFnd _⟩
        · have u1 : (gt T 0 == r) = false := by simpa using heq
          have u2 : (gt T 0 != r) = true := by simpa using heq
          have HR := Lib.hid (candM_miss HQ.out heq)
          clear heq
          have u3 : ((0 : Int) == ((T.length : Nat) : Int)) = decide (0 = T.length) := by
            simp only [show ¬ (0 = T.length) by omega, decide_false]; exact beq_eq_false_iff_ne.2 (by omega)
          cases fnd
          all_goals
            go_wp2
            go_quiet (fail)
            go_wp2
            go_quiet (fail)
            go_wp2
            exact bodyPost_end (results_none rfl _ _ _) rfl ⟨rfl, (hf.drewN _).set H 7 _ rfl, _, HR.out, (HH.out.drewN _).setFnd _⟩
      · have hq1 : 0 < q := by omega
        have b2 : (q : Int) < 9223372036854775807 := by unfold maxLen at hn2; omega
        by_cases heq : gt T q = r
        · have u1 : (gt T q == r) = true := by simpa using heq
          have u2 : (gt T q != r) = false := by simpa using heq
          have HR := Lib.hid (candM_hit HQ.out heq)
          clear heq
          have u3 : (((q : Int) + 1) == ((T.length : Nat) : Int)) = decide (q + 1 = T.length) := by
            by_cases h : q + 1 = T.length
            · simp only [h, decide_true]; exact beq_iff_eq.2 (by omega)
            · simp only [h, decide_false]; exact beq_eq_false_iff_ne.2 (by omega)
          cases fnd
          all_goals
            go_wp2
            go_quiet (fail)
            go_wp2
            go_quiet (fail)
            go_wp2
            exact bodyPost_end (results_none rfl _ _ _) rfl ⟨rfl, ((hf.drewN _).set H 5 _ rfl).set H 7 _ rfl, _, HR.out, ((HH.out.drewN _).setK _ _ (by rfl)).setFnd _⟩
        · have u1 : (gt T q == r) = false := by simpa using heq
          have u2 : (gt T q != r) = true := by simpa using heq
          have HR := Lib.hid (candM_down HQ.out (by omega) heq)
          clear heq
          go_wp2
          go_quiet (fail)
          go_wp2_with fail
          refine Calls.mono (back_calls _ B H c N T _ bv _ q _ fnd whole (HH.out.drewN _) q hq1 (by omega)) ?_
          rintro e w1 ⟨rfl, m2, rfl⟩
          go_wp2
          go_roundw
          case rel => exact ⟨br T q, HR, (HH.out.drewN _).setK _ _ rfl, (hf.drewN _).set H 5 _ rfl⟩
          case measure =>
            have hbl := br_lt (t := T) hq1
            rw [((HH.out.drewN _).setK _ (br T q) rfl).k5, c5]
            simp [intOf]
            exact hbl
  · have e1 : (((k : Nat) : Int) == ((T.length : Nat) : Int)) = false := beq_eq_false_iff_ne.2 (by omega)
    go_wp2_with fail
    go_loopw [] (fun wr => ∃ q : Nat, Hid (CandM l T q r) ∧ Hm wr B H c N T (.slice (some ⟨g, 0, none⟩) T.length cap) bv (came + 1) q true fnd whole ∧ Fr (fun j => j = H) w wr) (fun wr => (wr.cell? ⟨H, 5, none⟩).elim 0 (fun v => (intOf v).toNat))
    case atStart => exact ⟨k, candM_less r HK.out (by have := HK.out.1.2.1; omega), ((((HM.out.drewN _).setOff true).drewN _).setCame ((came : Int) + 1) (came + 1) rfl), ((((Fr.refl (fun j => j = H) w).drewN _).set H 6 _ rfl).drewN _).set H 4 _ rfl⟩
    case round =>
      clear c1 c3 c4 c5 c6 f4 f5 f6 x1
      obtain ⟨q, HQ, hm, hf⟩ := hrel
      have hql := HQ.out.2.1
      have hcq : wr.cell? ⟨g, q, none⟩ = some (.int .i32 (gt T q)) := hm.rt.cell hql
      have c1 : wr.cell? ⟨H, 1, none⟩ = some (.slice (some ⟨g, 0, none⟩) T.length cap) := by simp [World.cell?, hm.hH]
      have c5 : wr.cell? ⟨H, 5, none⟩ = some (.int .i64 q) := by simp [World.cell?, hm.hH]
      have c7 : wr.cell? ⟨H, 7, none⟩ = some (.bool fnd) := by simp [World.cell?, hm.hH]
      have f5 : wr.frozen? ⟨H, 5, none⟩ = false := by simp [World.frozen?, hm.hH]
      have f7 : wr.frozen? ⟨H, 7, none⟩ = false := by simp [World.frozen?, hm.hH]
      have HH := Lib.hid hm
      clear hm
      have b1 : (q : Int) < (T.length : Int) := by omega
      by_cases hq0 : q = 0
      · subst hq0
        by_cases heq : gt T 0 = r
        · have u1 : (gt T 0 == r) = true := by simpa using heq
          have u2 : (gt T 0 != r) = false := by simpa using heq
          have HR := Lib.hid (candM_hit HQ.out heq)
          clear heq
          have u3 : ((1 : Int) == ((T.length : Nat) : Int)) = decide (0 + 1 = T.length) := by
            by_cases h : 0 + 1 = T.length
            · simp only [h, decide_true]; exact beq_iff_eq.2 (by omega)
            · simp only [h, decide_false]; exact beq_eq_false_iff_ne.2 (by omega)
          cases fnd
          all_goals
            go_wp2
            go_quiet (fail)
            go_wp2
            go_quiet (fail)
            go_wp2
            exact bodyPost_end (results_none rfl _ _ _) rfl ⟨rfl, ((hf.drewN _).set H 5 _ rfl).set H 7 _ rfl, _, HR.out, ((HH.out.drewN _).setK _ _ (by rfl)).setFnd _⟩
        · have u1 : (gt T 0 == r) = false := by simpa using heq
          have u2 : (gt T 0 != r) = true := by simpa using heq
          have HR := Lib.hid (candM_miss HQ.out heq)
          clear heq
          have u3 : ((0 : Int) == ((T.length : Nat) : Int)) = decide (0 = T.length) := by
            simp only [show ¬ (0 = T.length) by omega, decide_false]; exact beq_eq_false_iff_ne.2 (by omega)
          cases fnd
          all_goals
            go_wp2
            go_quiet (fail)
            go_wp2
            go_quiet (fail)
            go_wp2
            exact bodyPost_end (results_none rfl _ _ _) rfl ⟨rfl, (hf.drewN _).set H 7 _ rfl, _, HR.out, (HH.out.drewN _).setFnd _⟩
      · have hq1 : 0 < q := by omega
        have b2 : (q : Int) < 9223372036854775807 := by unfold maxLen at hn2; omega
        by_cases heq : gt T q = r
        · have u1 : (gt T q == r) = true := by simpa using heq
          have u2 : (gt T q != r) = false := by simpa using heq
          have HR := Lib.hid (candM_hit HQ.out heq)
          clear heq
          have u3 : (((q : Int) + 1) == ((T.length : Nat) : Int)) = decide (q + 1 = T.length) := by
            by_cases h : q + 1 = T.length
            · simp only [h, decide_true]; exact beq_iff_eq.2 (by omega)
            · simp only [h, decide_false]; exact beq_eq_false_iff_ne.2 (by omega)
          cases fnd
          all_goals
            go_wp2
            go_quiet (fail)
            go_wp2
            go_quiet (fail)
            go_wp2
            exact bodyPost_end (results_none rfl _ _ _) rfl ⟨rfl, ((hf.drewN _).set H 5 _ rfl).set H 7 _ rfl, _, HR.out, ((HH.out.drewN _).setK _ _ (by rfl)).setFnd _⟩
        · have u1 : (gt T q == r) = false := by simpa using heq
          have u2 : (gt T q != r) = true := by simpa using heq
          have HR := Lib.hid (candM_down HQ.out (by omega) heq)
          clear heq
          go_wp2
          go_quiet (fail)
          go_wp2_with fail
          refine Calls.mono (back_calls _ B H c N T _ bv _ q _ fnd whole (HH.out.drewN _) q hq1 (by omega)) ?_
          rintro e w1 ⟨rfl, m2, rfl⟩
          go_wp2
          go_roundw
          case rel => exact ⟨br T q, HR, (HH.out.drewN _).setK _ _ rfl, (hf.drewN _).set H 5 _ rfl⟩
          case measure =>
            have hbl := br_lt (t := T) hq1
            rw [((HH.out.drewN _).setK _ (br T q) rfl).k5, c5]
            simp [intOf]
            exact hbl
end Go.Proofs.YtkhejkfjhddobaaGreatDoor

end

section
namespace Go.Proofs.YtkhejkfjhddobaaGreatDoor
open Go.RowKit Gim
set_option maxHeartbeats 2000000 in
theorem takeC (w : World) (B H : Nat) (c : Int) (N : Nat) (T : List Int) (tv bv : Value) (came k : Nat) (off fnd whole : Bool) (l : List Int) (r : Int) (h : Hm w B H c N T tv bv came k off fnd whole) (hk : Mx l T k) (hT : 0 < T.length) (hcm : came ≤ 2 ^ 62)
    (h1 : ¬ came < T.length) (h2 : came ≤ max N T.length) (came2 : Nat) (off2 : Bool) (hc2 : came2 = if came ≤ max N T.length then came + 1 else came) (ho2 : off2 = (off || (decide (came < T.length) && (gt T came != r)))) :
    Calls Tryz.prog 89 #[.pointer (some ⟨H, 0, none⟩), .int .i32 r] w (Took w B H c N T tv bv came2 off2 fnd whole l r) := by
  obtain ⟨g, cap, rfl, hg, hgz, ⟨hn1, hn2⟩, hcell⟩ := h.rt.shape (by omega)
  have c1 : w.cell? ⟨H, 1, none⟩ = some (.slice (some ⟨g, 0, none⟩) T.length cap) := by simp [World.cell?, h.hH]
  have c3 : w.cell? ⟨H, 3, none⟩ = some (.int .i64 N) := by simp [World.cell?, h.hH]
  have c4 : w.cell? ⟨H, 4, none⟩ = some (.int .i64 came) := by simp [World.cell?, h.hH]
  have c5 : w.cell? ⟨H, 5, none⟩ = some (.int .i64 k) := by simp [World.cell?, h.hH]
  have c6 : w.cell? ⟨H, 6, none⟩ = some (.bool off) := by simp [World.cell?, h.hH]
  have f4 : w.frozen? ⟨H, 4, none⟩ = false := by simp [World.frozen?, h.hH]
  have f5 : w.frozen? ⟨H, 5, none⟩ = false := by simp [World.frozen?, h.hH]
  have f6 : w.frozen? ⟨H, 6, none⟩ = false := by simp [World.frozen?, h.hH]
  have HM := Lib.hid h
  have HC := Lib.hid hcell
  have HE := Lib.hid hc2
  have HO := Lib.hid ho2
  have HK := Lib.hid hk
  clear h hcell hc2 ho2 hk
  obtain ⟨M, hM⟩ : ∃ M : Nat, (if N < T.length then (T.length : Int) else (N : Int)) = M := ⟨max N T.length, by split <;> omega⟩
  have HX := Lib.hid (show M = max N T.length by split at hM <;> omega)
  have t0 : (((T.length : Nat) : Int) == 0) = false := beq_eq_false_iff_ne.2 (by omega)
  have t1 : ¬ ((came : Int) < (T.length : Int)) := by omega
  have t4 : ((came : Int) ≤ (M : Int)) := by have := HX.out; omega
  obtain rfl : came2 = came + 1 := by rw [HE.out]; have := HX.out; split <;> omega
  obtain rfl : off2 = off := by rw [HO.out]; simp [h1]
  clear HE HO
  go_enter Tryz.func89, Tryz.ntmps89
  go_wp2
  go_quiet (fail)
  go_wp2
  go_quiet (fail)
  by_cases hkn : k = T.length
  · have e1 : (((k : Nat) : Int) == ((T.length : Nat) : Int)) = true := beq_iff_eq.2 (by omega)
    go_wp2_with fail
    refine Calls.mono (back_calls _ B H c N T _ bv _ k _ fnd whole ((HM.out.drewN _).setCame ((came : Int) + 1) (came + 1) rfl) T.length hT (Nat.le_refl _)) ?_
    rintro e w1 ⟨rfl, m1, rfl⟩
    go_wp2_with fail
    go_loopw [] (fun wr => ∃ q : Nat, Hid (CandM l T q r) ∧ Hm wr B H c N T (.slice (some ⟨g, 0, none⟩) T.length cap) bv (came + 1) q off2 fnd whole ∧ Fr (fun j => j = H) w wr) (fun wr => (wr.cell? ⟨H, 5, none⟩).elim 0 (fun v => (intOf v).toNat))
    case atStart => exact ⟨br T T.length, candM_full r (hkn ▸ HK.out) hT, ((((HM.out.drewN _).setCame ((came : Int) + 1) (came + 1) rfl)).drewN _).setK _ _ rfl, ((((Fr.refl (fun j => j = H) w).drewN _).set H 4 _ rfl).drewN _).set H 5 _ rfl⟩
    case round =>
      clear c1 c3 c4 c5 c6 f4 f5 f6 
      obtain ⟨q, HQ, hm, hf⟩ := hrel
      have hql := HQ.out.2.1
      have hcq : wr.cell? ⟨g, q, none⟩ = some (.int .i32 (gt T q)) := hm.rt.cell hql
      have c1 : wr.cell? ⟨H, 1, none⟩ = some (.slice (some ⟨g, 0, none⟩) T.length cap) := by simp [World.cell?, hm.hH]
      have c5 : wr.cell? ⟨H, 5, none⟩ = some (.int .i64 q) := by simp [World.cell?, hm.hH]
      have c7 : wr.cell? ⟨H, 7, none⟩ = some (.bool fnd) := by simp [World.cell?, hm.hH]
      have f5 : wr.frozen? ⟨H, 5, none⟩ = false := by simp [World.frozen?, hm.hH]
      have f7 : wr.frozen? ⟨H, 7, none⟩ = false := by simp [World.frozen?, hm.hH]
      have HH := Lib.hid hm
      clear hm
      have b1 : (q : Int) < (T.length : Int) := by omega
      by_cases hq0 : q = 0
      · subst hq0
        by_cases heq : gt T 0 = r
        · have u1 : (gt T 0 == r) = true := by simpa using heq
          have u2 : (gt T 0 != r) = false := by simpa using heq
          have HR := Lib.hid (candM_hit HQ.out heq)
          clear heq
          have u3 : ((1 : Int) == ((T.length : Nat) : Int)) = decide (0 + 1 = T.length) := by
            by_cases h : 0 + 1 = T.length
            · simp only [h, decide_true]; exact beq_iff_eq.2 (by omega)
            · simp only [h, decide_false]; exact beq_eq_false_iff_ne.2 (by omega)
          cases fnd
          all_goals
            go_wp2
            go_quiet (fail)
            go_wp2
            go_quiet (fail)
            go_wp2
            exact bodyPost_end (results_none rfl _ _ _) rfl ⟨rfl, ((hf.drewN _).set H 5 _ rfl).set H 7 _ rfl, _, HR.out, ((HH.out.drewN _).setK _ _ (by rfl)).setFnd _⟩
        · have u1 : (gt T 0 == r) = false := by simpa using heq
          have u2 : (gt T 0 != r) = true := by simpa using heq
          have HR := Lib.hid (candM_miss HQ.out heq)
          clear heq
          have u3 : ((0 : Int) == ((T.length : Nat) : Int)) = decide (0 = T.length) := by
            simp only [show ¬ (0 = T.length) by omega, decide_false]; exact beq_eq_false_iff_ne.2 (by omega)
          cases fnd
          all_goals
            go_wp2
            go_quiet (fail)
            go_wp2
            go_quiet (fail)
            go_wp2
            exact bodyPost_end (results_none rfl _ _ _) rfl ⟨rfl, (hf.drewN _).set H 7 _ rfl, _, HR.out, (HH.out.drewN _).setFnd _⟩
      · have hq1 : 0 < q := by omega
        have b2 : (q : Int) < 9223372036854775807 := by unfold maxLen at hn2; omega
        by_cases heq : gt T q = r
        · have u1 : (gt T q == r) = true := by simpa using heq
          have u2 : (gt T q != r) = false := by simpa using heq
          have HR := Lib.hid (candM_hit HQ.out heq)
          clear heq
          have u3 : (((q : Int) + 1) == ((T.length : Nat) : Int)) = decide (q + 1 = T.length) := by
            by_cases h : q + 1 = T.length
            · simp only [h, decide_true]; exact beq_iff_eq.2 (by omega)
            · simp only [h, decide_false]; exact beq_eq_false_iff_ne.2 (by omega)
          cases fnd
          all_goals
            go_wp2
            go_quiet (fail)
            go_wp2
            go_quiet (fail)
            go_wp2
            exact bodyPost_end (results_none rfl _ _ _) rfl ⟨rfl, ((hf.drewN _).set H 5 _ rfl).set H 7 _ rfl, _, HR.out, ((HH.out.drewN _).setK _ _ (by rfl)).setFnd _⟩
        · have u1 : (gt T q == r) = false := by simpa using heq
          have u2 : (gt T q != r) = true := by simpa using heq
          have HR := Lib.hid (candM_down HQ.out (by omega) heq)
          clear heq
          go_wp2
          go_quiet (fail)
          go_wp2_with fail
          refine Calls.mono (back_calls _ B H c N T _ bv _ q _ fnd whole (HH.out.drewN _) q hq1 (by omega)) ?_
          rintro e w1 ⟨rfl, m2, rfl⟩
          go_wp2
          go_roundw
          case rel => exact ⟨br T q, HR, (HH.out.drewN _).setK _ _ rfl, (hf.drewN _).set H 5 _ rfl⟩
          case measure =>
            have hbl := br_lt (t := T) hq1
            rw [((HH.out.drewN _).setK _ (br T q) rfl).k5, c5]
            simp [intOf]
            exact hbl
  · have e1 : (((k : Nat) : Int) == ((T.length : Nat) : Int)) = false := beq_eq_false_iff_ne.2 (by omega)
    go_wp2_with fail
    go_loopw [] (fun wr => ∃ q : Nat, Hid (CandM l T q r) ∧ Hm wr B H c N T (.slice (some ⟨g, 0, none⟩) T.length cap) bv (came + 1) q off2 fnd whole ∧ Fr (fun j => j = H) w wr) (fun wr => (wr.cell? ⟨H, 5, none⟩).elim 0 (fun v => (intOf v).toNat))
    case atStart => exact ⟨k, candM_less r HK.out (by have := HK.out.1.2.1; omega), ((HM.out.drewN _).setCame ((came : Int) + 1) (came + 1) rfl), ((Fr.refl (fun j => j = H) w).drewN _).set H 4 _ rfl⟩
    case round =>
      clear c1 c3 c4 c5 c6 f4 f5 f6 
      obtain ⟨q, HQ, hm, hf⟩ := hrel
      have hql := HQ.out.2.1
      have hcq : wr.cell? ⟨g, q, none⟩ = some (.int .i32 (gt T q)) := hm.rt.cell hql
      have c1 : wr.cell? ⟨H, 1, none⟩ = some (.slice (some ⟨g, 0, none⟩) T.length cap) := by simp [World.cell?, hm.hH]
      have c5 : wr.cell? ⟨H, 5, none⟩ = some (.int .i64 q) := by simp [World.cell?, hm.hH]
      have c7 : wr.cell? ⟨H, 7, none⟩ = some (.bool fnd) := by simp [World.cell?, hm.hH]
      have f5 : wr.frozen? ⟨H, 5, none⟩ = false := by simp [World.frozen?, hm.hH]
      have f7 : wr.frozen? ⟨H, 7, none⟩ = false := by simp [World.frozen?, hm.hH]
      have HH := Lib.hid hm
      clear hm
      have b1 : (q : Int) < (T.length : Int) := by omega
      by_cases hq0 : q = 0
      · subst hq0
        by_cases heq : gt T 0 = r
        · have u1 : (gt T 0 == r) = true := by simpa using heq
          have u2 : (gt T 0 != r) = false := by simpa using heq
          have HR := Lib.hid (candM_hit HQ.out heq)
          clear heq
          have u3 : ((1 : Int) == ((T.length : Nat) : Int)) = decide (0 + 1 = T.length) := by
            by_cases h : 0 + 1 = T.length
            · simp only [h, decide_true]; exact beq_iff_eq.2 (by omega)
            · simp only [h, decide_false]; exact beq_eq_false_iff_ne.2 (by omega)
          cases fnd
          all_goals
            go_wp2
            go_quiet (fail)
            go_wp2
            go_quiet (fail)
            go_wp2
            exact bodyPost_end (results_none rfl _ _ _) rfl ⟨rfl, ((hf.drewN _).set H 5 _ rfl).set H 7 _ rfl, _, HR.out, ((HH.out.drewN _).setK _ _ (by rfl)).setFnd _⟩
        · have u1 : (gt T 0 == r) = false := by simpa using heq
          have u2 : (gt T 0 != r) = true := by simpa using heq
          have HR := Lib.hid (candM_miss HQ.out heq)
          clear heq
          have u3 : ((0 : Int) == ((T.length : Nat) : Int)) = decide (0 = T.length) := by
            simp only [show ¬ (0 = T.length) by omega, decide_false]; exact beq_eq_false_iff_ne.2 (by omega)
          cases fnd
          all_goals
            go_wp2
            go_quiet (fail)
            go_wp2
            go_quiet (fail)
            go_wp2
            exact bodyPost_end (results_none rfl _ _ _) rfl ⟨rfl, (hf.drewN _).set H 7 _ rfl, _, HR.out, (HH.out.drewN _).setFnd _⟩
      · have hq1 : 0 < q := by omega
        have b2 : (q : Int) < 9223372036854775807 := by unfold maxLen at hn2; omega
        by_cases heq : gt T q = r
        · have u1 : (gt T q == r) = true := by simpa using heq
          have u2 : (gt T q != r) = false := by simpa using heq
          have HR := Lib.hid (candM_hit HQ.out heq)
          clear heq
          have u3 : (((q : Int) + 1) == ((T.length : Nat) : Int)) = decide (q + 1 = T.length) := by
            by_cases h : q + 1 = T.length
            · simp only [h, decide_true]; exact beq_iff_eq.2 (by omega)
            · simp only [h, decide_false]; exact beq_eq_false_iff_ne.2 (by omega)
          cases fnd
          all_goals
            go_wp2
            go_quiet (fail)
            go_wp2
            go_quiet (fail)
            go_wp2
            exact bodyPost_end (results_none rfl _ _ _) rfl ⟨rfl, ((hf.drewN _).set H 5 _ rfl).set H 7 _ rfl, _, HR.out, ((HH.out.drewN _).setK _ _ (by rfl)).setFnd _⟩
        · have u1 : (gt T q == r) = false := by simpa using heq
          have u2 : (gt T q != r) = true := by simpa using heq
          have HR := Lib.hid (candM_down HQ.out (by omega) heq)
          clear heq
          go_wp2
          go_quiet (fail)
          go_wp2_with fail
          refine Calls.mono (back_calls _ B H c N T _ bv _ q _ fnd whole (HH.out.drewN _) q hq1 (by omega)) ?_
          rintro e w1 ⟨rfl, m2, rfl⟩
          go_wp2
          go_roundw
          case rel => exact ⟨br T q, HR, (HH.out.drewN _).setK _ _ rfl, (hf.drewN _).set H 5 _ rfl⟩
          case measure =>
            have hbl := br_lt (t := T) hq1
            rw [((HH.out.drewN _).setK _ (br T q) rfl).k5, c5]
            simp [intOf]
            exact hbl
end Go.Proofs.YtkhejkfjhddobaaGreatDoor

end

section
namespace Go.Proofs.YtkhejkfjhddobaaGreatDoor
open Go.RowKit Gim
set_option maxHeartbeats 2000000 in
theorem takeD (w : World) (B H : Nat) (c : Int) (N : Nat) (T : List Int) (tv bv : Value) (came k : Nat) (off fnd whole : Bool) (l : List Int) (r : Int) (h : Hm w B H c N T tv bv came k off fnd whole) (hk : Mx l T k) (hT : 0 < T.length) (hcm : came ≤ 2 ^ 62)
    (h1 : ¬ came < T.length) (h2 : ¬ came ≤ max N T.length) (came2 : Nat) (off2 : Bool) (hc2 : came2 = if came ≤ max N T.length then came + 1 else came) (ho2 : off2 = (off || (decide (came < T.length) && (gt T came != r)))) :
    Calls Tryz.prog 89 #[.pointer (some ⟨H, 0, none⟩), .int .i32 r] w (Took w B H c N T tv bv came2 off2 fnd whole l r) := by
  obtain ⟨g, cap, rfl, hg, hgz, ⟨hn1, hn2⟩, hcell⟩ := h.rt.shape (by omega)
  have c1 : w.cell? ⟨H, 1, none⟩ = some (.slice (some ⟨g, 0, none⟩) T.length cap) := by simp [World.cell?, h.hH]
  have c3 : w.cell? ⟨H, 3, none⟩ = some (.int .i64 N) := by simp [World.cell?, h.hH]
  have c4 : w.cell? ⟨H, 4, none⟩ = some (.int .i64 came) := by simp [World.cell?, h.hH]
  have c5 : w.cell? ⟨H, 5, none⟩ = some (.int .i64 k) := by simp [World.cell?, h.hH]
  have c6 : w.cell? ⟨H, 6, none⟩ = some (.bool off) := by simp [World.cell?, h.hH]
  have f4 : w.frozen? ⟨H, 4, none⟩ = false := by simp [World.frozen?, h.hH]
  have f5 : w.frozen? ⟨H, 5, none⟩ = false := by simp [World.frozen?, h.hH]
  have f6 : w.frozen? ⟨H, 6, none⟩ = false := by simp [World.frozen?, h.hH]
  have HM := Lib.hid h
  have HC := Lib.hid hcell
  have HE := Lib.hid hc2
  have HO := Lib.hid ho2
  have HK := Lib.hid hk
  clear h hcell hc2 ho2 hk
  obtain ⟨M, hM⟩ : ∃ M : Nat, (if N < T.length then (T.length : Int) else (N : Int)) = M := ⟨max N T.length, by split <;> omega⟩
  have HX := Lib.hid (show M = max N T.length by split at hM <;> omega)
  have t0 : (((T.length : Nat) : Int) == 0) = false := beq_eq_false_iff_ne.2 (by omega)
  have t1 : ¬ ((came : Int) < (T.length : Int)) := by omega
  have t4 : ¬ (came ≤ M) := by have := HX.out; omega
  obtain rfl : came2 = came := by rw [HE.out, if_neg h2]
  obtain rfl : off2 = off := by rw [HO.out]; simp [h1]
  clear HE HO
  go_enter Tryz.func89, Tryz.ntmps89
  go_wp2
  go_quiet (fail)
  go_wp2
  go_quiet (fail)
  by_cases hkn : k = T.length
  · have e1 : (((k : Nat) : Int) == ((T.length : Nat) : Int)) = true := beq_iff_eq.2 (by omega)
    go_wp2_with fail
    refine Calls.mono (back_calls _ B H c N T _ bv _ k _ fnd whole (HM.out.drewN _) T.length hT (Nat.le_refl _)) ?_
    rintro e w1 ⟨rfl, m1, rfl⟩
    go_wp2_with fail
    go_loopw [] (fun wr => ∃ q : Nat, Hid (CandM l T q r) ∧ Hm wr B H c N T (.slice (some ⟨g, 0, none⟩) T.length cap) bv came2 q off2 fnd whole ∧ Fr (fun j => j = H) w wr) (fun wr => (wr.cell? ⟨H, 5, none⟩).elim 0 (fun v => (intOf v).toNat))
    case atStart => exact ⟨br T T.length, candM_full r (hkn ▸ HK.out) hT, ((HM.out).drewN _).setK _ _ rfl, (((Fr.refl (fun j => j = H) w)).drewN _).set H 5 _ rfl⟩
    case round =>
      clear c1 c3 c4 c5 c6 f4 f5 f6 
      obtain ⟨q, HQ, hm, hf⟩ := hrel
      have hql := HQ.out.2.1
      have hcq : wr.cell? ⟨g, q, none⟩ = some (.int .i32 (gt T q)) := hm.rt.cell hql
      have c1 : wr.cell? ⟨H, 1, none⟩ = some (.slice (some ⟨g, 0, none⟩) T.length cap) := by simp [World.cell?, hm.hH]
      have c5 : wr.cell? ⟨H, 5, none⟩ = some (.int .i64 q) := by simp [World.cell?, hm.hH]
      have c7 : wr.cell? ⟨H, 7, none⟩ = some (.bool fnd) := by simp [World.cell?, hm.hH]
      have f5 : wr.frozen? ⟨H, 5, none⟩ = false := by simp [World.frozen?, hm.hH]
      have f7 : wr.frozen? ⟨H, 7, none⟩ = false := by simp [World.frozen?, hm.hH]
      have HH := Lib.hid hm
      clear hm
      have b1 : (q : Int) < (T.length : Int) := by omega
      by_cases hq0 : q = 0
      · subst hq0
        by_cases heq : gt T 0 = r
        · have u1 : (gt T 0 == r) = true := by simpa using heq
          have u2 : (gt T 0 != r) = false := by simpa using heq
          have HR := Lib.hid (candM_hit HQ.out heq)
          clear heq
          have u3 : ((1 : Int) == ((T.length : Nat) : Int)) = decide (0 + 1 = T.length) := by
            by_cases h : 0 + 1 = T.length
            · simp only [h, decide_true]; exact beq_iff_eq.2 (by omega)
            · simp only [h, decide_false]; exact beq_eq_false_iff_ne.2 (by omega)
          cases fnd
          all_goals
            go_wp2
            go_quiet (fail)
            go_wp2
            go_quiet (fail)
            go_wp2
            exact bodyPost_end (results_none rfl _ _ _) rfl ⟨rfl, ((hf.drewN _).set H 5 _ rfl).set H 7 _ rfl, _, HR.out, ((HH.out.drewN _).setK _ _ (by rfl)).setFnd _⟩
        · have u1 : (gt T 0 == r) = false := by simpa using heq
          have u2 : (gt T 0 != r) = true := by simpa using heq
          have HR := Lib.hid (candM_miss HQ.out heq)
          clear heq
          have u3 : ((0 : Int) == ((T.length : Nat) : Int)) = decide (0 = T.length) := by
            simp only [show ¬ (0 = T.length) by omega, decide_false]; exact beq_eq_false_iff_ne.2 (by omega)
          cases fnd
          all_goals
            go_wp2
            go_quiet (fail)
            go_wp2
            go_quiet (fail)
            go_wp2
            exact bodyPost_end (results_none rfl _ _ _) rfl ⟨rfl, (hf.drewN _).set H 7 _ rfl, _, HR.out, (HH.out.drewN _).setFnd _⟩
      · have hq1 : 0 < q := by omega
        have b2 : (q : Int) < 9223372036854775807 := by unfold maxLen at hn2; omega
        by_cases heq : gt T q = r
        · have u1 : (gt T q == r) = true := by simpa using heq
          have u2 : (gt T q != r) = false := by simpa using heq
          have HR := Lib.hid (candM_hit HQ.out heq)
          clear heq
          have u3 : (((q : Int) + 1) == ((T.length : Nat) : Int)) = decide (q + 1 = T.length) := by
            by_cases h : q + 1 = T.length
            · simp only [h, decide_true]; exact beq_iff_eq.2 (by omega)
            · simp only [h, decide_false]; exact beq_eq_false_iff_ne.2 (by omega)
          cases fnd
          all_goals
            go_wp2
            go_quiet (fail)
            go_wp2
            go_quiet (fail)
            go_wp2
            exact bodyPost_end (results_none rfl _ _ _) rfl ⟨rfl, ((hf.drewN _).set H 5 _ rfl).set H 7 _ rfl, _, HR.out, ((HH.out.drewN _).setK _ _ (by rfl)).setFnd _⟩
        · have u1 : (gt T q == r) = false := by simpa using heq
          have u2 : (gt T q != r) = true := by simpa using heq
          have HR := Lib.hid (candM_down HQ.out (by omega) heq)
          clear heq
          go_wp2
          go_quiet (fail)
          go_wp2_with fail
          refine Calls.mono (back_calls _ B H c N T _ bv _ q _ fnd whole (HH.out.drewN _) q hq1 (by omega)) ?_
          rintro e w1 ⟨rfl, m2, rfl⟩
          go_wp2
          go_roundw
          case rel => exact ⟨br T q, HR, (HH.out.drewN _).setK _ _ rfl, (hf.drewN _).set H 5 _ rfl⟩
          case measure =>
            have hbl := br_lt (t := T) hq1
            rw [((HH.out.drewN _).setK _ (br T q) rfl).k5, c5]
            simp [intOf]
            exact hbl
  · have e1 : (((k : Nat) : Int) == ((T.length : Nat) : Int)) = false := beq_eq_false_iff_ne.2 (by omega)
    go_wp2_with fail
    go_loopw [] (fun wr => ∃ q : Nat, Hid (CandM l T q r) ∧ Hm wr B H c N T (.slice (some ⟨g, 0, none⟩) T.length cap) bv came2 q off2 fnd whole ∧ Fr (fun j => j = H) w wr) (fun wr => (wr.cell? ⟨H, 5, none⟩).elim 0 (fun v => (intOf v).toNat))
    case atStart => exact ⟨k, candM_less r HK.out (by have := HK.out.1.2.1; omega), (HM.out.drewN _), ((Fr.refl (fun j => j = H) w).drewN _)⟩
    case round =>
      clear c1 c3 c4 c5 c6 f4 f5 f6 
      obtain ⟨q, HQ, hm, hf⟩ := hrel
      have hql := HQ.out.2.1
      have hcq : wr.cell? ⟨g, q, none⟩ = some (.int .i32 (gt T q)) := hm.rt.cell hql
      have c1 : wr.cell? ⟨H, 1, none⟩ = some (.slice (some ⟨g, 0, none⟩) T.length cap) := by simp [World.cell?, hm.hH]
      have c5 : wr.cell? ⟨H, 5, none⟩ = some (.int .i64 q) := by simp [World.cell?, hm.hH]
      have c7 : wr.cell? ⟨H, 7, none⟩ = some (.bool fnd) := by simp [World.cell?, hm.hH]
      have f5 : wr.frozen? ⟨H, 5, none⟩ = false := by simp [World.frozen?, hm.hH]
      have f7 : wr.frozen? ⟨H, 7, none⟩ = false := by simp [World.frozen?, hm.hH]
      have HH := Lib.hid hm
      clear hm
      have b1 : (q : Int) < (T.length : Int) := by omega
      by_cases hq0 : q = 0
      · subst hq0
        by_cases heq : gt T 0 = r
        · have u1 : (gt T 0 == r) = true := by simpa using heq
          have u2 : (gt T 0 != r) = false := by simpa using heq
          have HR := Lib.hid (candM_hit HQ.out heq)
          clear heq
          have u3 : ((1 : Int) == ((T.length : Nat) : Int)) = decide (0 + 1 = T.length) := by
            by_cases h : 0 + 1 = T.length
            · simp only [h, decide_true]; exact beq_iff_eq.2 (by omega)
            · simp only [h, decide_false]; exact beq_eq_false_iff_ne.2 (by omega)
          cases fnd
          all_goals
            go_wp2
            go_quiet (fail)
            go_wp2
            go_quiet (fail)
            go_wp2
            exact bodyPost_end (results_none rfl _ _ _) rfl ⟨rfl, ((hf.drewN _).set H 5 _ rfl).set H 7 _ rfl, _, HR.out, ((HH.out.drewN _).setK _ _ (by rfl)).setFnd _⟩
        · have u1 : (gt T 0 == r) = false := by simpa using heq
          have u2 : (gt T 0 != r) = true := by simpa using heq
          have HR := Lib.hid (candM_miss HQ.out heq)
          clear heq
          have u3 : ((0 : Int) == ((T.length : Nat) : Int)) = decide (0 = T.length) := by
            simp only [show ¬ (0 = T.length) by omega, decide_false]; exact beq_eq_false_iff_ne.2 (by omega)
          cases fnd
          all_goals
            go_wp2
            go_quiet (fail)
            go_wp2
            go_quiet (fail)
            go_wp2
            exact bodyPost_end (results_none rfl _ _ _) rfl ⟨rfl, (hf.drewN _).set H 7 _ rfl, _, HR.out, (HH.out.drewN _).setFnd _⟩
      · have hq1 : 0 < q := by omega
        have b2 : (q : Int) < 9223372036854775807 := by unfold maxLen at hn2; omega
        by_cases heq : gt T q = r
        · have u1 : (gt T q == r) = true := by simpa using heq
          have u2 : (gt T q != r) = false := by simpa using heq
          have HR := Lib.hid (candM_hit HQ.out heq)
          clear heq
          have u3 : (((q : Int) + 1) == ((T.length : Nat) : Int)) = decide (q + 1 = T.length) := by
            by_cases h : q + 1 = T.length
            · simp only [h, decide_true]; exact beq_iff_eq.2 (by omega)
            · simp only [h, decide_false]; exact beq_eq_false_iff_ne.2 (by omega)
          cases fnd
          all_goals
            go_wp2
            go_quiet (fail)
            go_wp2
            go_quiet (fail)
            go_wp2
            exact bodyPost_end (results_none rfl _ _ _) rfl ⟨rfl, ((hf.drewN _).set H 5 _ rfl).set H 7 _ rfl, _, HR.out, ((HH.out.drewN _).setK _ _ (by rfl)).setFnd _⟩
        · have u1 : (gt T q == r) = false := by simpa using heq
          have u2 : (gt T q != r) = true := by simpa using heq
          have HR := Lib.hid (candM_down HQ.out (by omega) heq)
          clear heq
          go_wp2
          go_quiet (fail)
          go_wp2_with fail
          refine Calls.mono (back_calls _ B H c N T _ bv _ q _ fnd whole (HH.out.drewN _) q hq1 (by omega)) ?_
          rintro e w1 ⟨rfl, m2, rfl⟩
          go_wp2
          go_roundw
          case rel => exact ⟨br T q, HR, (HH.out.drewN _).setK _ _ rfl, (hf.drewN _).set H 5 _ rfl⟩
          case measure =>
            have hbl := br_lt (t := T) hq1
            rw [((HH.out.drewN _).setK _ (br T q) rfl).k5, c5]
            simp [intOf]
            exact hbl
end Go.Proofs.YtkhejkfjhddobaaGreatDoor

end

section
namespace Go.Proofs.YtkhejkfjhddobaaGreatDoor
open Go.RowKit Gim
/-- a Hunt of the text T to which the characters l have come -/
def St (w : World) (B H : Nat) (c : Int) (N : Nat) (T : List Int) (tv bv : Value) (l : List Int) (whole : Bool) : Prop :=
  ∃ k, Hm w B H c N T tv bv (cameN l T N) k (offB l T) (fdB c l T) whole ∧ Mx l T k
def Adds (w : World) (B H : Nat) (c : Int) (N : Nat) (T : List Int) (tv bv : Value) (l : List Int) (whole : Bool) (v : Value) (e : Ending) (w' : World) : Prop :=
  e = .returned v ∧ Fr (fun j => j = H) w w' ∧ St w' B H c N T tv bv l whole
theorem take_some (w : World) (B H : Nat) (c : Int) (N : Nat) (T : List Int) (tv bv : Value) (came k : Nat) (off fnd whole : Bool) (l : List Int) (r : Int) (h : Hm w B H c N T tv bv came k off fnd whole) (hk : Mx l T k) (hT : 0 < T.length) (hcm : came ≤ 2 ^ 62) :
    Calls Tryz.prog 89 #[.pointer (some ⟨H, 0, none⟩), .int .i32 r] w (Took w B H c N T tv bv (if came ≤ max N T.length then came + 1 else came) (off || (decide (came < T.length) && (gt T came != r))) fnd whole l r) := by
  by_cases h1 : came < T.length
  · by_cases h2 : gt T came = r
    · exact takeA w B H c N T tv bv came k off fnd whole l r h hk hT hcm h1 h2 _ _ rfl rfl
    · exact takeB w B H c N T tv bv came k off fnd whole l r h hk hT hcm h1 h2 _ _ rfl rfl
  · by_cases h2 : came ≤ max N T.length
    · exact takeC w B H c N T tv bv came k off fnd whole l r h hk hT hcm h1 h2 _ _ rfl rfl
    · exact takeD w B H c N T tv bv came k off fnd whole l r h hk hT hcm h1 h2 _ _ rfl rfl
def TookNil (w : World) (B H : Nat) (c num : Int) (T : List Int) (tv bv : Value) (came k : Nat) (off fnd whole : Bool) (e : Ending) (w' : World) : Prop :=
  e = .returned (.tuple #[]) ∧ Fr (fun j => j = H) w w' ∧ Hm w' B H c num T tv bv came k off fnd whole
set_option maxHeartbeats 1000000 in
theorem take_none (w : World) (B H : Nat) (c : Int) (N : Nat) (T : List Int) (tv bv : Value) (came k : Nat) (off fnd whole : Bool) (r : Int) (h : Hm w B H c N T tv bv came k off fnd whole) (hT : T.length = 0) (hcm : came ≤ 2 ^ 62) (came2 : Nat) (hc2 : came2 = if came ≤ max N T.length then came + 1 else came) :
    Calls Tryz.prog 89 #[.pointer (some ⟨H, 0, none⟩), .int .i32 r] w (TookNil w B H c N T tv bv came2 k off fnd whole) := by
  obtain ⟨ao, cap, rfl, rd⟩ := h.rt.rd
  have c1 : w.cell? ⟨H, 1, none⟩ = some (.slice ao T.length cap) := by simp [World.cell?, h.hH]
  have c3 : w.cell? ⟨H, 3, none⟩ = some (.int .i64 N) := by simp [World.cell?, h.hH]
  have c4 : w.cell? ⟨H, 4, none⟩ = some (.int .i64 came) := by simp [World.cell?, h.hH]
  have f4 : w.frozen? ⟨H, 4, none⟩ = false := by simp [World.frozen?, h.hH]
  have HM := Lib.hid h
  have HE := Lib.hid hc2
  clear h hc2
  have t1 : ¬ (came < T.length) := by omega
  have t0 : (((T.length : Nat) : Int) == 0) = true := beq_iff_eq.2 (by omega)
  obtain ⟨M, hM⟩ : ∃ M : Nat, (if N < T.length then (T.length : Int) else (N : Int)) = M := ⟨max N T.length, by split <;> omega⟩
  have HX := Lib.hid (show M = max N T.length by split at hM <;> omega)
  have HT := Lib.hid hT
  clear hT rd
  by_cases h1 : came ≤ M
  · obtain rfl : came2 = came + 1 := by rw [HE.out, if_pos (by rw [← HX.out]; exact h1)]
    clear HE
    go_enter Tryz.func89, Tryz.ntmps89
    go_wp2
    go_quiet (fail)
    go_wp2
    go_quiet (fail)
    go_wp2
    trace_state
    exact bodyPost_ret (results_none rfl _ _ _) rfl ⟨rfl, ((Fr.refl (fun j => j = H) w).drewN _).set H 4 _ rfl, (HM.out.drewN _).setCame ((came : Int) + 1) (came + 1) rfl⟩
  · obtain rfl : came2 = came := by rw [HE.out, if_neg (by rw [← HX.out]; exact h1)]
    clear HE
    go_enter Tryz.func89, Tryz.ntmps89
    go_wp2
    go_quiet (fail)
    go_wp2
    go_quiet (fail)
    go_wp2
    exact bodyPost_ret (results_none rfl _ _ _) rfl ⟨rfl, (Fr.refl (fun j => j = H) w).drewN _, HM.out.drewN _⟩
end Go.Proofs.YtkhejkfjhddobaaGreatDoor

end

