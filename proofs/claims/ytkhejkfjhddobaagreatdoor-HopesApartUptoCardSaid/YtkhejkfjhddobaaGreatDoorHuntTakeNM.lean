/- The walk of hunt's take. -/
import Derived.Test.YtkhejkfjhddobaaGreatDoorHuntBaseM
import Derived.Deep.CutRange
import Derived.Deep.CutBlock
set_option maxRecDepth 100000
set_option maxHeartbeats 8000000
namespace Go.Proofs.YtkhejkfjhddobaaGreatDoor
open Go.RowKit Gim
theorem yQ9 (w : World) (B H : Nat) (c : Int) (N : Nat) (T : List Int) (tv bv : Value) (came k : Nat) (off fnd whole : Bool) (l : List Int) (r : Int) (h : Hm w B H c N T tv bv came k off fnd whole) (hk : Mx l T k) (hT : 0 < T.length) (hcm : came ≤ 2 ^ 62)
  (came2 : Nat) (off2 : Bool) (hc2 : came2 = if came ≤ max N T.length then came + 1 else came) (ho2 : off2 = (off || (decide (came < T.length) && (gt T came != r)))) :
  Calls Tryz.prog 89 #[.pointer (some ⟨H, 0, none⟩), .int .i32 r] w (Took w B H c N T tv bv came2 off2 fnd whole l r) := by
 obtain ⟨g, cap, rfl, hg, hgz, ⟨hn1, hn2⟩, hcell⟩ := h.rt.shape (by omega); have c1 := jc h.hH 1 rfl; have c3 := jc h.hH 3 rfl; have c4 := jc h.hH 4 rfl; have c6 := jc h.hH 6 rfl; have f4 : w.frozen? ⟨H, 4, none⟩ = false := by simp [World.frozen?, h.hH]
 have f6 : w.frozen? ⟨H, 6, none⟩ = false := by simp [World.frozen?, h.hH]
 have HM := jh h; have HE := jh hc2; have HO := jh ho2; have HK := jh hk; obtain ⟨M, hM⟩ : ∃ M : Nat, (if N < T.length then (T.length : Int) else (N : Int)) = M := ⟨max N T.length, by split <;> omega⟩
 have HX := jh (show M = max N T.length by split at hM <;> omega); have t0 : (((T.length : Nat) : Int) == 0) = false := jn.2 (by omega); have hF0 := jh (Fr.refl (fun j => j = H) w); clear h hc2 ho2 hk; go_enter Tryz.func89, Tryz.ntmps89; obtain ⟨tb, htb⟩ := je ((decide (came < T.length) && (gt T came != r))); have HTB := jh htb; rw [htb] at HO; clear htb; go_upto_region 0 with fail; go_cut [28] from 5 to 28 (fun v28 wx => v28 = .bool tb ∧ ∃ n, wx = w.drewN n)
 case first =>
  by_cases t1 : (came : Int) < (T.length : Int)
  ·have x1 := hcell came (by omega); by_cases h2 : gt T came = r
   ·have t2 : (gt T came == r) = true := by simpa using h2
    have t3 : (gt T came != r) = false := by simpa using h2
    obtain rfl : tb = false := by rw [← HTB.out, t3]; simp
    clear hcell HO HTB; go_wp2; go_quiet (fail); go_wp2; go_meet; exact ⟨rfl, _, rfl⟩
   ·have t2 : (gt T came == r) = false := by simpa using h2
    have t3 : (gt T came != r) = true := by simpa using h2
    obtain rfl : tb = true := by rw [← HTB.out, t3]; simp [show came < T.length by omega]
    clear hcell HO HTB; go_wp2; go_quiet (fail); go_wp2; go_meet; exact ⟨rfl, _, rfl⟩
  ·have t1n : ¬ came < T.length := by omega
   obtain rfl : tb = false := by rw [← HTB.out]; simp [t1n]
   clear hcell HO HTB; go_wp2; go_quiet (fail); go_wp2; go_meet; exact ⟨rfl, _, rfl⟩
 case rest =>
 obtain ⟨rfl, n1, rfl⟩ := hcut; clear hcell HTB; go_upto_if 28 with fail
 go_cut [] from 28 to 31 (fun wx => Hm wx B H c N T (.slice (some ⟨g, 0, none⟩) T.length cap) bv came k off2 fnd whole ∧ Fr (fun j => j = H) w wx)
 case first =>
  cases tb
  ·obtain rfl : off2 = off := by rw [HO.out]; simp
   clear HO; go_wp2; go_meet; exact ⟨HM.out.drewN _, hF0.out.drewN _⟩
  ·obtain rfl : off2 = true := by rw [HO.out]; simp
   clear HO; go_wp2; go_meet; exact ⟨(HM.out.drewN _).setOff true, (hF0.out.drewN _).set H 6 _ rfl⟩
 case rest =>
 obtain ⟨hm0, hf0⟩ := hcut; have HM0 := jh hm0; have HF0 := jh hf0; have c1 := jc hm0.hH 1 rfl; have c3 := jc hm0.hH 3 rfl; have c4 := jc hm0.hH 4 rfl; have f4 : wc.frozen? ⟨H, 4, none⟩ = false := by simp [World.frozen?, hm0.hH]
 obtain ⟨w1, hw1⟩ := je (wc); rw [hw1] at HM0 HF0 c1 c3 c4 f4 ⊢; clear hm0 hf0 hw1 HM hF0 HO f6 c6; go_upto_region 2 with fail
 go_cut [46] from 32 to 46 (fun v46 wx => v46 = .bool (decide (came ≤ M)) ∧ ∃ n, wx = w1.drewN n)
 case first =>
  go_wp2; go_quiet (fail); go_wp2; go_meet; exact ⟨by simp, _, rfl⟩
 case rest =>
 obtain ⟨rfl, n2, rfl⟩ := hcut; go_upto_if 46 with fail
 go_cut [] from 46 to 53 (fun wx => Hm wx B H c N T (.slice (some ⟨g, 0, none⟩) T.length cap) bv came2 k off2 fnd whole ∧ Fr (fun j => j = H) w wx)
 case first =>
  by_cases t4 : came ≤ M
  ·obtain rfl : came2 = came + 1 := by rw [HE.out]; have := HX.out; split <;> omega
   clear HE; go_wp2; go_meet; exact ⟨(HM0.out.drewN _).setCame ((came : Int) + 1) (came + 1) rfl, (HF0.out.drewN _).set H 4 _ rfl⟩
  ·obtain rfl : came2 = came := by rw [HE.out]; have := HX.out; split <;> omega
   clear HE; go_wp2; go_meet; exact ⟨HM0.out.drewN _, HF0.out.drewN _⟩
 case rest =>
 clear HM0 HF0 c1 c3 c4 f4 hM HX; obtain ⟨hm1, hf1⟩ := hcut; have HM1 := jh hm1; have HF1 := jh hf1; have c5 := jc hm1.hH 5 rfl; have c1 := jc hm1.hH 1 rfl; have f5 : wc.frozen? ⟨H, 5, none⟩ = false := by simp [World.frozen?, hm1.hH]
 obtain ⟨eb, heb⟩ := je ((((k : Nat) : Int) == ((T.length : Nat) : Int))); have HEB := jh heb; clear hm1 hf1 HE; go_upto_if 66 with fail
 clear heb; go_cut [] from 66 to 72 (fun wx => ∃ q : Nat, Hid (yHh l T q r) ∧ Hm wx B H c N T (.slice (some ⟨g, 0, none⟩) T.length cap) bv came2 q off2 fnd whole ∧ Fr (fun j => j = H) w wx)
 case first =>
  cases eb
  case true =>
   have hkn : Hid (k = T.length) := jh (by have := beq_iff_eq.1 HEB.out; omega); go_wp2_with fail; refine Calls.mono (yIb _ B H c N T _ bv _ k _ fnd whole HM1.out T.length hT (jr _)) ?_; rintro e w1 ⟨rfl, m1, rfl⟩; go_wp2_with fail; go_meet; exact ⟨br T T.length, yNZ r (hkn.out ▸ HK.out) hT, (HM1.out.drewN _).setK _ _ rfl, (HF1.out.drewN _).set H 5 _ rfl⟩
  case false =>
   have hkn : Hid (k ≠ T.length) := jh (by have := jn.1 HEB.out; omega); go_wp2_with fail; go_meet; exact ⟨k, yNE r HK.out (by have := HK.out.1.2.1; have := hkn.out; omega), HM1.out, HF1.out⟩
 case rest =>
 have HC := jh hcut; clear hcut HM1 HF1 c5 f5 c1 HEB HK; go_wp2_with fail; go_loopw [] (fun wr => ∃ q : Nat, Hid (yHh l T q r) ∧ Hm wr B H c N T (.slice (some ⟨g, 0, none⟩) T.length cap) bv came2 q off2 fnd whole ∧ Fr (fun j => j = H) w wr) (fun wr => (wr.cell? ⟨H, 5, none⟩).elim 0 (fun v => (intOf v).toNat))
 case atStart => exact HC.out
 case round =>
  clear HC; obtain ⟨q, HQ, hm, hf⟩ := hrel; have hql := HQ.out.2.1; have hcq : wr.cell? ⟨g, q, none⟩ = some (.int .i32 (gt T q)) := hm.rt.cell hql; have c1 := jc hm.hH 1 rfl; have c5 := jc hm.hH 5 rfl; have c7 := jc hm.hH 7 rfl; have f5 : wr.frozen? ⟨H, 5, none⟩ = false := by simp [World.frozen?, hm.hH]
  have f7 : wr.frozen? ⟨H, 7, none⟩ = false := by simp [World.frozen?, hm.hH]
  have HH := jh hm; clear hm; have b1 : (q : Int) < (T.length : Int) := by omega
  have b2 : (q : Int) < 9223372036854775807 := by unfold maxLen at hn2; omega
  by_cases heq : gt T q = r
  ·have u1 : (gt T q == r) = true := by simpa using heq
   have u2 : (gt T q != r) = false := by simpa using heq
   have HR := jh (yQd HQ.out heq); clear heq; have u3 : (((q : Int) + 1) == ((T.length : Nat) : Int)) = decide (q + 1 = T.length) := by
    by_cases h : q + 1 = T.length
    ·simp only [h, decide_true]; exact beq_iff_eq.2 (by omega)
    ·simp only [h, decide_false]; exact jn.2 (by omega)
   by_cases hq0 : q = 0
   ·subst hq0; have u3 : ((1 : Int) == ((T.length : Nat) : Int)) = decide (0 + 1 = T.length) := u3; cases fnd
    all_goals
     go_wp2; go_quiet (fail); go_wp2; go_quiet (fail); go_wp2; exact bodyPost_end (results_none rfl _ _ _) rfl ⟨rfl, ((hf.drewN _).set H 5 _ rfl).set H 7 _ rfl, _, HR.out, ((HH.out.drewN _).setK _ _ (by rfl)).setFnd _⟩
   ·have hq1 : 0 < q := by omega
    cases fnd
    all_goals
     go_wp2; go_quiet (fail); go_wp2; go_quiet (fail); go_wp2; exact bodyPost_end (results_none rfl _ _ _) rfl ⟨rfl, ((hf.drewN _).set H 5 _ rfl).set H 7 _ rfl, _, HR.out, ((HH.out.drewN _).setK _ _ (by rfl)).setFnd _⟩
  ·have u1 : (gt T q == r) = false := by simpa using heq
   have u2 : (gt T q != r) = true := by simpa using heq
   by_cases hq0 : q = 0
   ·subst hq0; have HR := jh (yN2 HQ.out heq); clear heq; have u3 : ((0 : Int) == ((T.length : Nat) : Int)) = decide (0 = T.length) := by simp only [show ¬ (0 = T.length) by omega, decide_false]; exact jn.2 (by omega)
    cases fnd
    all_goals
     go_wp2; go_quiet (fail); go_wp2; go_quiet (fail); go_wp2; exact bodyPost_end (results_none rfl _ _ _) rfl ⟨rfl, (hf.drewN _).set H 7 _ rfl, _, HR.out, (HH.out.drewN _).setFnd _⟩
   ·have hq1 : 0 < q := by omega
    have HR := jh (yOs HQ.out (by omega) heq); clear heq; go_wp2; go_quiet (fail); go_wp2_with fail; refine Calls.mono (yIb _ B H c N T _ bv _ q _ fnd whole (HH.out.drewN _) q hq1 (by omega)) ?_; rintro e w1 ⟨rfl, m2, rfl⟩; go_wp2; go_roundw
    case rel => exact ⟨br T q, HR, (HH.out.drewN _).setK _ _ rfl, (hf.drewN _).set H 5 _ rfl⟩
    case measure =>
     have hbl := yHk (t := T) hq1; rw [((HH.out.drewN _).setK _ (br T q) rfl).k5, c5]; simp [intOf]; exact hbl
def St (w : World) (B H : Nat) (c : Int) (N : Nat) (T : List Int) (tv bv : Value) (l : List Int) (whole : Bool) : Prop :=
 ∃ k, Hm w B H c N T tv bv (yBD l T N) k (yCt l T) (fdB c l T) whole ∧ Mx l T k
def yTu (w : World) (B H : Nat) (c : Int) (N : Nat) (T : List Int) (tv bv : Value) (l : List Int) (whole : Bool) (v : Value) (e : Ending) (w' : World) : Prop :=
 e = .returned v ∧ Fr (fun j => j = H) w w' ∧ St w' B H c N T tv bv l whole
theorem yPQ (w : World) (B H : Nat) (c : Int) (N : Nat) (T : List Int) (tv bv : Value) (came k : Nat) (off fnd whole : Bool) (l : List Int) (r : Int) (h : Hm w B H c N T tv bv came k off fnd whole) (hk : Mx l T k) (hT : 0 < T.length) (hcm : came ≤ 2 ^ 62) :
  Calls Tryz.prog 89 #[.pointer (some ⟨H, 0, none⟩), .int .i32 r] w (Took w B H c N T tv bv (if came ≤ max N T.length then came + 1 else came) (off || (decide (came < T.length) && (gt T came != r))) fnd whole l r) :=
 yQ9 w B H c N T tv bv came k off fnd whole l r h hk hT hcm _ _ rfl rfl
def yR8 (w : World) (B H : Nat) (c num : Int) (T : List Int) (tv bv : Value) (came k : Nat) (off fnd whole : Bool) (e : Ending) (w' : World) : Prop :=
 e = .returned (.tuple #[]) ∧ Fr (fun j => j = H) w w' ∧ Hm w' B H c num T tv bv came k off fnd whole
theorem yPt (w : World) (B H : Nat) (c : Int) (N : Nat) (T : List Int) (tv bv : Value) (came k : Nat) (off fnd whole : Bool) (r : Int) (h : Hm w B H c N T tv bv came k off fnd whole) (hT : T.length = 0) (hcm : came ≤ 2 ^ 62) (came2 : Nat) (hc2 : came2 = if came ≤ max N T.length then came + 1 else came) :
  Calls Tryz.prog 89 #[.pointer (some ⟨H, 0, none⟩), .int .i32 r] w (yR8 w B H c N T tv bv came2 k off fnd whole) := by
 obtain ⟨ao, cap, rfl, rd⟩ := h.rt.rd; have c1 := jc h.hH 1 rfl; have c3 := jc h.hH 3 rfl; have c4 := jc h.hH 4 rfl; have f4 : w.frozen? ⟨H, 4, none⟩ = false := by simp [World.frozen?, h.hH]
 have HM := jh h; have HE := jh hc2; clear h hc2; have t1 : ¬ (came < T.length) := by omega
 have t0 : (((T.length : Nat) : Int) == 0) = true := beq_iff_eq.2 (by omega); obtain ⟨M, hM⟩ : ∃ M : Nat, (if N < T.length then (T.length : Int) else (N : Int)) = M := ⟨max N T.length, by split <;> omega⟩
 have HX := jh (show M = max N T.length by split at hM <;> omega); have HT := jh hT; clear hT rd; by_cases h1 : came ≤ M
 ·obtain rfl : came2 = came + 1 := by rw [HE.out, if_pos (by rw [← HX.out]; exact h1)]
  clear HE; go_enter Tryz.func89, Tryz.ntmps89; go_wp2; go_quiet (fail); go_wp2; go_quiet (fail); go_wp2
  trace_state
  exact bodyPost_ret (results_none rfl _ _ _) rfl ⟨rfl, ((Fr.refl (fun j => j = H) w).drewN _).set H 4 _ rfl, (HM.out.drewN _).setCame ((came : Int) + 1) (came + 1) rfl⟩
 ·obtain rfl : came2 = came := by rw [HE.out, if_neg (by rw [← HX.out]; exact h1)]
  clear HE; go_enter Tryz.func89, Tryz.ntmps89; go_wp2; go_quiet (fail); go_wp2; go_quiet (fail); go_wp2; exact bodyPost_ret (results_none rfl _ _ _) rfl ⟨rfl, (Fr.refl (fun j => j = H) w).drewN _, HM.out.drewN _⟩
end Go.Proofs.YtkhejkfjhddobaaGreatDoor
