/- gimletlaw18.weight and exprs: they end, with one answer for each path. -/
import Derived.Test.YtkhejkfjhddobaaGreatDoorQTreeM
set_option maxRecDepth 100000
set_option maxHeartbeats 8000000
namespace Gim
open Go Go.RowKit
def stepW {α : Type} (B : Int) (g : α → Int) (m : Int) (x : α) : Int := if m ≤ B then wrap64 (m + g x) else m
theorem yE7 {α : Type} {B : Int} {g : α → Int} {m : Int} (h : ¬ m ≤ B) : ∀ l : List α, l.foldl (stepW B g) m = m
 | [] => rfl
 | x :: l => by rw [List.foldl_cons]; unfold stepW; rw [if_neg h]; exact yE7 h l
def yGT : Ex → List Ex | .mk _ args _ _ _ _ _ => args
def yJB : Ex → List St | .mk _ _ sts _ _ _ _ => sts
def yHx : St → List Ex | .mk _ _ _ wh => wh
end Gim
namespace Go.Proofs.YtkhejkfjhddobaaGreatDoor
open Go.RowKit Gim
def LX (k : Nat) (f : List Ex → Int → Int) : Prop := ∀ (xs : List Ex) (a : Option Addr) (n cap : Nat) (d : Int) (w : World), SizeOf.sizeOf xs ≤ k → yAM w xs a n cap →
 Calls Tryz.prog 43 #[.slice a n cap, .int .i64 d] w fun e w' => e = .returned (.int .i64 (f xs d)) ∧ yAJ w w'
def LT (k : Nat) (f : List St → Int → Int) : Prop := ∀ (xs : List St) (a : Option Addr) (n cap : Nat) (d : Int) (w : World), SizeOf.sizeOf xs ≤ k → yAH w xs a n cap →
 Calls Tryz.prog 22 #[.slice a n cap, .int .i64 d] w fun e w' => e = .returned (.int .i64 (f xs d)) ∧ yAJ w w'
theorem ySl (k : Nat) {f : List Ex → Int → Int} {g : List St → Int → Int} (hX : LX k f) (hT : LT k g) : LX (k + 1) fun xs d => if 12 < d then 1000 else xs.foldl (stepW 40 fun x => wrap64 (f (yGT x) (wrap64 (d + 1)) + g (yJB x) (wrap64 (d + 1)))) xs.length := by
 intro xs a n cap d w hk hF; have hcm := hF.cap_le; have hle := hF.le; have hnb : n ≤ 9223372036854775807 := by unfold maxLen at hcm; omega
 obtain ⟨G, hG⟩ := je ((fun x => wrap64 (f (yGT x) (wrap64 (d + 1)) + g (yJB x) (wrap64 (d + 1)))) : Ex → Int); show Calls _ _ _ _ fun e w' => e = .returned (.int .i64 (if 12 < d then 1000 else xs.foldl (stepW 40 fun x => wrap64 (f (yGT x) (wrap64 (d + 1)) + g (yJB x) (wrap64 (d + 1)))) xs.length)) ∧ yAJ w w'
 rw [hG]; obtain ⟨z, hz⟩ := je ((if 12 < d then (1000 : Int) else xs.foldl (stepW 40 G) xs.length)); rw [hz]; have HL := jh hF.len; have HF := jh hF; have HK := jh hk; have HX := jh hX; have HT := jh hT; have HG := jh hG; by_cases hd12 : 12 < d
 ·rw [if_pos hd12] at hz; subst hz; clear hF hk hX hT hG; go_enter Tryz.func43, Tryz.ntmps43; go_wp2_with fail; go_ret; exact ⟨rfl, yAJ.refl _⟩
 ·rw [if_neg hd12, hF.len] at hz; have HZ := jh hz; clear hF hk hX hT hz hG; go_enter Tryz.func43, Tryz.ntmps43; go_wp2_with fail; go_loopw [5, 6] (fun s i wr => ∃ (q : Nat) (m : Int), i = .int .i64 q ∧ q ≤ n ∧ s = .int .i64 m ∧ yAJ w wr ∧ Hid (m = (xs.take q).foldl (stepW 40 G) (n : Int))) (fun _ i _ => n - (intOf i).toNat)
  case atStart => exact ⟨0, n, rfl, jz _, rfl, yAJ.refl _, jh rfl⟩
  case round =>
   obtain ⟨q, m, rfl, hq, rfl, hd, HM⟩ := hrel; by_cases hqn : q < n
   ·have hqn' : (q : Int) < n := by omega
    by_cases hm : m ≤ 40
    ·obtain ⟨b, o, op, args, sts, nm, cmp, txt, num, a1, n1, c1, a2, n2, c2, rfl, hbb, hel, f0, f1, f2, f3, f4, f5, f6, hF1, hF2⟩ := (HF.out.below (hd.below _)).elem q hqn; have hsm := yB0 hel; simp only [Ex.mk.sizeOf_spec] at hsm; have hNX := yAT hel; obtain ⟨s1, hs1⟩ := je (f args (wrap64 (d + 1))); obtain ⟨s2, hs2⟩ := je (g sts (wrap64 (d + 1))); have HC1 := jh (fun j => HX.out args a1 n1 c1 (wrap64 (d + 1)) (wr.drewN j) (by have := HK.out; omega) (hF1.below (((yAJ.refl wr).drewN j).below _))); have HC2 := jh (fun j => HT.out sts a2 n2 c2 (wrap64 (d + 1)) (wr.drewN j) (by have := HK.out; omega) (hF2.below (((yAJ.refl wr).drewN j).below _))); have HN := jh (show wrap64 (m + wrap64 (s1 + s2)) = (xs.take (q + 1)).foldl (stepW 40 G) (n : Int) by rw [hNX, List.foldl_append, ← HM.out, ← HG.out, ← hs1, ← hs2]; show _ = stepW 40 _ m _; unfold stepW; rw [if_pos hm]; rfl); simp only [hs1] at HC1; simp only [hs2] at HC2; clear hel hsm hNX HM hs1 hs2 hF1 hF2 hbb; go_wp2; go_quiet (first | (with_reducible exact Calls.quiet_of (HC1.out _)) | (with_reducible exact Calls.quiet_of (HC2.out _))); go_wp2; go_roundw
     case rel => exact ⟨q + 1, _, by go_num, by omega, rfl, hd.drewN _, HN⟩
     case measure => simp [intOf]; omega
    ·have HE := jh (show m = z by have h1 := HZ.out; rw [← List.take_append_drop q xs, List.foldl_append, ← HM.out, yE7 hm] at h1; exact h1); clear HM; go_wp2_with fail; go_ret; exact ⟨by rw [← HE.out]; rfl, hd⟩
   ·obtain rfl : q = n := by omega
    have HE := jh (show m = z by have h := HM.out; rw [jm (by rw [HL.out]; exact jr _)] at h; rw [h]; exact HZ.out); clear HM; go_wp2_with fail; go_ret; exact ⟨by rw [← HE.out]; rfl, hd⟩
theorem ySy (k : Nat) {f : List Ex → Int → Int} (hX : LX k f) : LT (k + 1) fun xs d => if 12 < d then 1000 else xs.foldl (stepW 40 fun x => f (yHx x) (wrap64 (d + 1))) xs.length := by
 intro xs a n cap d w hk hF; have hcm := hF.cap_le; have hle := hF.le; have hnb : n ≤ 9223372036854775807 := by unfold maxLen at hcm; omega
 obtain ⟨G, hG⟩ := je ((fun x => f (yHx x) (wrap64 (d + 1))) : St → Int); show Calls _ _ _ _ fun e w' => e = .returned (.int .i64 (if 12 < d then 1000 else xs.foldl (stepW 40 fun x => f (yHx x) (wrap64 (d + 1))) xs.length)) ∧ yAJ w w'
 rw [hG]; obtain ⟨z, hz⟩ := je ((if 12 < d then (1000 : Int) else xs.foldl (stepW 40 G) xs.length)); rw [hz]; have HL := jh hF.len; have HF := jh hF; have HK := jh hk; have HX := jh hX; have HG := jh hG; by_cases hd12 : 12 < d
 ·rw [if_pos hd12] at hz; subst hz; clear hF hk hX hG; go_enter Tryz.func22, Tryz.ntmps22; go_wp2_with fail; go_ret; exact ⟨rfl, yAJ.refl _⟩
 ·rw [if_neg hd12, hF.len] at hz; have HZ := jh hz; clear hF hk hX hz hG; go_enter Tryz.func22, Tryz.ntmps22; go_wp2_with fail; go_loopw [5, 6] (fun s i wr => ∃ (q : Nat) (m : Int), i = .int .i64 q ∧ q ≤ n ∧ s = .int .i64 m ∧ yAJ w wr ∧ Hid (m = (xs.take q).foldl (stepW 40 G) (n : Int))) (fun _ i _ => n - (intOf i).toNat)
  case atStart => exact ⟨0, n, rfl, jz _, rfl, yAJ.refl _, jh rfl⟩
  case round =>
   obtain ⟨q, m, rfl, hq, rfl, hd, HM⟩ := hrel; by_cases hqn : q < n
   ·have hqn' : (q : Int) < n := by omega
    by_cases hm : m ≤ 40
    ·obtain ⟨b, o, ax, ts, nm, wh, a1, n1, c1, rfl, hbb, hel, d0, d1, d2, d3, hF1⟩ := (HF.out.below (hd.below _)).elem q hqn; have hsm := yDa hel; simp only [St.mk.sizeOf_spec] at hsm; have hNX := yAT hel; obtain ⟨s1, hs1⟩ := je (f wh (wrap64 (d + 1))); have HC1 := jh (HX.out wh a1 n1 c1 (wrap64 (d + 1)) wr (by have := HK.out; omega) hF1); have HN := jh (show wrap64 (m + s1) = (xs.take (q + 1)).foldl (stepW 40 G) (n : Int) by rw [hNX, List.foldl_append, ← HM.out, ← HG.out, ← hs1]; show _ = stepW 40 _ m _; unfold stepW; rw [if_pos hm]; rfl); rw [hs1] at HC1; clear hel hsm hNX HM hs1 hF1 hbb; go_wp2_with fail; refine HC1.out.mono ?_; rintro e w1 ⟨rfl, d1⟩; have hd2 := hd.trans d1; go_wp2_with fail; go_roundw
     case rel => exact ⟨q + 1, _, by go_num, by omega, rfl, hd2, HN⟩
     case measure => simp [intOf]; omega
    ·have HE := jh (show m = z by have h1 := HZ.out; rw [← List.take_append_drop q xs, List.foldl_append, ← HM.out, yE7 hm] at h1; exact h1); clear HM; go_wp2_with fail; go_ret; exact ⟨by rw [← HE.out]; rfl, hd⟩
   ·obtain rfl : q = n := by omega
    have HE := jh (show m = z by have h := HM.out; rw [jm (by rw [HL.out]; exact jr _)] at h; rw [h]; exact HZ.out); clear HM; go_wp2_with fail; go_ret; exact ⟨by rw [← HE.out]; rfl, hd⟩
theorem yKe : ∀ k, ∃ f g, LX k f ∧ LT k g
 | 0 => ⟨fun _ _ => 0, fun _ _ => 0, fun xs _ _ _ _ _ hk => absurd hk (by cases xs <;> simp), fun xs _ _ _ _ _ hk => absurd hk (by cases xs <;> simp)⟩
 | k + 1 => by obtain ⟨f, g, h1, h2⟩ := yKe k; exact ⟨_, _, ySl k h1 h2, ySy k h1⟩
def WX (k : Nat) (f : List Ex → Int → Int) : Prop := ∀ (xs : List Ex) (a : Option Addr) (n cap : Nat) (d : Int) (w : World), SizeOf.sizeOf xs ≤ k → yAM w xs a n cap →
 Calls Tryz.prog 73 #[.slice a n cap, .int .i64 d] w fun e w' => e = .returned (.int .i64 (f xs d)) ∧ yAJ w w'
def WT (k : Nat) (f : List St → Int → Int) : Prop := ∀ (xs : List St) (a : Option Addr) (n cap : Nat) (d : Int) (w : World), SizeOf.sizeOf xs ≤ k → yAH w xs a n cap →
 Calls Tryz.prog 44 #[.slice a n cap, .int .i64 d] w fun e w' => e = .returned (.int .i64 (f xs d)) ∧ yAJ w w'
def yDf {α : Type} (B d : Int) (g : α → Int) (s : Int × Option Int) (x : α) : Int × Option Int :=
 if s.2.isSome then s else if s.1 ≤ B then (if B < g x then (s.1, some (g x)) else (wrap64 (s.1 + wrap64 (d * g x)), none)) else s
theorem yKc {α : Type} {B d : Int} {g : α → Int} {s : Int × Option Int} (h : s.2.isSome = true) : ∀ l : List α, l.foldl (yDf B d g) s = s
 | [] => rfl
 | x :: l => by rw [List.foldl_cons]; unfold yDf; rw [if_pos h]; exact yKc h l
theorem yOD {α : Type} {B d : Int} {g : α → Int} {m : Int} (h : ¬ m ≤ B) : ∀ l : List α, l.foldl (yDf B d g) (m, none) = (m, none)
 | [] => rfl
 | x :: l => by rw [List.foldl_cons]; unfold yDf; rw [if_neg (by simp), if_neg h]; exact yOD h l
theorem ySo (k : Nat) {f : List Ex → Int → Int} {g : List St → Int → Int} (hX : WX k f) (hT : WT k g) : WX (k + 1) fun xs d => xs.foldl (stepW 16777216 fun x => wrap64 (wrap64 (1 + f (yGT x) d) + g (yJB x) d)) 0 := by
 intro xs a n cap d w hk hF; have hcm := hF.cap_le; have hle := hF.le; have hnb : n ≤ 9223372036854775807 := by unfold maxLen at hcm; omega
 obtain ⟨G, hG⟩ := je ((fun x => wrap64 (wrap64 (1 + f (yGT x) d) + g (yJB x) d)) : Ex → Int); show Calls _ _ _ _ fun e w' => e = .returned (.int .i64 (xs.foldl (stepW 16777216 fun x => wrap64 (wrap64 (1 + f (yGT x) d) + g (yJB x) d)) 0)) ∧ yAJ w w'
 rw [hG]; obtain ⟨z, hz⟩ := je ((xs.foldl (stepW 16777216 G) 0)); rw [hz]; have HL := jh hF.len; have HF := jh hF; have HK := jh hk; have HX := jh hX; have HT := jh hT; have HG := jh hG; have HZ := jh hz; clear hF hk hX hT hz hG; go_enter Tryz.func73, Tryz.ntmps73; go_wp2_with fail; go_loopw [5, 6] (fun s i wr => ∃ (q : Nat) (m : Int), i = .int .i64 q ∧ q ≤ n ∧ s = .int .i64 m ∧ yAJ w wr ∧ Hid (m = (xs.take q).foldl (stepW 16777216 G) (0 : Int))) (fun _ i _ => n - (intOf i).toNat)
 case atStart => exact ⟨0, 0, rfl, jz _, rfl, yAJ.refl _, jh rfl⟩
 case round =>
  obtain ⟨q, m, rfl, hq, rfl, hd, HM⟩ := hrel; by_cases hqn : q < n
  ·have hqn' : (q : Int) < n := by omega
   by_cases hm : m ≤ 16777216
   ·obtain ⟨b, o, op, args, sts, nm, cmp, txt, num, a1, n1, c1, a2, n2, c2, rfl, hbb, hel, f0, f1, f2, f3, f4, f5, f6, hF1, hF2⟩ := (HF.out.below (hd.below _)).elem q hqn; have hsm := yB0 hel; simp only [Ex.mk.sizeOf_spec] at hsm; have hNX := yAT hel; obtain ⟨s1, hs1⟩ := je (f args d); obtain ⟨s2, hs2⟩ := je (g sts d); have HC1 := jh (fun j => HX.out args a1 n1 c1 d (wr.drewN j) (by have := HK.out; omega) (hF1.below (((yAJ.refl wr).drewN j).below _))); have HC2 := jh (fun j => HT.out sts a2 n2 c2 d (wr.drewN j) (by have := HK.out; omega) (hF2.below (((yAJ.refl wr).drewN j).below _))); have HN := jh (show wrap64 (m + wrap64 (wrap64 (1 + s1) + s2)) = (xs.take (q + 1)).foldl (stepW 16777216 G) (0 : Int) by rw [hNX, List.foldl_append, ← HM.out, ← HG.out, ← hs1, ← hs2]; show _ = stepW 16777216 _ m _; unfold stepW; rw [if_pos hm]; rfl); simp only [hs1] at HC1; simp only [hs2] at HC2; clear hel hsm hNX HM hs1 hs2 hF1 hF2 hbb; go_wp2; go_quiet (first | (with_reducible exact Calls.quiet_of (HC1.out _)) | (with_reducible exact Calls.quiet_of (HC2.out _))); go_wp2; go_roundw
    case rel => exact ⟨q + 1, _, by go_num, by omega, rfl, hd.drewN _, HN⟩
    case measure => simp [intOf]; omega
   ·have HE := jh (show m = z by have h1 := HZ.out; rw [← List.take_append_drop q xs, List.foldl_append, ← HM.out, yE7 hm] at h1; exact h1); clear HM; go_wp2_with fail; go_ret; exact ⟨by rw [← HE.out]; rfl, hd⟩
  ·obtain rfl : q = n := by omega
   have HE := jh (show m = z by have h := HM.out; rw [jm (by rw [HL.out]; exact jr _)] at h; rw [h]; exact HZ.out); clear HM; go_wp2_with fail; go_ret; exact ⟨by rw [← HE.out]; rfl, hd⟩
theorem ySh (k : Nat) {f : List Ex → Int → Int} (hX : WX k f) : WT (k + 1) fun xs d => (xs.foldl (yDf 16777216 d fun x => wrap64 (1 + f (yHx x) d)) (0, none)).2.getD (xs.foldl (yDf 16777216 d fun x => wrap64 (1 + f (yHx x) d)) (0, none)).1 := by
 intro xs a n cap d w hk hF; have hcm := hF.cap_le; have hle := hF.le; have hnb : n ≤ 9223372036854775807 := by unfold maxLen at hcm; omega
 obtain ⟨G, hG⟩ := je ((fun x => wrap64 (1 + f (yHx x) d)) : St → Int); show Calls _ _ _ _ fun e w' => e = .returned (.int .i64 ((xs.foldl (yDf 16777216 d fun x => wrap64 (1 + f (yHx x) d)) (0, none)).2.getD (xs.foldl (yDf 16777216 d fun x => wrap64 (1 + f (yHx x) d)) (0, none)).1)) ∧ yAJ w w'
 rw [hG]; obtain ⟨z, hz⟩ := je ((xs.foldl (yDf 16777216 d G) (0, none)).2.getD (xs.foldl (yDf 16777216 d G) (0, none)).1); rw [hz]; have HL := jh hF.len; have HF := jh hF; have HK := jh hk; have HX := jh hX; have HG := jh hG; have HZ := jh hz; clear hF hk hX hz hG; go_enter Tryz.func44, Tryz.ntmps44; go_wp2_with fail; go_loopw [5, 6] (fun s i wr => ∃ (q : Nat) (m : Int), i = .int .i64 q ∧ q ≤ n ∧ s = .int .i64 m ∧ yAJ w wr ∧ Hid ((m, none) = (xs.take q).foldl (yDf 16777216 d G) (0, none))) (fun _ i _ => n - (intOf i).toNat)
 case atStart => exact ⟨0, 0, rfl, jz _, rfl, yAJ.refl _, jh rfl⟩
 case round =>
  obtain ⟨q, m, rfl, hq, rfl, hd, HM⟩ := hrel; by_cases hqn : q < n
  ·have hqn' : (q : Int) < n := by omega
   by_cases hm : m ≤ 16777216
   ·obtain ⟨b, o, ax, ts, nm, wh, a1, n1, c1, rfl, hbb, hel, d0, d1, d2, d3, hF1⟩ := (HF.out.below (hd.below _)).elem q hqn; have hsm := yDa hel; simp only [St.mk.sizeOf_spec] at hsm; have hNX := yAT hel; obtain ⟨s1, hs1⟩ := je (f wh d); have HC1 := jh (HX.out wh a1 n1 c1 d wr (by have := HK.out; omega) hF1); have HN := jh (show (xs.take (q + 1)).foldl (yDf 16777216 d G) (0, none) = if 16777216 < wrap64 (1 + s1) then (m, some (wrap64 (1 + s1))) else (wrap64 (m + wrap64 (d * wrap64 (1 + s1))), none) by rw [hNX, List.foldl_append, ← HM.out, ← HG.out, ← hs1]; show yDf _ _ _ (m, none) _ = _; unfold yDf; rw [if_neg (by simp), if_pos hm]; rfl); rw [hs1] at HC1; obtain ⟨t, ht⟩ := je (wrap64 (1 + s1)); rw [ht] at HN; clear hel hsm hNX HM hs1 hF1 hbb; go_wp2_with fail; refine HC1.out.mono ?_; rintro e w1 ⟨rfl, d1⟩; have hd2 := hd.trans d1; by_cases ht9 : 16777216 < t
    ·have HE := jh (show t = z by have h1 := HZ.out; have h2 := HN.out; rw [if_pos ht9] at h2; rw [← List.take_append_drop (q + 1) xs, List.foldl_append, h2, yKc (by rfl)] at h1; exact h1); go_wp2_with fail; go_ret; exact ⟨by rw [← HE.out, ← ht]; rfl, hd2⟩
    ·have HN2 := jh (show (wrap64 (m + wrap64 (d * t)), none) = (xs.take (q + 1)).foldl (yDf 16777216 d G) (0, none) by rw [HN.out, if_neg ht9]); clear HN; go_wp2_with fail; go_roundw
     case rel => exact ⟨q + 1, _, by go_num, by omega, rfl, hd2, HN2⟩
     case measure => simp [intOf]; omega
   ·have HE := jh (show m = z by have h1 := HZ.out; rw [← List.take_append_drop q xs, List.foldl_append, ← HM.out, yOD hm] at h1; exact h1); clear HM; go_wp2_with fail; go_ret; exact ⟨by rw [← HE.out]; rfl, hd⟩
  ·obtain rfl : q = n := by omega
   have HE := jh (show m = z by have h := HM.out; rw [jm (by rw [HL.out]; exact jr _)] at h; have h1 := HZ.out; rw [← h] at h1; exact h1); clear HM; go_wp2_with fail; go_ret; exact ⟨by rw [← HE.out]; rfl, hd⟩
theorem yMX : ∀ k, ∃ f g, WX k f ∧ WT k g
 | 0 => ⟨fun _ _ => 0, fun _ _ => 0, fun xs _ _ _ _ _ hk => absurd hk (by cases xs <;> simp), fun xs _ _ _ _ _ hk => absurd hk (by cases xs <;> simp)⟩
 | k + 1 => by obtain ⟨f, g, h1, h2⟩ := yMX k; exact ⟨_, _, ySo k h1 h2, ySh k h1⟩
theorem yMa (sts : List St) (a : Option Addr) (n cap : Nat) (w : World) (hF : yAH w sts a n cap) :
  Calls Tryz.prog 23 #[.agg #[.slice a n cap], .int .i64 60] w fun e w' => (∃ b, e = .returned (.bool b)) ∧ Below w.heap.size w w' := by have b0 : Below w.heap.size w (w.alloc (.cells #[.slice a n cap] 25)) := (jf _ _).alloc (jr _) _; obtain ⟨_, g, _, hg⟩ := yMX (SizeOf.sizeOf sts); have hC := hg sts a n cap 61 _ (jr _) (hF.below b0); obtain ⟨r, hr⟩ := je (g sts 61); rw [hr] at hC; have HB := jh b0; clear hr hF b0 hg; go_enter Tryz.func23, Tryz.ntmps23; go_wp2_with fail; refine hC.mono ?_; rintro e w1 ⟨rfl, d1⟩; have HB1 := jh (HB.out.trans ((d1.below _).mono HB.out.size)); clear hC d1; go_wp2_with fail; go_ret; exact ⟨⟨_, rfl⟩, HB1.out⟩
theorem yMp (sts : List St) (a : Option Addr) (n cap : Nat) (w : World) (hF : yAH w sts a n cap) :
  Calls Tryz.prog 9 #[.agg #[.slice a n cap]] w fun e w' => (∃ b, e = .returned (.bool b)) ∧ Below w.heap.size w w' := by
 obtain ⟨W1, hW1⟩ := je (w.alloc (.cells #[.slice a n cap] 25)); have b0 : Below w.heap.size w W1 := by rw [← hW1]; exact (jf _ _).alloc (jr _) _
 obtain ⟨X, hX⟩ := je (w.heap.size); have hx : W1.heap[X]? = some (.cells #[.slice a n cap] 25) := by rw [← hW1, ← hX]; exact jw _ _
 have hXs : X < W1.heap.size := jl hx; have x0 := jc hx 0 rfl; obtain ⟨_, g, _, hg⟩ := yKe (SizeOf.sizeOf sts); have hC := hg sts a n cap 0 W1 (jr _) (hF.below b0); obtain ⟨r, hr⟩ := je (g sts 0); rw [hr] at hC; have HF := jh hF; have HB := jh b0; have HW := jh hW1; have HX := jh hX; clear hr hF b0 hg hW1 hx; go_enter Tryz.func9, Tryz.ntmps9; go_wp2_with fail; rw [HW.out]; clear hX; refine hC.mono ?_; rintro e w1 ⟨rfl, d1⟩; have HB1 := jh (HB.out.trans ((d1.below _).mono HB.out.size)); have x1 : w1.cell? ⟨X, 0, none⟩ = some (.slice a n cap) := ((d1.below W1.heap.size).cell (p := ⟨X, 0, none⟩) hXs).trans x0; clear hC d1 x0; by_cases hr4 : r ≤ 40
 ·go_wp2_with fail; refine (yMa sts a n cap w1 (HF.out.below HB1.out)).mono ?_; rintro e w2 ⟨⟨b, rfl⟩, b2⟩; have HB2 := jh (HB1.out.trans (b2.mono HB1.out.size)); clear b2; go_wp2_with fail; go_ret; exact ⟨⟨_, rfl⟩, HB2.out⟩
 ·go_wp2_with fail; go_ret; exact ⟨.inl rfl, HB1.out⟩
end Go.Proofs.YtkhejkfjhddobaaGreatDoor
