/- A Hunt in memory. -/
import Derived.Test.YtkhejkfjhddobaaGreatDoorKmpM
set_option maxHeartbeats 1000000
namespace Gim
open Go Go.RowKit
structure Fr (p : Nat → Prop) (w w' : World) : Prop where
 os : w'.os = w.os
 tape : w'.tape = w.tape
 output : w'.output = w.output
 size : w.heap.size ≤ w'.heap.size
 block : ∀ j, j < w.heap.size → ¬ p j → w'.heap[j]? = w.heap[j]?
theorem Fr.refl (p : Nat → Prop) (w : World) : Fr p w w := ⟨rfl, rfl, rfl, jr _, fun _ _ _ => rfl⟩
theorem Fr.trans {p : Nat → Prop} {a b c : World} (h : Fr p a b) (k : Fr p b c) : Fr p a c :=
 ⟨k.os.trans h.os, k.tape.trans h.tape, k.output.trans h.output, ju h.size k.size, fun j hj hp => (k.block j (jt hj h.size) hp).trans (h.block j hj hp)⟩
theorem Fr.mono {p q : Nat → Prop} {a b : World} (h : Fr p a b) (hq : ∀ j, p j → q j) : Fr q a b := ⟨h.os, h.tape, h.output, h.size, fun j hj hp => h.block j hj (fun k => hp (hq j k))⟩
theorem Fr.of {p : Nat → Prop} {a b : World} (h : Below a.heap.size a b) : Fr p a b := ⟨h.os, h.tape, h.output, h.size, fun j hj _ => h.block j hj⟩
theorem Fr.below {p : Nat → Prop} {a b : World} (h : Fr p a b) {B : Nat} (hB : B ≤ a.heap.size) (hp : ∀ j, p j → B ≤ j) : Below B a b :=
 ⟨h.os, h.tape, h.output, h.size, fun j hj => h.block j (by omega) (fun k => by have := hp j k; omega)⟩
theorem Fr.drewN {p : Nat → Prop} {a b : World} (h : Fr p a b) (n : Nat) : Fr p a (b.drewN n) := h.trans (.of (((yAJ.refl b).drewN n).below _))
theorem Fr.set {p : Nat → Prop} {a b : World} (h : Fr p a b) (D i : Nat) (v : Value) (hD : p D) : Fr p a (b.setCell ⟨D, i, none⟩ v) :=
 h.trans ⟨rfl, rfl, rfl, by simp [World.setCell], fun j _ hj => by simp only [World.setCell, Array.getElem?_modify]; rw [if_neg (fun e => hj (by rw [← e]; exact hD))]⟩
theorem Row.fr {p : Nat → Prop} {w w' : World} {B : Nat} {e : TypeId} {k : IntKind} {v : Value} {xs : List Int} (h : Row w B e k v xs) (hf : Fr p w w') (ho : ∀ g, B ≤ g → ¬ p g) : Row w' B e k v xs := by
 unfold Row World.ownsRow at *
 refine ⟨h.1, ?_⟩; rcases h.2 with h2 | ⟨g, cap, cur, h1, h2, h3, h4⟩
 ·exact .inl h2
 ·refine .inr ⟨g, cap, cur, h1, h2, ?_, h4⟩; rw [hf.block g (jl h3) (ho g h2)]; exact h3
theorem yEJ {w : World} {D i : Nat} {a : Array Value} {t : TypeId} (h : w.heap[D]? = some (.cells a t)) (u : Value) : (w.setCell ⟨D, i, none⟩ u).heap[D]? = some (.cells (a.setIfInBounds i u) t) := by
 have hz := jl h; have hg := (jj.1 h).2; have hz2 : D < (w.setCell ⟨D, i, none⟩ u).heap.size := by simp [World.setCell, hz]
 rw [Array.getElem?_eq_getElem hz2]; simp only [World.setCell, Array.getElem_modify, hg]; simp
end Gim
namespace Go.Proofs.YtkhejkfjhddobaaGreatDoor
open Go.RowKit Gim
structure Hm (w : World) (B H : Nat) (c num : Int) (T : List Int) (tv bv : Value) (came k : Nat) (off fnd whole : Bool) : Prop where
 hH : w.heap[H]? = some (.cells #[.int .i64 c, tv, bv, .int .i64 num, .int .i64 came, .int .i64 k, .bool off, .bool fnd, .bool whole] 158)
 rt : Row w B 21 .i32 tv T
 rb : Row w B 3 .i64 bv (brs T)
 lt : H < B
 le : B ≤ w.heap.size
theorem Hm.fr {p : Nat → Prop} {w w' : World} {B H : Nat} {c num : Int} {T : List Int} {tv bv : Value} {came k : Nat} {off fnd whole : Bool} (h : Hm w B H c num T tv bv came k off fnd whole) (hf : Fr p w w') (hH : ¬ p H) (ho : ∀ g, B ≤ g → ¬ p g) : Hm w' B H c num T tv bv came k off fnd whole :=
 ⟨(hf.block H (jl h.hH) hH).trans h.hH, h.rt.fr hf ho, h.rb.fr hf ho, h.lt, ju h.le hf.size⟩
theorem Hm.set {w w' : World} {B H : Nat} {c num : Int} {T : List Int} {tv bv : Value} {came k : Nat} {off fnd whole : Bool} (h : Hm w B H c num T tv bv came k off fnd whole) (hf : Fr (fun j => j = H) w w') {came' k' : Nat} {off' fnd' whole' : Bool}
  (hH : w'.heap[H]? = some (.cells #[.int .i64 c, tv, bv, .int .i64 num, .int .i64 came', .int .i64 k', .bool off', .bool fnd', .bool whole'] 158)) : Hm w' B H c num T tv bv came' k' off' fnd' whole' :=
 ⟨hH, h.rt.fr hf (fun g hg e => by have := h.lt; have e : g = H := e; omega), h.rb.fr hf (fun g hg e => by have := h.lt; have e : g = H := e; omega), h.lt, ju h.le hf.size⟩
theorem Hm.drewN {w : World} {B H : Nat} {c num : Int} {T : List Int} {tv bv : Value} {came k : Nat} {off fnd whole : Bool} (h : Hm w B H c num T tv bv came k off fnd whole) (n : Nat) : Hm (w.drewN n) B H c num T tv bv came k off fnd whole := ⟨h.hH, h.rt, h.rb, h.lt, h.le⟩
theorem Hm.k5 {w : World} {B H : Nat} {c num : Int} {T : List Int} {tv bv : Value} {came k : Nat} {off fnd whole : Bool} (h : Hm w B H c num T tv bv came k off fnd whole) : w.cell? ⟨H, 5, none⟩ = some (.int .i64 k) := by simp [World.cell?, h.hH]
theorem Hm.setCame {w : World} {B H : Nat} {c num : Int} {T : List Int} {tv bv : Value} {came k : Nat} {off fnd whole : Bool} (h : Hm w B H c num T tv bv came k off fnd whole) (z : Int) (n : Nat) (hz : z = n) : Hm (w.setCell ⟨H, 4, none⟩ (.int .i64 z)) B H c num T tv bv n k off fnd whole := by subst hz; exact h.set ((Fr.refl _ _).set H 4 _ rfl) (by rw [yEJ h.hH]; rfl)
theorem Hm.setK {w : World} {B H : Nat} {c num : Int} {T : List Int} {tv bv : Value} {came k : Nat} {off fnd whole : Bool} (h : Hm w B H c num T tv bv came k off fnd whole) (z : Int) (n : Nat) (hz : z = n) : Hm (w.setCell ⟨H, 5, none⟩ (.int .i64 z)) B H c num T tv bv came n off fnd whole := by subst hz; exact h.set ((Fr.refl _ _).set H 5 _ rfl) (by rw [yEJ h.hH]; rfl)
theorem Hm.setOff {w : World} {B H : Nat} {c num : Int} {T : List Int} {tv bv : Value} {came k : Nat} {off fnd whole : Bool} (h : Hm w B H c num T tv bv came k off fnd whole) (b : Bool) : Hm (w.setCell ⟨H, 6, none⟩ (.bool b)) B H c num T tv bv came k b fnd whole :=
 h.set ((Fr.refl _ _).set H 6 _ rfl) (by rw [yEJ h.hH]; rfl)
theorem Hm.setFnd {w : World} {B H : Nat} {c num : Int} {T : List Int} {tv bv : Value} {came k : Nat} {off fnd whole : Bool} (h : Hm w B H c num T tv bv came k off fnd whole) (b : Bool) : Hm (w.setCell ⟨H, 7, none⟩ (.bool b)) B H c num T tv bv came k off b whole :=
 h.set ((Fr.refl _ _).set H 7 _ rfl) (by rw [yEJ h.hH]; rfl)
end Go.Proofs.YtkhejkfjhddobaaGreatDoor
namespace Gim
def yAx (holds never whole : Bool) : Int := if holds then 2 else if never || whole then 0 else 1
def yCH (c num : Int) (n came k : Nat) (off fnd whole : Bool) : Int :=
 if c = 0 then 2
 else if c = 1 then yAx (whole && decide (came = n) && !off) (off || decide (n < came)) whole
 else if c = 2 then 2 - yAx (whole && decide (came = n) && !off) (off || decide (n < came)) whole
 else if c = 3 then yAx (!off && decide (n ≤ came)) off whole
 else if c = 4 then yAx (whole && decide (k = n)) false whole
 else if c = 5 then yAx fnd false whole
 else if c = 6 then yAx (whole && decide ((came : Int) = num)) (decide (num < came)) whole
 else if c = 7 then yAx (decide (num < came)) false whole
 else yAx (whole && decide ((came : Int) < num)) (decide (num ≤ came)) whole
theorem yMh (a b w : Bool) : 0 ≤ yAx a b w ∧ yAx a b w ≤ 2 := by
 unfold yAx
 repeat' split
 all_goals omega
end Gim
namespace Go.Proofs.YtkhejkfjhddobaaGreatDoor
open Go.RowKit Gim
theorem yIs (w : World) (H : Nat) (a b : Bool) (x0 x1 x2 x3 x4 x5 x6 x7 : Value) (whole : Bool) (hH : w.heap[H]? = some (.cells #[x0, x1, x2, x3, x4, x5, x6, x7, .bool whole] 158)) :
  Calls Tryz.prog 123 #[.pointer (some ⟨H, 0, none⟩), .bool a, .bool b] w fun e w' => e = .returned (.int .i64 (yAx a b whole)) ∧ w' = w := by
 have c8 := jc hH 8 rfl; cases a <;> cases b <;> cases whole
 all_goals
  go_enter Tryz.func123, Tryz.ntmps123; go_wp2; go_ret; exact ⟨rfl, rfl⟩
theorem yQi (w : World) (z : Int) (h0 : 0 ≤ z) (h2 : z ≤ 2) : Calls Tryz.prog 103 #[.int .i64 z] w fun e w' => e = .returned (.int .i64 (2 - z)) ∧ w' = w := by
 have cG : ∀ wx, Calls Tryz.prog 126 #[.int .i64 z] wx fun e w' => e = .returned (.bool true) ∧ w' = wx := fun wx => by go_enter Tryz.func126, Tryz.ntmps126; go_wp2; go_ret; exact ⟨rfl, rfl⟩
 have cS : ∀ wx, Calls Tryz.prog 107 #[.int .i64 z] wx fun e w' => e = .returned (.int .i64 z) ∧ w' = wx := fun wx => by go_enter Tryz.func107, Tryz.ntmps107; go_wp2_with fail; refine (cG _).mono ?_; rintro e w1 ⟨rfl, rfl⟩; go_wp2; go_ret; exact ⟨rfl, rfl⟩
 go_enter Tryz.func103, Tryz.ntmps103; go_wp2_with fail; refine (cS _).mono ?_; rintro e w1 ⟨rfl, rfl⟩; go_wp2; go_ret; exact ⟨rfl, rfl⟩
theorem yLv (w : World) (B H : Nat) (c num : Int) (T : List Int) (tv bv : Value) (came k : Nat) (off fnd whole : Bool) (h : Hm w B H c num T tv bv came k off fnd whole) :
  Calls Tryz.prog 122 #[.pointer (some ⟨H, 0, none⟩)] w fun e w' => e = .returned (.int .i64 (yAx (whole && decide (came = T.length) && !off) (off || decide (T.length < came)) whole)) ∧ ∃ m, w' = w.drewN m := by
 obtain ⟨ao, cap, rfl, rd⟩ := h.rt.rd; have c1 := jc h.hH 1 rfl; have c4 := jc h.hH 4 rfl; have c6 := jc h.hH 6 rfl; have c8 := jc h.hH 8 rfl; have t1 : (((came : Nat) : Int) == ((T.length : Nat) : Int)) = decide (came = T.length) := by
  by_cases h : came = T.length
  ·simp [h]
  ·simp only [h, decide_false]; exact jn.2 (by omega)
 have t2 : decide (((T.length : Nat) : Int) < ((came : Nat) : Int)) = decide (T.length < came) := decide_eq_decide.2 (by omega); have hT : ∀ a b n, Calls Tryz.prog 123 #[.pointer (some ⟨H, 0, none⟩), .bool a, .bool b] (w.drewN n) fun e w' => e = .returned (.int .i64 (yAx a b whole)) ∧ w' = w.drewN n := fun a b n => yIs (w.drewN n) H a b _ _ _ _ _ _ _ _ whole h.hH
 have HT := jh hT; clear hT; obtain ⟨b1, hb1⟩ : ∃ b, decide (came = T.length) = b := ⟨_, rfl⟩
 obtain ⟨b2, hb2⟩ : ∃ b, decide (T.length < came) = b := ⟨_, rfl⟩
 rw [hb1] at t1; rw [hb2] at t2; rw [hb1, hb2]; go_enter Tryz.func122, Tryz.ntmps122; cases whole <;> cases off <;> cases b1 <;> cases b2
 all_goals
  go_wp2; go_quiet ((exact Calls.quiet_of_same (HT.out _ _ _))); go_wp2; go_ret; exact ⟨by simp_all, _, rfl⟩
def Closes (w : World) (B H : Nat) (c num : Int) (T : List Int) (tv bv : Value) (came k : Nat) (off fnd whole : Bool) (e : Ending) (w' : World) : Prop :=
 e = .returned (.int .i64 (if whole then 5 else 0)) ∧ Hm w' B H c num T tv bv came k off fnd true ∧ Fr (fun j => j = H) w w'
theorem yLH (w : World) (B H : Nat) (c num : Int) (T : List Int) (tv bv : Value) (came k : Nat) (off fnd whole : Bool) (h : Hm w B H c num T tv bv came k off fnd whole) :
  Calls Tryz.prog 99 #[.pointer (some ⟨H, 0, none⟩)] w (Closes w B H c num T tv bv came k off fnd whole) := by
 have c8 := jc h.hH 8 rfl; have hfz : w.frozen? ⟨H, 8, none⟩ = false := by simp [World.frozen?, h.hH]
 cases whole with
 | true =>
  go_enter Tryz.func99, Tryz.ntmps99; go_wp2; go_ret; exact ⟨rfl, h, .refl _ _⟩
 | false =>
  have hS : Closes w B H c num T tv bv came k off fnd false (.returned (.int .i64 0)) (w.setCell ⟨H, 8, none⟩ (.bool true)) :=
   ⟨rfl, h.set ((Fr.refl _ _).set H 8 _ rfl) (by rw [yEJ h.hH]; rfl), (Fr.refl _ _).set H 8 _ rfl⟩
  go_enter Tryz.func99, Tryz.ntmps99; go_wp2; go_ret; exact hS
theorem yQg (w : World) : Calls Tryz.prog 100 #[.pointer none] w (fun e w' => e = .returned (.int .i64 0) ∧ w' = w) := by go_enter Tryz.func100, Tryz.ntmps100; go_wp2; go_ret; exact ⟨by simp, rfl⟩
end Go.Proofs.YtkhejkfjhddobaaGreatDoor
namespace Gim
theorem yTq (num : Int) (n came k : Nat) (off fnd whole : Bool) : yCH 0 num n came k off fnd whole = 2 := rfl
theorem yTa (num : Int) (n came k : Nat) (off fnd whole : Bool) : yCH 1 num n came k off fnd whole = yAx (whole && decide (came = n) && !off) (off || decide (n < came)) whole := rfl
theorem yS0 (num : Int) (n came k : Nat) (off fnd whole : Bool) : yCH 2 num n came k off fnd whole = 2 - yAx (whole && decide (came = n) && !off) (off || decide (n < came)) whole := rfl
end Gim
namespace Go.Proofs.YtkhejkfjhddobaaGreatDoor
open Go.RowKit Gim
theorem yNg (w : World) (B H : Nat) (c num : Int) (T : List Int) (tv bv : Value) (came k : Nat) (off fnd whole : Bool) (h : Hm w B H c num T tv bv came k off fnd whole) (hc0 : 0 ≤ c) (hc8 : c ≤ 8) :
  Calls Tryz.prog 100 #[.pointer (some ⟨H, 0, none⟩)] w fun e w' => e = .returned (.int .i64 (yCH c num T.length came k off fnd whole)) ∧ ∃ m, w' = w.drewN m := by
 have hT : ∀ a b n, Calls Tryz.prog 123 #[.pointer (some ⟨H, 0, none⟩), .bool a, .bool b] (w.drewN n) fun e w' => e = .returned (.int .i64 (yAx a b whole)) ∧ w' = w.drewN n := fun a b n => yIs (w.drewN n) H a b _ _ _ _ _ _ _ _ whole h.hH
 have hE : ∀ n, Calls Tryz.prog 122 #[.pointer (some ⟨H, 0, none⟩)] (w.drewN n) fun e w' => e = .returned (.int .i64 (yAx (whole && decide (came = T.length) && !off) (off || decide (T.length < came)) whole)) ∧ ∃ m, w' = (w.drewN n).drewN m := fun n =>
  yLv _ B H c num T tv bv came k off fnd whole (h.fr ((Fr.refl (fun _ => False) w).drewN n) (fun x => x) (fun _ _ x => x))
 have hN := yQi; obtain ⟨eq, heq⟩ : ∃ z, z = yAx (whole && decide (came = T.length) && !off) (off || decide (T.length < came)) whole := ⟨_, rfl⟩
 have heq0 : 0 ≤ eq ∧ eq ≤ 2 := by rw [heq]; exact yMh _ _ _
 obtain ⟨ao, cap, rfl, rd⟩ := h.rt.rd; have c0 := jc h.hH 0 rfl; have c1 := jc h.hH 1 rfl; have c3 := jc h.hH 3 rfl; have c4 := jc h.hH 4 rfl; have c5 := jc h.hH 5 rfl; have c6 := jc h.hH 6 rfl; have c7 := jc h.hH 7 rfl; have c8 := jc h.hH 8 rfl; have HT := jh hT; rw [← heq] at hE; have HE := jh hE; have HQ := jh heq; clear hT hE heq; have e1 : (((k : Nat) : Int) == ((T.length : Nat) : Int)) = decide (k = T.length) := by
  by_cases h : k = T.length
  ·simp [h]
  ·simp only [h, decide_false]; exact jn.2 (by omega)
 have e2 : (((came : Nat) : Int) == num) = decide ((came : Int) = num) := by
  by_cases h : (came : Int) = num
  ·simp [h]
  ·simp only [h, decide_false]; exact jn.2 h
 obtain rfl | rfl | rfl | rfl | rfl | rfl | rfl | rfl | rfl : c = 0 ∨ c = 1 ∨ c = 2 ∨ c = 3 ∨ c = 4 ∨ c = 5 ∨ c = 6 ∨ c = 7 ∨ c = 8 := by omega
 ·rw [yTq]; go_enter Tryz.func100, Tryz.ntmps100; go_wp2
  all_goals (try (go_quiet (fail); go_wp2))
  go_ret; exact ⟨rfl, 0, rfl⟩
 ·rw [yTa, ← HQ.out]; go_enter Tryz.func100, Tryz.ntmps100; go_wp2_with fail; refine (HE.out 0).mono ?_; rintro e w1 ⟨rfl, m, rfl⟩; go_wp2; go_ret; exact ⟨rfl, _, rfl⟩
 ·rw [yS0, ← HQ.out]; go_enter Tryz.func100, Tryz.ntmps100; go_wp2_with fail; refine (HE.out 0).mono ?_; rintro e w1 ⟨rfl, m, rfl⟩; go_wp2_with fail; refine (hN _ eq heq0.1 heq0.2).mono ?_; rintro e w1 ⟨rfl, rfl⟩; go_wp2; go_ret; exact ⟨rfl, _, rfl⟩
 ·go_enter Tryz.func100, Tryz.ntmps100; cases off
  ·go_wp2; go_quiet ((exact Calls.quiet_of_same (HT.out _ _ _))); go_wp2; go_ret; exact ⟨by simp [yCH], _, rfl⟩
  ·go_wp2; go_quiet ((exact Calls.quiet_of_same (HT.out _ _ _))); go_wp2; go_ret; exact ⟨by simp [yCH], _, rfl⟩
 ·go_enter Tryz.func100, Tryz.ntmps100; cases whole
  all_goals
   go_wp2_with fail
   first
    | go_quiet ((exact Calls.quiet_of_same (HT.out _ _ _)))
    | (refine (HT.out _ _ 0).mono ?_; rintro e w1 ⟨rfl, rfl⟩)
   go_wp2; go_ret; refine ⟨?_, _, rfl⟩; simp [yCH]
 ·go_enter Tryz.func100, Tryz.ntmps100; cases whole
  all_goals
   go_wp2_with fail
   first
    | go_quiet ((exact Calls.quiet_of_same (HT.out _ _ _)))
    | (refine (HT.out _ _ 0).mono ?_; rintro e w1 ⟨rfl, rfl⟩)
   go_wp2; go_ret; refine ⟨?_, _, rfl⟩; simp [yCH]
 ·go_enter Tryz.func100, Tryz.ntmps100; cases whole
  all_goals
   go_wp2_with fail
   first
    | go_quiet ((exact Calls.quiet_of_same (HT.out _ _ _)))
    | (refine (HT.out _ _ 0).mono ?_; rintro e w1 ⟨rfl, rfl⟩)
   go_wp2; go_ret; refine ⟨?_, _, rfl⟩; simp [yCH]
 ·go_enter Tryz.func100, Tryz.ntmps100; cases whole
  all_goals
   go_wp2_with fail
   first
    | go_quiet ((exact Calls.quiet_of_same (HT.out _ _ _)))
    | (refine (HT.out _ _ 0).mono ?_; rintro e w1 ⟨rfl, rfl⟩)
   go_wp2; go_ret; refine ⟨?_, _, rfl⟩; simp [yCH]
 ·go_enter Tryz.func100, Tryz.ntmps100; cases whole
  all_goals
   go_wp2_with fail
   first
    | go_quiet ((exact Calls.quiet_of_same (HT.out _ _ _)))
    | (refine (HT.out _ _ 0).mono ?_; rintro e w1 ⟨rfl, rfl⟩)
   go_wp2; go_ret; refine ⟨?_, _, rfl⟩; simp [yCH]
end Go.Proofs.YtkhejkfjhddobaaGreatDoor
namespace Gim
open Go Go.RowKit
theorem Row.shape {w : World} {B : Nat} {e : TypeId} {k : IntKind} {v : Value} {xs : List Int} (h : Row w B e k v xs) (hx : 0 < xs.length) :
  ∃ g cap, v = .slice (some ⟨g, 0, none⟩) xs.length cap ∧ B ≤ g ∧ g < w.heap.size ∧ (xs.length ≤ cap ∧ cap ≤ maxLen) ∧ ∀ i, i < xs.length → w.cell? ⟨g, i, none⟩ = some (.int k (gt xs i)) := by
 rcases h.2 with ⟨_, h0⟩ | ⟨g, cap, cur, rfl, hb, hg, hn, hc, hs, ht⟩
 ·omega
 ·exact ⟨g, cap, rfl, hb, (jl hg), ⟨hn, hc⟩, fun i hi => h.cell hi⟩
end Gim
namespace Go.Proofs.YtkhejkfjhddobaaGreatDoor
open Go.RowKit Gim
theorem yIb (w : World) (B H : Nat) (c num : Int) (T : List Int) (tv bv : Value) (came k : Nat) (off fnd whole : Bool) (h : Hm w B H c num T tv bv came k off fnd whole) (n : Nat) (h1 : 0 < n) (h2 : n ≤ T.length) :
  Calls Tryz.prog 121 #[.pointer (some ⟨H, 0, none⟩), .int .i64 n] w fun e w' => e = .returned (.int .i64 (br T n)) ∧ ∃ m, w' = w.drewN m := by
 have hbl := yIC T; obtain ⟨g, cap, rfl, hg, hgz, ⟨hn1, hn2⟩, hcell⟩ := h.rb.shape (by omega); rw [hbl] at hn1; have c2 : w.cell? ⟨H, 2, none⟩ = some (.slice (some ⟨g, 0, none⟩) T.length cap) := by simp [World.cell?, h.hH, hbl]
 have cx : w.cell? ⟨g, n - 1, none⟩ = some (.int .i64 (br T n)) := by rw [hcell (n - 1) (by omega), ySq (by omega), show n - 1 + 1 = n by omega]
 have hlt : T.length ≤ 9223372036854775807 := by unfold maxLen at hn2; omega
 have e1 : ((n : Int) - 1).toNat = n - 1 := by omega
 have e2 : (n : Int) - 1 < (T.length : Int) := by omega
 have e3 : (0 : Int) ≤ (n : Int) - 1 := by omega
 go_enter Tryz.func121, Tryz.ntmps121; go_wp2
 all_goals (try (go_quiet (fail); go_wp2))
 go_ret; exact ⟨rfl, 0, rfl⟩
def Took (w : World) (B H : Nat) (c num : Int) (T : List Int) (tv bv : Value) (came : Nat) (off fnd whole : Bool) (l : List Int) (r : Int) (e : Ending) (w' : World) : Prop :=
 e = .returned (.tuple #[]) ∧ Fr (fun j => j = H) w w' ∧ ∃ k', Mx (l ++ [r]) T k' ∧ Hm w' B H c num T tv bv came k' off (fnd || decide (k' = T.length)) whole
end Go.Proofs.YtkhejkfjhddobaaGreatDoor
