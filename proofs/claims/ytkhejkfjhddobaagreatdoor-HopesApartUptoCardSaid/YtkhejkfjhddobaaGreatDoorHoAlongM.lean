/- (*frame).along of gimlet/hopes. -/
import Derived.Test.YtkhejkfjhddobaaGreatDoorHoMemM
set_option maxRecDepth 100000
set_option maxHeartbeats 16000000
namespace Go.Proofs.YtkhejkfjhddobaaGreatDoor
open Go.RowKit Gim
def AL (w wx : World) (v : Value) (l : List Int) : Prop := Row wx w.heap.size 67 .i64 v l ∧ Below w.heap.size w wx
theorem yKu (wx : World) (z : Int) (t : TypeId) : Rd (wx.alloc (.cells #[.int .i64 z] t)) .i64 (some ⟨wx.heap.size, 0, none⟩) 1 1 [z] :=
 ⟨rfl, jr _, by unfold maxLen; omega, fun j hj => ⟨wx.heap.size, 0, rfl, by simp, fun i hi => by
  obtain rfl : i = 0 := by omega
  exact yHP wx (.int .i64 z) t 0 _ rfl⟩⟩
theorem yCG (w wx : World) {ops : Array Oper} {rest : List Oper} {o : Oper} {a : Act} {Q : Exit → Act → World → Prop} {v : Value} {ys : List Int} (h : AL w wx v ys) (hg : o.guard = none) (s x : Operand)
  (ho : o.op = .call { callee := .builtin .append, args := #[s, x], argTypes := #[84, 84] }) (z : Int) (hs : a.eval s = v) (X : Nat) (hx : a.eval x = .slice (some ⟨X, 0, none⟩) 1 1) (hX : X = wx.heap.size) (hlen : ys.length ≤ 1048576)
  (hK : ∀ ao cap w', AL w w' (.slice ao (ys.length + 1) cap) (ys ++ [z]) → Rd w' .i64 ao (ys.length + 1) cap (ys ++ [z]) → wpList Tryz.prog ops Q rest (a.put o.dst (.slice ao (ys.length + 1) cap)) w') :
  wpList Tryz.prog ops Q (o :: rest) a (wx.alloc (.cells #[.int .i64 z] 67)) := by
 subst hX; have hb1 : Below wx.heap.size wx (wx.alloc (.cells #[.int .i64 z] 67)) := (jf _ _).alloc (jr _) _; refine yJH _ hg s x ho w.heap.size v ys hs (World.ownsRow.alloc h.1 _) _ 1 1 [z] hx (yKu wx z _) (by simp) (by omega) (ju h.2.size hb1.size) ?_; intro v' w' hrow hgrow; have hbel : Below w.heap.size w w' := by have hb2 := h.2.trans (hb1.mono h.2.size); refine ⟨hgrow.os.trans hb2.os, hgrow.tape.trans hb2.tape, hgrow.output.trans hb2.output, ju hb2.size hgrow.size, fun b hb => (hgrow.block b (jt hb hb2.size) ?_).trans (hb2.block b hb)⟩; intro e; have := (Row.lt h.1 b e.symm).1; omega
 obtain ⟨ao, cap, e, hrd⟩ := Row.rd hrow; rw [jp] at e hrd; subst e; exact hK ao cap w' ⟨hrow, hbel⟩ hrd
theorem yTv (w : World) (z : Int) : AL w (w.alloc (.cells #[.int .i64 z] 67)) (.slice (some ⟨w.heap.size, 0, none⟩) 1 1) [z] :=
 ⟨⟨by simp, .inr ⟨w.heap.size, 1, #[.int .i64 z], rfl, jr _, jw w _, by simp, by unfold maxLen; omega, by simp, by simp⟩⟩, (jf _ _).alloc (jr _) _⟩
def yFy (f : FrS) (ax : Int) (i : Nat) (here : Int) (opn : Bool) (ib : Option (List Int × List Int)) : List Int :=
 [0] ++ (if opn then [1] else []) ++ (if (if ax = 0 then f.child.getD i false else f.deep.getD i false) then [2] else []) ++ (match ib with | some p => [p.1.getD i 0] ++ (if ax = 0 then [] else [p.2.getD i 0]) | none => []) ++ (if ax = 2 then [here] else [])
def yCo (f : FrS) (ax : Int) (i : Nat) (here : Int) (opn : Bool) (ib : Option (List Int × List Int)) : Int := if ax = 3 then here else orF (yFy f ax i here opn ib)
def IB (w : World) (vi vb : Value) (nr : Nat) : Option (List Int × List Int) → Prop
 | none => vi = .slice none 0 0 ∧ vb = .slice none 0 0
 | some p => ∃ b b2, vi = .slice (some ⟨b, 0, none⟩) nr nr ∧ vb = .slice (some ⟨b2, 0, none⟩) nr nr ∧ p.1.length = nr ∧ p.2.length = nr ∧ w.heap[b]? = some (.cells (il p.1) 67) ∧ w.heap[b2]? = some (.cells (il p.2) 67)
theorem yLB (f : FrS) (tg : Nat → Nat × Nat) (j F nr np i : Nat) (ax here : Int) (opn : Bool) (vi vb : Value) (ib : Option (List Int × List Int)) (w : World) (h : FrM w tg j F nr np f) (hi : i < nr) (hib : IB w vi vb nr ib) :
  Calls Tryz.prog 106 #[.pointer (some ⟨F, 0, none⟩), .int .i64 ax, .int .i64 i, .int .i64 here, .bool opn, vi, vb] w fun e w' => e = .returned (.int .i64 (yCo f ax i here opn ib)) ∧ Below w.heap.size w w' := by
 obtain ⟨cB, dB, aB, hB, hpp, h⟩ := h; by_cases h3 : ax = 3
 ·have HZ := jh (show here = yCo f ax i here opn ib by unfold yCo; rw [if_pos h3]); obtain ⟨z, hz⟩ := je (yCo f ax i here opn ib); rw [hz] at HZ ⊢; clear hz h hib; subst h3; go_enter Tryz.func106, Tryz.ntmps106; go_wp2_with fail; go_ret; exact ⟨congrArg (fun x => Ending.returned (.int .i64 x)) HZ.out, jf _ _⟩
 ·have q3 : (ax == 3) = false := jn.2 h3; have hi' : (i : Int) < nr := by omega
  have hFs : F < w.heap.size := jl h.hF; obtain ⟨cv, hcv⟩ := je (f.child.getD i false); obtain ⟨dv, hdv⟩ := je (f.deep.getD i false); have HK : Hid (∀ W, Below w.heap.size w W → W.cell? ⟨F, 2, none⟩ = some (.slice (some ⟨cB, 0, none⟩) nr nr) ∧ W.cell? ⟨F, 3, none⟩ = some (.slice (some ⟨dB, 0, none⟩) nr nr) ∧ W.cell? ⟨cB, i, none⟩ = some (.bool cv) ∧ W.cell? ⟨dB, i, none⟩ = some (.bool dv) ∧ F < W.heap.size ∧ w.heap.size ≤ W.heap.size) := jh fun W hb => by
   have h' := h.below hb; refine ⟨by simp [World.cell?, h'.hF], by simp [World.cell?, h'.hF], ?_, ?_, jt hFs hb.size, hb.size⟩
   ·rw [← hcv]; exact yE3 h'.hc (yAi (by rw [h.lc]; exact hi) false)
   ·rw [← hdv]; exact yE3 h'.hd (yAi (by rw [h.ld]; exact hi) false)
  obtain ⟨z, hz⟩ := je (yCo f ax i here opn ib); rw [hz]; unfold yCo yFy at hz; rw [if_neg h3, hcv, hdv] at hz; have H0 := jh (yTv w 0); cases ib with
  | none =>
   obtain ⟨rfl, rfl⟩ := hib; have hal := H0.out; have hrd := yKu w 0 67; obtain ⟨k1, k2, k3, k4, k5, k6⟩ := HK.out _ hal.2; clear h hcv hdv; by_cases h0 : ax = 0
   ·subst h0; cases opn <;> cases cv
    all_goals
     have HQ := jh hz; clear hz h3; go_enter Tryz.func106, Tryz.ntmps106; go_wp2_with (first
      | (at_builtin; refine yCG w _ (by assumption) rfl _ _ rfl _ rfl _ rfl (by simp) (by simp) ?_; intro ao cap w' hal hrd; obtain ⟨k1, k2, k3, k4, k5, k6⟩ := HK.out _ hal.2)
      | (go_at_call 68; refine (yCq _ _ _ _ _ (by assumption)).mono ?_; rintro e w' ⟨rfl, rfl⟩))
     go_ret; exact ⟨congrArg (fun x => Ending.returned (.int .i64 x)) (by have := HQ.out; simpa using this), hal.2⟩
   ·have q0 : (ax == 0) = false := jn.2 h0; by_cases h2 : ax = 2
    ·subst h2; cases opn <;> cases dv
     all_goals
      have HQ := jh hz; clear hz h0 h3; go_enter Tryz.func106, Tryz.ntmps106; go_wp2_with (first
       | (at_builtin; refine yCG w _ (by assumption) rfl _ _ rfl _ rfl _ rfl (by simp) (by simp) ?_; intro ao cap w' hal hrd; obtain ⟨k1, k2, k3, k4, k5, k6⟩ := HK.out _ hal.2)
       | (go_at_call 68; refine (yCq _ _ _ _ _ (by assumption)).mono ?_; rintro e w' ⟨rfl, rfl⟩))
      go_ret; exact ⟨congrArg (fun x => Ending.returned (.int .i64 x)) (by have := HQ.out; simpa using this), hal.2⟩
    ·have q2 : (ax == 2) = false := jn.2 h2; rw [if_neg h2] at hz; simp only [h0, if_false] at hz; cases opn <;> cases dv
     all_goals
      have HQ := jh hz; clear hz h0 h2 h3; go_enter Tryz.func106, Tryz.ntmps106; go_wp2_with (first
       | (at_builtin; refine yCG w _ (by assumption) rfl _ _ rfl _ rfl _ rfl (by simp) (by simp) ?_; intro ao cap w' hal hrd; obtain ⟨k1, k2, k3, k4, k5, k6⟩ := HK.out _ hal.2)
       | (go_at_call 68; refine (yCq _ _ _ _ _ (by assumption)).mono ?_; rintro e w' ⟨rfl, rfl⟩))
      go_ret; exact ⟨congrArg (fun x => Ending.returned (.int .i64 x)) (by have := HQ.out; simpa using this), hal.2⟩
  | some p =>
   obtain ⟨b, b2, rfl, rfl, hl1, hl2, hb1, hb2⟩ := hib; obtain ⟨iv, hiv⟩ := je (p.1.getD i 0); obtain ⟨bv, hbv⟩ := je (p.2.getD i 0); have HI : Hid (∀ W, Below w.heap.size w W → W.cell? ⟨b, i, none⟩ = some (.int .i64 iv) ∧ W.cell? ⟨b2, i, none⟩ = some (.int .i64 bv)) := jh fun W hb => by
    refine ⟨?_, ?_⟩
    ·rw [← hiv]; exact yAy ((hb.block b (jl hb1)).trans hb1) (yAi (by rw [hl1]; exact hi) 0)
    ·rw [← hbv]; exact yAy ((hb.block b2 (jl hb2)).trans hb2) (yAi (by rw [hl2]; exact hi) 0)
   simp only [hiv, hbv] at hz; have hal := H0.out; have hrd := yKu w 0 67; obtain ⟨k1, k2, k3, k4, k5, k6⟩ := HK.out _ hal.2; obtain ⟨k7, k8⟩ := HI.out _ hal.2; clear h hcv hdv hb1 hb2 hl1 hl2 hiv hbv; by_cases h0 : ax = 0
   ·subst h0; cases opn <;> cases cv
    all_goals
     have HQ := jh hz; clear hz h3; go_enter Tryz.func106, Tryz.ntmps106; go_wp2_with (first
      | (at_builtin; refine yCG w _ (by assumption) rfl _ _ rfl _ rfl _ rfl (by simp) (by simp) ?_; intro ao cap w' hal hrd; obtain ⟨k1, k2, k3, k4, k5, k6⟩ := HK.out _ hal.2; obtain ⟨k7, k8⟩ := HI.out _ hal.2)
      | (go_at_call 68; refine (yCq _ _ _ _ _ (by assumption)).mono ?_; rintro e w' ⟨rfl, rfl⟩))
     go_ret; exact ⟨congrArg (fun x => Ending.returned (.int .i64 x)) (by have := HQ.out; simpa using this), hal.2⟩
   ·have q0 : (ax == 0) = false := jn.2 h0; by_cases h2 : ax = 2
    ·subst h2; cases opn <;> cases dv
     all_goals
      have HQ := jh hz; clear hz h0 h3; go_enter Tryz.func106, Tryz.ntmps106; go_wp2_with (first
       | (at_builtin; refine yCG w _ (by assumption) rfl _ _ rfl _ rfl _ rfl (by simp) (by simp) ?_; intro ao cap w' hal hrd; obtain ⟨k1, k2, k3, k4, k5, k6⟩ := HK.out _ hal.2; obtain ⟨k7, k8⟩ := HI.out _ hal.2)
       | (go_at_call 68; refine (yCq _ _ _ _ _ (by assumption)).mono ?_; rintro e w' ⟨rfl, rfl⟩))
      go_ret; exact ⟨congrArg (fun x => Ending.returned (.int .i64 x)) (by have := HQ.out; simpa using this), hal.2⟩
    ·have q2 : (ax == 2) = false := jn.2 h2; rw [if_neg h2] at hz; simp only [h0, if_false] at hz; cases opn <;> cases dv
     all_goals
      have HQ := jh hz; clear hz h0 h2 h3; go_enter Tryz.func106, Tryz.ntmps106; go_wp2_with (first
       | (at_builtin; refine yCG w _ (by assumption) rfl _ _ rfl _ rfl _ rfl (by simp) (by simp) ?_; intro ao cap w' hal hrd; obtain ⟨k1, k2, k3, k4, k5, k6⟩ := HK.out _ hal.2; obtain ⟨k7, k8⟩ := HI.out _ hal.2)
       | (go_at_call 68; refine (yCq _ _ _ _ _ (by assumption)).mono ?_; rintro e w' ⟨rfl, rfl⟩))
      go_ret; exact ⟨congrArg (fun x => Ending.returned (.int .i64 x)) (by have := HQ.out; simpa using this), hal.2⟩
end Go.Proofs.YtkhejkfjhddobaaGreatDoor
namespace Gim
open Go Go.RowKit
structure yB2 (n : yAc) : Prop where
 np : n.preds.length ≤ 1048576
 nr : n.rows.length ≤ 1048576
 op : ∀ p, p < n.preds.length → 0 ≤ (n.preds.getD p zp).op ∧ (n.preds.getD p zp).op ≤ 3
 args : ∀ p, p < n.preds.length → (n.preds.getD p zp).args.length ≤ 1048576 ∧ ∀ a ∈ (n.preds.getD p zp).args, 0 ≤ a ∧ a < n.preds.length
 one : ∀ p, p < n.preds.length → (n.preds.getD p zp).op = 2 → 0 < (n.preds.getD p zp).args.length
 some : ∀ p, p < n.preds.length → (n.preds.getD p zp).op = 3 → 0 ≤ (n.preds.getD p zp).first ∧ 0 ≤ (n.preds.getD p zp).count ∧ (n.preds.getD p zp).first + (n.preds.getD p zp).count ≤ n.rows.length
 ps : ∀ i, i < n.rows.length → (n.rows.getD i zr).ps.length ≤ 1048576 ∧ ∀ q ∈ (n.rows.getD i zr).ps, 0 ≤ q ∧ q < n.preds.length
 cmp : ∀ p, p < n.preds.length → (n.preds.getD p zp).op = 3 → 0 ≤ (n.preds.getD p zp).cmp ∧ (n.preds.getD p zp).cmp ≤ 8 ∧ 0 ≤ (n.preds.getD p zp).num ∧ (n.preds.getD p zp).txt.size ≤ 1099511627776
def atL (T l : List Int) : List Int := l.map fun a => T.getD a.toNat 0
theorem yLx {T l : List Int} {q : Nat} {a : Int} (h : l[q]? = some a) : atL T (l.take (q + 1)) = atL T (l.take q) ++ [T.getD a.toNat 0] := by unfold atL; rw [List.take_add_one, h, List.map_append]; rfl
theorem yK9 (T l : List Int) : (atL T l).length = l.length := by simp [atL]
end Gim
namespace Go.Proofs.YtkhejkfjhddobaaGreatDoor
open Go.RowKit Gim
def yMj (nd : yAc) (f : FrS) (T : List Int) (rest : Int) (i : Nat) : Int := yGE ([yFl f (nd.rows.getD i zr).ts (nd.rows.getD i zr).nm, rest] ++ atL T (nd.rows.getD i zr).ps)
def yL0 (nd : yAc) (f : FrS) (opn : Bool) (ib : Option (List Int × List Int)) (T : List Int) (acc : Int × List Int) (i : Nat) : Int × List Int :=
 (yCo f (nd.rows.getD i zr).ax i (yMj nd f T acc.1 i) opn ib, acc.2.set i (yMj nd f T acc.1 i))
def yB3 (nd : yAc) (f : FrS) (opn : Bool) (ib : Option (List Int × List Int)) (T : List Int) (last : Nat) (acc : Int × List Int) : Nat → Int × List Int
 | 0 => acc
 | d + 1 => yL0 nd f opn ib T (yB3 nd f opn ib T last acc d) (last - (d + 1))
def yEc (nd : yAc) (f : FrS) (opn : Bool) (ib : Option (List Int × List Int)) (acc : List Int × List Int) (p : Nat) : List Int × List Int :=
 if (nd.preds.getD p zp).op = 0 then (acc.1.set p (yGE (atL acc.1 (nd.preds.getD p zp).args)), acc.2)
 else if (nd.preds.getD p zp).op = 1 then (acc.1.set p (orF (atL acc.1 (nd.preds.getD p zp).args)), acc.2)
 else if (nd.preds.getD p zp).op = 2 then (acc.1.set p (2 - yBh ((atL acc.1 (nd.preds.getD p zp).args).getD 0 0)), acc.2)
 else
  (acc.1.set p (yB3 nd f opn ib acc.1 ((nd.preds.getD p zp).first + (nd.preds.getD p zp).count).toNat (yKT f p (nd.preds.getD p zp).attr (nd.preds.getD p zp).cmp, acc.2) (nd.preds.getD p zp).count.toNat).1,
   (yB3 nd f opn ib acc.1 ((nd.preds.getD p zp).first + (nd.preds.getD p zp).count).toNat (yKT f p (nd.preds.getD p zp).attr (nd.preds.getD p zp).cmp, acc.2) (nd.preds.getD p zp).count.toNat).2)
def yA8 (nd : yAc) (f : FrS) (opn : Bool) (ib : Option (List Int × List Int)) : Nat → List Int × List Int
 | 0 => (List.replicate nd.preds.length 0, List.replicate nd.rows.length 0)
 | d + 1 => yEc nd f opn ib (yA8 nd f opn ib d) (nd.preds.length - (d + 1))
def yBT (nd : yAc) (f : FrS) (opn : Bool) (ib : Option (List Int × List Int)) : List Int × List Int := yA8 nd f opn ib nd.preds.length
theorem yGG (nd : yAc) (f : FrS) (opn : Bool) (ib : Option (List Int × List Int)) (T : List Int) (last : Nat) (acc : Int × List Int) : ∀ d, (yB3 nd f opn ib T last acc d).2.length = acc.2.length
 | 0 => rfl
 | d + 1 => by unfold yB3 yL0; rw [List.length_set]; exact yGG nd f opn ib T last acc d
theorem yPU (nd : yAc) (f : FrS) (opn : Bool) (ib : Option (List Int × List Int)) (acc : List Int × List Int) (p : Nat) : (yEc nd f opn ib acc p).1.length = acc.1.length ∧ (yEc nd f opn ib acc p).2.length = acc.2.length := by
 unfold yEc; split
 ·exact ⟨List.length_set, rfl⟩
 ·split
  ·exact ⟨List.length_set, rfl⟩
  ·split
   ·exact ⟨List.length_set, rfl⟩
   ·exact ⟨List.length_set, yGG _ _ _ _ _ _ _ _⟩
theorem yD8 (nd : yAc) (f : FrS) (opn : Bool) (ib : Option (List Int × List Int)) : ∀ d, (yA8 nd f opn ib d).1.length = nd.preds.length ∧ (yA8 nd f opn ib d).2.length = nd.rows.length
 | 0 => by simp [yA8]
 | d + 1 => by unfold yA8; have h1 := yPU nd f opn ib (yA8 nd f opn ib d) (nd.preds.length - (d + 1)); have h2 := yD8 nd f opn ib d; exact ⟨h1.1.trans h2.1, h1.2.trans h2.2⟩
theorem yG0 (nd : yAc) (f : FrS) (opn : Bool) (ib : Option (List Int × List Int)) : (yBT nd f opn ib).1.length = nd.preds.length ∧ (yBT nd f opn ib).2.length = nd.rows.length := yD8 nd f opn ib _
structure yHI (W : World) (H : Nat) (nd : yAc) : Prop where
 rd : ∃ mn ra rc pa pc v3 v4 v5 v6, W.heap[H]? = some (.cells #[.int .i64 mn, .slice ra nd.rows.length rc, .slice pa nd.preds.length pc, v3, v4, v5, v6] 87) ∧ yA2 W nd.rows ra nd.rows.length rc ∧ yAR W nd.preds pa nd.preds.length pc
theorem yHI.below {W W' : World} {H : Nat} {nd : yAc} (h : yHI W H nd) (hb : Below W.heap.size W W') : yHI W' H nd := by obtain ⟨mn, ra, rc, pa, pc, v3, v4, v5, v6, h1, h2, h3⟩ := h.rd; exact ⟨mn, ra, rc, pa, pc, v3, v4, v5, v6, (hb.block H (jl h1)).trans h1, h2.below hb, h3.below hb⟩
theorem yHI.pred {W : World} {H : Nat} {nd : yAc} (h : yHI W H nd) : ∃ mn ra rc pa pc v3 v4 v5 v6, W.heap[H]? = some (.cells #[.int .i64 mn, .slice ra nd.rows.length rc, .slice pa nd.preds.length pc, v3, v4, v5, v6] 87) ∧ nd.rows.length ≤ rc ∧ nd.preds.length ≤ pc ∧
  (∀ k, k < nd.preds.length → ∃ b o a n c, pa = some ⟨b, o, none⟩ ∧ b < W.heap.size ∧ W.cell? ⟨b, o + k * 8, none⟩ = some (.int .i64 (nd.preds.getD k zp).op) ∧ W.cell? ⟨b, o + k * 8 + 1, none⟩ = some (.slice a n c) ∧ W.cell? ⟨b, o + k * 8 + 2, none⟩ = some (.int .i64 (nd.preds.getD k zp).first) ∧ W.cell? ⟨b, o + k * 8 + 3, none⟩ = some (.int .i64 (nd.preds.getD k zp).count) ∧ W.cell? ⟨b, o + k * 8 + 4, none⟩ = some (.string (nd.preds.getD k zp).attr) ∧ W.cell? ⟨b, o + k * 8 + 5, none⟩ = some (.int .i64 (nd.preds.getD k zp).cmp) ∧ W.cell? ⟨b, o + k * 8 + 6, none⟩ = some (.string (nd.preds.getD k zp).txt) ∧ W.cell? ⟨b, o + k * 8 + 7, none⟩ = some (.int .i64 (nd.preds.getD k zp).num) ∧ Rd W .i64 a n c (nd.preds.getD k zp).args) ∧
  (∀ k, k < nd.rows.length → ∃ b o a n c, ra = some ⟨b, o, none⟩ ∧ b < W.heap.size ∧ W.cell? ⟨b, o + k * 4, none⟩ = some (.int .i64 (nd.rows.getD k zr).ax) ∧ W.cell? ⟨b, o + k * 4 + 1, none⟩ = some (.int .i64 (nd.rows.getD k zr).ts) ∧ W.cell? ⟨b, o + k * 4 + 2, none⟩ = some (.string (nd.rows.getD k zr).nm) ∧ W.cell? ⟨b, o + k * 4 + 3, none⟩ = some (.slice a n c) ∧ Rd W .i64 a n c (nd.rows.getD k zr).ps) := by
 obtain ⟨mn, ra, rc, pa, pc, v3, v4, v5, v6, h1, h2, h3⟩ := h.rd; refine ⟨mn, ra, rc, pa, pc, v3, v4, v5, v6, h1, h2.le, h3.le, fun k hk => ?_, fun k hk => ?_⟩
 ·obtain ⟨b, o, e, hF⟩ := h3.fit k hk; obtain ⟨f0, f1, f2, f3, f4, f5, f6, f7, a, n, c, f8, f9⟩ := hF k _ (yAi hk zp); exact ⟨b, o, a, n, c, e, f0, f1, f8, f2, f3, f4, f5, f6, f7, f9⟩
 ·obtain ⟨b, o, e, hF⟩ := h2.fit k hk; obtain ⟨f0, f1, f2, f3, a, n, c, f8, f9⟩ := hF k _ (yAi hk zr); exact ⟨b, o, a, n, c, e, f0, f1, f2, f3, f8, f9⟩
structure FW (w wx : World) (tB eB : Nat) (T E : List Int) : Prop where
 bel : Below w.heap.size w wx
 t : wx.heap[tB]? = some (.cells (il T) 67)
 e : wx.heap[eB]? = some (.cells (il E) 67)
 lo : w.heap.size ≤ tB ∧ w.heap.size ≤ eB ∧ tB ≠ eB
theorem FW.below {w wx wy : World} {tB eB : Nat} {T E : List Int} (h : FW w wx tB eB T E) (hb : Below wx.heap.size wx wy) : FW w wy tB eB T E :=
 ⟨h.bel.trans (hb.mono h.bel.size), (hb.block tB (jl h.t)).trans h.t, (hb.block eB (jl h.e)).trans h.e, h.lo⟩
theorem FW.setT {w wx : World} {tB eB : Nat} {T E : List Int} (h : FW w wx tB eB T E) (p : Nat) (x : Int) : FW w (wx.setCell ⟨tB, p, none⟩ (.int .i64 x)) tB eB (T.set p x) E :=
 ⟨h.bel.setCell h.lo.1 _, yBB h.t x, (js wx ⟨tB, p, none⟩ _ eB (Ne.symm h.lo.2.2)).trans h.e, h.lo⟩
theorem FW.setE {w wx : World} {tB eB : Nat} {T E : List Int} (h : FW w wx tB eB T E) (p : Nat) (x : Int) : FW w (wx.setCell ⟨eB, p, none⟩ (.int .i64 x)) tB eB T (E.set p x) :=
 ⟨h.bel.setCell h.lo.2.1 _, (js wx ⟨eB, p, none⟩ _ tB h.lo.2.2).trans h.t, yBB h.e x, h.lo⟩
end Go.Proofs.YtkhejkfjhddobaaGreatDoor
