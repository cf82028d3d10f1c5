/- Slices of numbers that were handed in. -/
import Derived.Test.YtkhejkfjhddobaaGreatDoorUtfM
import Derived.Laws.AppendOwnNone
namespace Gim
open Go Go.RowKit
def yBh (t : Int) : Int := if 0 ≤ t ∧ t ≤ 2 then t else 1
theorem yM0 (t : Int) : 0 ≤ yBh t ∧ yBh t ≤ 2 := by unfold yBh; split <;> omega
def yGE (l : List Int) : Int := l.foldl (fun a t => if yBh t < a then yBh t else a) 2
def orF (l : List Int) : Int := l.foldl (fun a t => if a < yBh t then yBh t else a) 0
theorem yJM {l : List Int} {k : Nat} (h : k < l.length) : l.take (k + 1) = l.take k ++ [gt l k] := by rw [yFf h, List.take_append_getElem h]
theorem yQM {l : List Int} {k : Nat} (h : k < l.length) : yGE (l.take (k + 1)) = if yBh (gt l k) < yGE (l.take k) then yBh (gt l k) else yGE (l.take k) := by rw [yJM h, yGE, List.foldl_append]; rfl
theorem yRL {l : List Int} {k : Nat} (h : k < l.length) : orF (l.take (k + 1)) = if orF (l.take k) < yBh (gt l k) then yBh (gt l k) else orF (l.take k) := by rw [yJM h, orF, List.foldl_append]; rfl
theorem yMx {x : Int} (h : -10 ≤ x) (h2 : x ≤ 10) : wrap64 x = x := by unfold wrap64; omega
end Gim
namespace Go.Proofs.YtkhejkfjhddobaaGreatDoor
open Go.RowKit Gim
theorem yOb : (Tryz.prog.info? 67).map (fun i => (i.zero, i.size, i.bytes)) = some (some (.int .i64 0), 1, 8) := by kernel_rfl
theorem yJH (w : World) {ops : Array Oper} {rest : List Oper} {o : Oper} {a : Act} {Q : Exit → Act → World → Prop} (hg : o.guard = none) (s x : Operand)
  (ho : o.op = .call { callee := .builtin .append, args := #[s, x], argTypes := #[84, 84] }) (B : Nat)
  (v : Value) (ys : List Int) (hs : a.eval s = v) (hrow : Row w B 67 .i64 v ys) (ao : Option Addr) (n cap : Nat) (xs : List Int) (hx : a.eval x = .slice ao n cap) (hrd : Rd w .i64 ao n cap xs)
  (hnone : ao = none → n = 0 ∧ cap = 0) (hlen : ys.length + n ≤ 17592186044416) (hB : B ≤ w.heap.size)
  (hK : ∀ v' w', Row w' B 67 .i64 v' (ys ++ xs) → w.grownBy w' v.ownBlock → wpList Tryz.prog ops Q rest (a.put o.dst v') w') :
  wpList Tryz.prog ops Q (o :: rest) a w := by
 obtain ⟨i0, hi, hz0, hz1, hz2⟩ := info_parts yOb; have hl := hrd.len; cases ao with
 | none =>
  obtain ⟨rfl, rfl⟩ := hnone rfl; obtain rfl : xs = [] := List.eq_nil_of_length_eq_zero hl; refine wpList_append_own_none hg s x 84 ho B 67 i0 1 Tryz.underlying84 hi v ys.length (ys.map (Value.int .i64)) hs hrow hx (hK _ _ (by rw [List.append_nil]; exact hrow) ?_); exact ⟨rfl, rfl, rfl, jr _, fun _ _ _ => rfl⟩
 | some ad =>
  refine wpList_append_own _ hg s x 84 ho B 67 i0 (.int .i64 0) 1 8 Tryz.underlying84 hi hz0 hz1 hz2 rfl (by decide) v ys.length (ys.map (Value.int .i64)) hs hrow ad n cap (xs.map (Value.int .i64)) hx (by simp; omega) ?_ ?_ (by unfold maxLen; omega) (by omega) hB ?_
  ·intro j u hu; obtain ⟨hj, rfl⟩ : j < xs.length ∧ u = .int .i64 (gt xs j) := by
    rw [List.getElem?_map] at hu; cases hj : xs[j]? with
    | none => rw [hj] at hu; simp at hu
    | some y =>
     rw [hj] at hu; obtain ⟨h1, h2⟩ := ji.1 hj; exact ⟨h1, by rw [yFf h1, h2]; simpa using hu.symm⟩
   obtain ⟨b, o', h1, h2, h3⟩ := hrd.cell j (by omega); simp only [Option.some.injEq] at h1; subst h1; rw [Addr.add_lit]; exact h3 j (by omega)
  ·intro u hu; simp only [List.mem_map] at hu; obtain ⟨y, _, rfl⟩ := hu; rfl
  ·intro v' w' h1 h2 _; refine hK v' w' ?_ h2; unfold Row; rw [List.map_append, jp, hl]; exact h1
theorem yN4 (t : Int) (w : World) : Calls Tryz.prog 126 #[.int .i64 t] w fun e w' => e = .returned (.bool (decide (0 ≤ t ∧ t ≤ 2))) ∧ w' = w := by
 by_cases h0 : 0 ≤ t
 ·by_cases h2 : t ≤ 2
  ·have HD := jh (show decide (0 ≤ t ∧ t ≤ 2) = true by simp [h0, h2]); go_enter Tryz.func126, Tryz.ntmps126; go_wp2; go_ret; exact ⟨by rw [HD.out]; rfl, rfl⟩
  ·have HD := jh (show decide (0 ≤ t ∧ t ≤ 2) = false by simp; omega); go_enter Tryz.func126, Tryz.ntmps126; go_wp2; go_ret; exact ⟨by rw [show decide (t ≤ 2) = false by simp; omega]; rfl, rfl⟩
 ·have HD := jh (show decide (0 ≤ t ∧ t ≤ 2) = false by simp; omega); go_enter Tryz.func126, Tryz.ntmps126; go_wp2; go_ret; exact ⟨by rw [show decide (0 ≤ t) = false by simp; omega]; rfl, rfl⟩
theorem yFn (t : Int) (w : World) : Calls Tryz.prog 107 #[.int .i64 t] w fun e w' => e = .returned (.int .i64 (yBh t)) ∧ w' = w := by
 have hG := yN4 t w; by_cases h : 0 ≤ t ∧ t ≤ 2
 ·have HS := jh (show yBh t = t by unfold yBh; rw [if_pos h]); rw [decide_eq_true h] at hG; clear h; go_enter Tryz.func107, Tryz.ntmps107; go_wp2_with fail; refine hG.mono ?_; rintro e w1 ⟨rfl, rfl⟩; go_wp2_with fail; go_ret; exact ⟨by rw [HS.out]; rfl, rfl⟩
 ·have HS := jh (show yBh t = 1 by unfold yBh; rw [if_neg h]); rw [decide_eq_false h] at hG; clear h; go_enter Tryz.func107, Tryz.ntmps107; go_wp2_with fail; refine hG.mono ?_; rintro e w1 ⟨rfl, rfl⟩; go_wp2_with fail; go_ret; exact ⟨by rw [HS.out]; rfl, rfl⟩
theorem yNB (t : Int) (w : World) : Calls Tryz.prog 103 #[.int .i64 t] w fun e w' => e = .returned (.int .i64 (2 - yBh t)) ∧ w' = w := by have hS := yFn t w; have hr := yM0 t; obtain ⟨s, hs⟩ := je (yBh t); rw [hs] at hS hr; have HW := jh (yMx (x := 2 - s) (by omega) (by omega)); have hw := HW.out; have HSS := jh hs; clear hs; go_enter Tryz.func103, Tryz.ntmps103; go_wp2_with fail; refine hS.mono ?_; rintro e w1 ⟨rfl, rfl⟩; go_wp2_with fail; go_ret; exact ⟨by rw [HSS.out]; rfl, rfl⟩
theorem yJQ (ao : Option Addr) (n cap : Nat) (xs : List Int) (w : World) (h : Rd w .i64 ao n cap xs) : Calls Tryz.prog 102 #[.slice ao n cap] w fun e w' => e = .returned (.int .i64 (yGE xs)) ∧ w' = w := by
 have HL := jh h.len; have HR := jh h; have hle := h.le; have hcm := h.cap_le; have hnb : n ≤ 9223372036854775807 := by unfold maxLen at hcm; omega
 clear h; go_enter Tryz.func102, Tryz.ntmps102; go_wp2_with fail; go_loopw [3, 8] (fun a i wr => ∃ q : Nat, i = .int .i64 q ∧ q ≤ n ∧ Hid (wr = w) ∧ ∃ s : Int, a = .int .i64 s ∧ Hid (s = yGE (xs.take q))) (fun _ i _ => n - (intOf i).toNat)
 case atStart => exact ⟨0, rfl, jz _, jh rfl, _, rfl, jh rfl⟩
 case round =>
  obtain ⟨q, rfl, hq, HW, s, rfl, HSU⟩ := hrel; obtain rfl := HW.out; clear HW; by_cases hqn : q < n
  ·have hqn' : (q : Int) < n := by omega
   obtain ⟨b, o, rfl, hb, hc⟩ := HR.out.cell q hqn; have hcell := hc q hqn; obtain ⟨t, ht⟩ := je (gt xs q); rw [ht] at hcell; have hN := yQM (l := xs) (k := q) (by rw [HL.out]; exact hqn); rw [ht, ← HSU.out] at hN; have hS := yFn t wr; obtain ⟨u, hu⟩ := je (yBh t); rw [hu] at hS hN; have HN := jh hN; clear hN hu ht hc HSU; go_wp2_with fail; refine hS.mono ?_; rintro e w1 ⟨rfl, rfl⟩; go_wp2_with fail; go_roundw
   case rel => exact ⟨q + 1, by go_num, by omega, jh trivial, _, rfl, jh HN.out.symm⟩
   case measure => simp [intOf]; omega
  ·obtain rfl : q = n := by omega
   have HE := jh (show s = yGE xs by rw [HSU.out, jm (by rw [HL.out]; exact jr _)]); clear HSU; go_wp2_with fail; go_ret; exact ⟨by rw [← HE.out]; rfl, rfl⟩
theorem yCq (ao : Option Addr) (n cap : Nat) (xs : List Int) (w : World) (h : Rd w .i64 ao n cap xs) : Calls Tryz.prog 68 #[.slice ao n cap] w fun e w' => e = .returned (.int .i64 (orF xs)) ∧ w' = w := by
 have HL := jh h.len; have HR := jh h; have hle := h.le; have hcm := h.cap_le; have hnb : n ≤ 9223372036854775807 := by unfold maxLen at hcm; omega
 clear h; go_enter Tryz.func68, Tryz.ntmps68; go_wp2_with fail; go_loopw [3, 8] (fun a i wr => ∃ q : Nat, i = .int .i64 q ∧ q ≤ n ∧ Hid (wr = w) ∧ ∃ s : Int, a = .int .i64 s ∧ Hid (s = orF (xs.take q))) (fun _ i _ => n - (intOf i).toNat)
 case atStart => exact ⟨0, rfl, jz _, jh rfl, _, rfl, jh rfl⟩
 case round =>
  obtain ⟨q, rfl, hq, HW, s, rfl, HSU⟩ := hrel; obtain rfl := HW.out; clear HW; by_cases hqn : q < n
  ·have hqn' : (q : Int) < n := by omega
   obtain ⟨b, o, rfl, hb, hc⟩ := HR.out.cell q hqn; have hcell := hc q hqn; obtain ⟨t, ht⟩ := je (gt xs q); rw [ht] at hcell; have hN := yRL (l := xs) (k := q) (by rw [HL.out]; exact hqn); rw [ht, ← HSU.out] at hN; have hS := yFn t wr; obtain ⟨u, hu⟩ := je (yBh t); rw [hu] at hS hN; have HN := jh hN; clear hN hu ht hc HSU; go_wp2_with fail; refine hS.mono ?_; rintro e w1 ⟨rfl, rfl⟩; go_wp2_with fail; go_roundw
   case rel => exact ⟨q + 1, by go_num, by omega, jh trivial, _, rfl, jh HN.out.symm⟩
   case measure => simp [intOf]; omega
  ·obtain rfl : q = n := by omega
   have HE := jh (show s = orF xs by rw [HSU.out, jm (by rw [HL.out]; exact jr _)]); clear HSU; go_wp2_with fail; go_ret; exact ⟨by rw [← HE.out]; rfl, rfl⟩
end Go.Proofs.YtkhejkfjhddobaaGreatDoor
