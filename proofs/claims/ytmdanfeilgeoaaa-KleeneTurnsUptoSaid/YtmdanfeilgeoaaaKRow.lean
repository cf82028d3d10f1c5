/- Slices of formulas that the call owns, their appends; constants, variables. -/
import Derived.Test.YtmdanfeilgeoaaaKOrder
import Derived.Test.YtmdanfeilgeoaaaKVals
import Derived.Laws.AppendOwnNone
namespace Gim
open Go Go.RowKit Go.Sort
/-- a formula's four cells -/
abbrev N4 := Int × Int × Int × (Option Addr × Nat × Nat)
def cell4 (c : N4) : List Value := [.int .i64 c.1, .int .i64 c.2.1, .int .i64 c.2.2.1, .slice c.2.2.2.1 c.2.2.2.2.1 c.2.2.2.2.2]
def cells4 (cs : List N4) : List Value := cs.flatMap cell4
theorem cells4_length : ∀ cs, (cells4 cs).length = cs.length * 4
  | [] => rfl
  | c :: cs => by
    have := cells4_length cs
    have e : cells4 (c :: cs) = cell4 c ++ cells4 cs := rfl
    rw [e, List.length_append, this]
    simp [cell4]
    omega
theorem cells4_get : ∀ {cs : List N4} {i : Nat} {c : N4}, cs[i]? = some c → ∀ k, k < 4 → (cells4 cs)[i * 4 + k]? = (cell4 c)[k]?
  | [], i, c, h, k, hk => by simp at h
  | d :: cs, 0, c, h, k, hk => by
    simp only [List.getElem?_cons_zero, Option.some.injEq] at h
    subst h
    have e : cells4 (d :: cs) = cell4 d ++ cells4 cs := rfl
    rw [e, Nat.zero_mul, Nat.zero_add, List.getElem?_append_left (by simpa [cell4] using hk)]
  | d :: cs, i + 1, c, h, k, hk => by
    rw [List.getElem?_cons_succ] at h
    have hr := cells4_get h k hk
    have e : cells4 (d :: cs) = cell4 d ++ cells4 cs := rfl
    rw [e, show (i + 1) * 4 + k = (cell4 d).length + (i * 4 + k) from by simp [cell4]; omega, List.getElem?_append_right (by omega), Nat.add_sub_cancel_left]
    exact hr
theorem cells4_app (a b : List N4) : cells4 (a ++ b) = cells4 a ++ cells4 b := by simp [cells4]
theorem cells4_one (cs : List N4) : ∀ u ∈ cells4 cs, u.oneCell' = true := by
  intro u hu
  obtain ⟨c, _, hc⟩ := List.mem_flatMap.1 hu
  simp only [cell4, List.mem_cons, List.not_mem_nil, or_false] at hc
  rcases hc with rfl | rfl | rfl | rfl <;> rfl
theorem four_new (w : World) (c : N4) (t : TypeId) : ∀ j u, (cell4 c)[j]? = some u → (w.alloc (.cells (cell4 c).toArray t)).cell? ((⟨w.heap.size, 0, none⟩ : Addr).add j) = some u := by
  intro j u hj
  have hn := heap_alloc_new w (.cells (cell4 c).toArray t)
  rw [Addr.add_lit]
  unfold World.cell?
  rw [hn]
  simpa using hj
end Gim
namespace Go.Proofs.Ytmdanfeilgeoaaa
open Go.RowKit Gim Go.Sort
theorem info_form : (Try.prog.info? 26).map (fun i => (i.zero, i.size, i.bytes)) = some (some (.agg #[.int .i64 0, .int .i64 0, .int .i64 0, .slice none 0 0]), 4, 48) := by kernel_rfl
def Row4 (w : World) (B : Nat) (v : Value) (cs : List N4) : Prop := w.ownsRow B 26 4 v cs.length (cells4 cs)
theorem Row4.nil (w : World) (B : Nat) : Row4 w B (.slice none 0 0) [] := World.ownsRow_nil _ _ _ _
theorem Row4.stays {w w1 : World} {B : Nat} {v : Value} {cs : List N4} (h : Row4 w B v cs) (hb : Below w.heap.size w w1) : Row4 w1 B v cs := by
  refine ⟨h.1, ?_⟩
  rcases h.2 with h2 | ⟨g, cap, cur, a, b, c, rest⟩
  · exact .inl h2
  · exact .inr ⟨g, cap, cur, a, b, (hb.block g (Array.getElem?_eq_some_iff.1 c).1).trans c, rest⟩
theorem Row4.lt {w : World} {B : Nat} {v : Value} {cs : List N4} (h : Row4 w B v cs) : ∀ g, v.ownBlock = some g → B ≤ g ∧ g < w.heap.size := World.ownsRow.lt h
/-- 'append(args, a)' of one formula -/
theorem append4 (w : World) {ops : Array Oper} {rest : List Oper} {o : Oper} {a : Act} {Q : Exit → Act → World → Prop} (hg : o.guard = none) (s x : Operand)
    (ho : o.op = .call { callee := .builtin .append, args := #[s, x], argTypes := #[24, 24] }) (B : Nat)
    (v : Value) (cs : List N4) (hs : a.eval s = v) (hrow : Row4 w B v cs) (c : N4) (hx : a.eval x = .slice (some ⟨w.heap.size, 0, none⟩) 1 1)
    (hlen : cs.length < 1099511627776) (hB : B ≤ w.heap.size)
    (hK : ∀ v' w', Row4 w' B v' (cs ++ [c]) → w.grownBy w' v.ownBlock → wpList Try.prog ops Q rest (a.put o.dst v') w') :
    wpList Try.prog ops Q (o :: rest) a (w.alloc (.cells (cell4 c).toArray 26)) := by
  obtain ⟨i0, hi, hz0, hz1, hz2⟩ := info_parts info_form
  refine wpList_append_own _ hg s x 24 ho B 26 i0 _ 4 48 Try.underlying24 hi hz0 hz1 hz2 rfl (by decide) v cs.length (cells4 cs) hs (World.ownsRow.alloc hrow _) ⟨w.heap.size, 0, none⟩ 1 1 (cell4 c) hx rfl (four_new _ _ _)
      (fun x hx => cells4_one [c] x (by simpa [cells4] using hx)) (by unfold maxLen; omega) (by omega) (by simp; omega) ?_
  intro v' w' h1 h2 _
  refine hK v' w' ?_ ?_
  · unfold Row4
    rw [List.length_append, cells4_app, show cells4 [c] = cell4 c from by simp [cells4]]
    exact h1
  · have h3 := World.grownBy_alloc w (.cells (cell4 c).toArray 26) v.ownBlock
    exact ⟨h2.os.trans h3.os, h2.tape.trans h3.tape, h2.output.trans h3.output, Nat.le_trans h3.size h2.size,
      fun j hj hne => (h2.block j (Nat.lt_of_lt_of_le hj h3.size) hne).trans (h3.block j hj hne)⟩
theorem constant_calls (t : Int) (w : World) : Calls Try.prog 45 #[.int .i64 t] w fun e w' => e = .returned (.agg #[.int .i64 0, .int .i64 t, .int .i64 0, .slice none 0 0]) ∧ Grows w w' := by
  go_enter Try.func45, Try.ntmps45
  go_wp2
  refine bodyPost_ret (v := .agg #[.int .i64 0, .int .i64 t, .int .i64 0, .slice none 0 0]) ?_ rfl ?_
  · simp [results, Try.f45, go_sem]
  · exact ⟨rfl, (Grows.refl w).alloc _⟩
theorem simple_var (x : Int) (hx : 0 ≤ x) (w : World) : Calls Try.prog 31 #[.agg #[.int .i64 1, .int .i64 0, .int .i64 x, .slice none 0 0], .slice none 0 0] w fun e w' => e = .returned (.agg #[.int .i64 1, .int .i64 0, .int .i64 x, .slice none 0 0]) ∧ Grows w w' := by
  go_enter Try.func31, Try.ntmps31
  go_wp2_with fail
  refine bodyPost_ret (v := .agg #[.int .i64 1, .int .i64 0, .int .i64 x, .slice none 0 0]) ?_ rfl ?_
  · simp [results, Try.f31, go_sem]
  · exact ⟨rfl, ((Grows.refl w).alloc _).alloc _⟩
end Go.Proofs.Ytmdanfeilgeoaaa
