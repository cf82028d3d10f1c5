/- Characters in memory (api.Char): slices of them, their appends. -/
import Derived.Test.YtpkdbfnnbbkkiaaDoorFeedDrain
import Derived.Deep.RegionLaw
import Derived.Deep.AppendLies
namespace Gim
open Go Go.RowKit
def cell6 (c : Ch6) : List Value := [.int .i32 c.1, .int .i64 c.2.1.1, .int .i64 c.2.1.2.1, .int .i64 c.2.1.2.2.1, .int .i64 c.2.1.2.2.2, .int .i64 c.2.2]
def cells6 (cs : List Ch6) : List Value := cs.flatMap cell6
theorem cells6_length : ∀ cs, (cells6 cs).length = cs.length * 6
  | [] => rfl
  | c :: cs => by
    have := cells6_length cs
    have e : cells6 (c :: cs) = cell6 c ++ cells6 cs := rfl
    rw [e, List.length_append, this]
    simp [cell6]
    omega
theorem cells6_get : ∀ {cs : List Ch6} {i : Nat} {c : Ch6}, cs[i]? = some c → ∀ k, k < 6 → (cells6 cs)[6 * i + k]? = (cell6 c)[k]?
  | [], i, c, h, k, hk => by simp at h
  | d :: cs, 0, c, h, k, hk => by
    simp only [List.getElem?_cons_zero, Option.some.injEq] at h
    subst h
    have e : cells6 (d :: cs) = cell6 d ++ cells6 cs := rfl
    rw [e, Nat.mul_zero, Nat.zero_add, List.getElem?_append_left (by simpa [cell6] using hk)]
  | d :: cs, i + 1, c, h, k, hk => by
    rw [List.getElem?_cons_succ] at h
    have hr := cells6_get h k hk
    have e : cells6 (d :: cs) = cell6 d ++ cells6 cs := rfl
    rw [e, show 6 * (i + 1) + k = (cell6 d).length + (6 * i + k) from by simp [cell6]; omega, List.getElem?_append_right (by omega), Nat.add_sub_cancel_left]
    exact hr
theorem cells6_app (a b : List Ch6) : cells6 (a ++ b) = cells6 a ++ cells6 b := by simp [cells6]
theorem cells6_one (cs : List Ch6) : ∀ u ∈ cells6 cs, u.oneCell' = true := by
  intro u hu
  obtain ⟨c, _, hc⟩ := List.mem_flatMap.1 hu
  simp only [cell6, List.mem_cons, List.not_mem_nil, or_false] at hc
  rcases hc with rfl | rfl | rfl | rfl | rfl | rfl <;> rfl
theorem six_new (w : World) (c : Ch6) (t : TypeId) : ∀ j u, (cell6 c)[j]? = some u → (w.alloc (.cells (cell6 c).toArray t)).cell? ((⟨w.heap.size, 0, none⟩ : Addr).add j) = some u := by
  intro j u hj
  have hn := heap_alloc_new w (.cells (cell6 c).toArray t)
  rw [Addr.add_lit]
  unfold World.cell?
  rw [hn]
  simpa using hj
end Gim
namespace Go.Proofs.YtpkdbfnnbbkkiaaDoor
open Go.RowKit Gim
theorem info_char : (Tryd.prog.info? 32).map (fun i => (i.zero, i.size, i.bytes)) = some (some (.agg #[.int .i32 0, .int .i64 0, .int .i64 0, .int .i64 0, .int .i64 0, .int .i64 0]), 6, 48) := by kernel_rfl
def Row6 (w : World) (B : Nat) (v : Value) (cs : List Ch6) : Prop := w.ownsRow B 32 6 v cs.length (cells6 cs)
theorem Row6.nil (w : World) (B : Nat) : Row6 w B (.slice none 0 0) [] := World.ownsRow_nil _ _ _ _
theorem Row6.fr {q : Nat → Prop} {w w1 : World} {B : Nat} {v : Value} {cs : List Ch6} (h : Row6 w B v cs) (hf : Fr q w w1) (hq : ∀ g, v.ownBlock = some g → ¬ q g) : Row6 w1 B v cs := by
  refine ⟨h.1, ?_⟩
  rcases h.2 with h2 | ⟨g, cap, cur, a, b, c, rest⟩
  · exact .inl h2
  · exact .inr ⟨g, cap, cur, a, b, (hf.block g (Array.getElem?_eq_some_iff.1 c).1 (hq g (by rw [a]; rfl))).trans c, rest⟩
theorem Row6.stays {w w1 : World} {B : Nat} {v : Value} {cs : List Ch6} (h : Row6 w B v cs) (hb : Below w.heap.size w w1) : Row6 w1 B v cs := h.fr (Fr.of (p := fun _ => False) hb) (fun _ _ x => x)
theorem Row6.ty {w : World} {B : Nat} {v : Value} {cs : List Ch6} (h : Row6 w B v cs) : ∀ g, v.ownBlock = some g → B ≤ g ∧ ∃ cur fr, w.heap[g]? = some (.cells cur 32 fr) := by
  intro g hg
  rcases h.2 with ⟨rfl, _⟩ | ⟨g', cap, cur, a, b, c, rest⟩
  · simp [Value.ownBlock] at hg
  · subst a
    simp only [Value.ownBlock, Option.some.injEq] at hg
    subst hg
    exact ⟨b, cur, _, c⟩
/-- characters to be read -/
structure Rd6 (w : World) (B : Nat) (ao : Option Addr) (n cap : Nat) (cs : List Ch6) : Prop where
  len : cs.length = n
  le : n ≤ cap
  cap_le : cap ≤ maxLen
  cell : 0 < n → ∃ g, ao = some ⟨g, 0, none⟩ ∧ B ≤ g ∧ g < w.heap.size ∧ ∀ i c, cs[i]? = some c → ∀ k, k < 6 → w.cell? ⟨g, i * 6 + k, none⟩ = (cell6 c)[k]?
theorem Row6.rd {w : World} {B : Nat} {v : Value} {cs : List Ch6} (h : Row6 w B v cs) : ∃ ao cap, v = .slice ao cs.length cap ∧ Rd6 w B ao cs.length cap cs ∧ (ao = none → cs = []) := by
  rcases h.2 with ⟨rfl, h0⟩ | ⟨g, cap, cur, rfl, hb, hg, hn, hc, hs, ht⟩
  · exact ⟨none, 0, by rw [h0], ⟨rfl, by omega, by unfold maxLen; omega, fun hh => by omega⟩, fun _ => List.eq_nil_of_length_eq_zero h0⟩
  · refine ⟨_, cap, rfl, ⟨rfl, hn, hc, fun _ => ⟨g, rfl, hb, (Array.getElem?_eq_some_iff.1 hg).1, fun i c hi k hk => ?_⟩⟩, fun h => by cases h⟩
    have hc6 := cells6_get hi k hk
    have hk2 : k < (cell6 c).length := by simpa [cell6] using hk
    rw [List.getElem?_eq_getElem hk2] at hc6 ⊢
    have h0 := World.ownsRow.cells (g := g) h rfl _ _ hc6
    rw [Addr.add_lit, Nat.zero_add, Nat.mul_comm 6 i] at h0
    exact h0
theorem Rd6.fr {q : Nat → Prop} {w w1 : World} {B : Nat} {ao : Option Addr} {n cap : Nat} {cs : List Ch6} (h : Rd6 w B ao n cap cs) (hf : Fr q w w1) (hq : ∀ a, ao = some a → ¬ q a.block) : Rd6 w1 B ao n cap cs :=
  ⟨h.len, h.le, h.cap_le, fun h0 => by
    obtain ⟨g, e, hB, hg, hc⟩ := h.cell h0
    refine ⟨g, e, hB, Nat.lt_of_lt_of_le hg hf.size, fun i c hi k hk => ?_⟩
    have := hf.block g hg (hq _ e)
    rw [← hc i c hi k hk]
    simp only [World.cell?, this]⟩
/-- 'append(out, c)' of one character -/
theorem append6 (w : World) {ops : Array Oper} {rest : List Oper} {o : Oper} {a : Act} {Q : Exit → Act → World → Prop} (hg : o.guard = none) (s x : Operand)
    (ho : o.op = .call { callee := .builtin .append, args := #[s, x], argTypes := #[24, 24] }) (B : Nat)
    (v : Value) (cs : List Ch6) (hs : a.eval s = v) (hrow : Row6 w B v cs) (c : Ch6) (hx : a.eval x = .slice (some ⟨w.heap.size, 0, none⟩) 1 1)
    (hlen : cs.length < 1099511627776) (hB : B ≤ w.heap.size)
    (hK : ∀ v' w', Row6 w' B v' (cs ++ [c]) → w.grownBy w' v.ownBlock → wpList Tryd.prog ops Q rest (a.put o.dst v') w') :
    wpList Tryd.prog ops Q (o :: rest) a (w.alloc (.cells (cell6 c).toArray 32)) := by
  obtain ⟨i0, hi, hz0, hz1, hz2⟩ := info_parts info_char
  refine wpList_append_own _ hg s x 24 ho B 32 i0 _ 6 48 Tryd.underlying24 hi hz0 hz1 hz2 rfl (by decide) v cs.length (cells6 cs) hs (World.ownsRow.alloc hrow _) ⟨w.heap.size, 0, none⟩ 1 1 (cell6 c) hx rfl (six_new _ _ _)
      (fun x hx => cells6_one [c] x (by simpa [cells6] using hx)) (by unfold maxLen; omega) (by omega) (by simp; omega) ?_
  intro v' w' h1 h2 _
  refine hK v' w' ?_ ?_
  · unfold Row6
    rw [List.length_append, cells6_app, show cells6 [c] = cell6 c from by simp [cells6]]
    exact h1
  · have h3 := World.grownBy_alloc w (.cells (cell6 c).toArray 32) v.ownBlock
    exact ⟨h2.os.trans h3.os, h2.tape.trans h3.tape, h2.output.trans h3.output, Nat.le_trans h3.size h2.size,
      fun j hj hne => (h2.block j (Nat.lt_of_lt_of_le hj h3.size) hne).trans (h3.block j hj hne)⟩
/-- 'append(all, c...)' of characters -/
theorem run_app6 (w : World) (B B2 : Nat) (v v2 : Value) (cs ds : List Ch6) (hrow : Row6 w B v cs) (hrow2 : Row6 w B2 v2 ds) (hlen : cs.length + ds.length ≤ 1099511627776) (hB : B ≤ w.heap.size) (ty : TypeId) :
    ∃ v' w', (Builtin.append_ #[24, 24] ty #[v, v2]).run Tryd.prog w = .ok v' w' ∧ Row6 w' B v' (cs ++ ds) ∧ w.grownBy w' v.ownBlock := by
  obtain ⟨i0, hi, hz0, hz1, hz2⟩ := info_parts info_char
  rcases hrow2.2 with ⟨rfl, h0⟩ | ⟨g, cap, cur, rfl, hb, hg, hn, hc, hs, ht⟩
  · obtain rfl : ds = [] := List.eq_nil_of_length_eq_zero h0
    refine ⟨v, w, run_append_owned_none (P := Tryd.prog) (w := w) B 24 ty 32 i0 6 Tryd.underlying24 hi v cs.length (cells6 cs) hrow, by rw [List.append_nil]; exact hrow, ⟨rfl, rfl, rfl, Nat.le_refl _, fun _ _ _ => rfl⟩⟩
  · obtain ⟨v', w', hrun, r1, r2, _, r5⟩ := run_append_own_at (P := Tryd.prog) w B 24 ty 32 i0 _ 6 48 Tryd.underlying24 hi hz0 hz1 hz2 rfl (by decide) v cs.length (cells6 cs) hrow ⟨g, 0, none⟩ ds.length cap (cells6 ds) (cells6_length ds)
      (fun j u hj => World.ownsRow.cells (g := g) hrow2 rfl _ _ hj) (cells6_one ds) (by unfold maxLen; omega) (by omega) hB
    exact ⟨v', w', hrun, by unfold Row6; rw [List.length_append, cells6_app]; exact r1, r2⟩
theorem wpList_app6 (w : World) {ops : Array Oper} {rest : List Oper} {o : Oper} {a : Act} {Q : Exit → Act → World → Prop} (hg : o.guard = none) (s x : Operand)
    (ho : o.op = .call { callee := .builtin .append, args := #[s, x], argTypes := #[24, 24] }) (B B2 : Nat) (v v2 : Value) (cs ds : List Ch6) (hs : a.eval s = v) (hrow : Row6 w B v cs) (hx : a.eval x = v2) (hrow2 : Row6 w B2 v2 ds)
    (hlen : cs.length + ds.length ≤ 1099511627776) (hB : B ≤ w.heap.size)
    (hK : ∀ v' w', Row6 w' B v' (cs ++ ds) → w.grownBy w' v.ownBlock → wpList Tryd.prog ops Q rest (a.put o.dst v') w') :
    wpList Tryd.prog ops Q (o :: rest) a w := by
  refine wpList_plain hg fun K hK' => ?_
  obtain ⟨v', w', hrun, h1, h2⟩ := run_app6 w B B2 v v2 cs ds hrow hrow2 hlen hB o.type
  unfold Oper.wp execOp
  simp only [ho, resolve, invoke, builtin, Sem.run_bind, Sem.run_pure, Result.andThen_ok, List.map_toArray, List.map_cons, List.map_nil, hs, hx, hrun]
  exact hK' _ _ (hK v' w' h1 h2)
theorem step_app6 (w : World) {ops : Array Oper} {o : Oper} {a : Act} {K : Act → World → Prop} {Q : Exit → Act → World → Prop} {E : Prop} (hgd : o.guard = none) (s x : Operand)
    (ho : o.op = .call { callee := .builtin .append, args := #[s, x], argTypes := #[24, 24] }) (B B2 : Nat) (v v2 : Value) (cs ds : List Ch6) (hs : a.eval s = v) (hrow : Row6 w B v cs) (hx : a.eval x = v2) (hrow2 : Row6 w B2 v2 ds)
    (hlen : cs.length + ds.length ≤ 1099511627776) (hB : B ≤ w.heap.size)
    (hK : ∀ v' w', Row6 w' B v' (cs ++ ds) → w.grownBy w' v.ownBlock → K (a.put o.dst v') w') :
    if Region.wanted o (yielded ops a.tmps) = true then Oper.wp Tryd.prog o a w K Q else E := by
  have hw : Region.wanted o (yielded ops a.tmps) = true := by simp [Region.wanted, hgd]
  rw [if_pos hw]
  obtain ⟨v', w', hrun, h1, h2⟩ := run_app6 w B B2 v v2 cs ds hrow hrow2 hlen hB o.type
  unfold Oper.wp execOp
  simp only [ho, resolve, invoke, builtin, Sem.run_bind, Sem.run_pure, Result.andThen_ok, List.map_toArray, List.map_cons, List.map_nil, hs, hx, hrun]
  exact hK v' w' h1 h2
end Go.Proofs.YtpkdbfnnbbkkiaaDoor
