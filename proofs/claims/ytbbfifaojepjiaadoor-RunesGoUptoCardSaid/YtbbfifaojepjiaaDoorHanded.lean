/- Slices of numbers that were handed in. -/
import Derived.Test.YtbbfifaojepjiaaDoorBase
import Derived.Laws.AppendOwnNone
namespace Gim
open Go Go.RowKit
/-- a slice of numbers that was handed in is there to be read -/
theorem rd_of_cells {w : World} {k : IntKind} {a : Addr} {len cap : Nat} {zs : List Int} (hl : len ≤ cap) (hm : cap ≤ maxLen) (hz : len ≤ zs.length)
    (hc : ∀ i, i < zs.length → w.cell? (a.add i) = some (.int k (zs.getD i 0))) : Rd w k (some a) len cap (zs.take len) :=
  ⟨by simp; omega, hl, hm, fun j hj => by
    have h0 := hc 0 (by omega)
    have hs : a.spot = none ∧ a.block < w.heap.size := by
      have h1 : w.cell? a = some (.int k (zs.getD 0 0)) := by simpa [Addr.add] using h0
      unfold World.cell? at h1
      split at h1
      · rename_i c hh
        refine ⟨?_, (Array.getElem?_eq_some_iff.1 hh).1⟩
        cases hp : a.spot with
        | none => rfl
        | some v => rw [hp] at h1; simp at h1
      · simp at h1
    obtain ⟨b, o, p⟩ := a
    obtain ⟨hp, hb⟩ := hs
    simp only [] at hp hb
    subst hp
    exact ⟨b, o, rfl, hb, fun i hi => by
      have h1 := hc i (by omega)
      rw [Addr.add_lit] at h1
      rw [h1]
      simp [gt, hi]⟩⟩
theorem wf_u8 {x : Int} (h : (Lit.int .u8 x).wf = true) : 0 ≤ x ∧ x ≤ 255 := by
  simp [Lit.wf, IntKind.min, IntKind.max, IntKind.signed, IntKind.bits] at h
  exact h
theorem gt_all {P : Int → Prop} {xs : List Int} {n : Nat} (hl : xs.length = n) (h : ∀ x ∈ xs, P x) : ∀ j, j < n → P (gt xs j) := fun j hj => by
  rw [gt_lt (by omega)]
  exact h _ (List.getElem_mem _)
end Gim
namespace Go.Proofs.YtbbfifaojepjiaaDoor
open Go.RowKit Gim
theorem info_u8 : (Tryd.prog.info? 5).map (fun i => (i.zero, i.size, i.bytes)) = some (some (.int .u8 0), 1, 1) := by kernel_rfl
/-- 'append(v, b...)': v a slice of the call's own, b any bytes -/
theorem append_rd (w : World) {ops : Array Oper} {rest : List Oper} {o : Oper} {a : Act} {Q : Exit → Act → World → Prop} (hg : o.guard = none) (s x : Operand)
    (ho : o.op = .call { callee := .builtin .append, args := #[s, x], argTypes := #[32, 32] }) (B : Nat)
    (v : Value) (ys : List Int) (hs : a.eval s = v) (hrow : Row w B 5 .u8 v ys) (ao : Option Addr) (n cap : Nat) (xs : List Int) (hx : a.eval x = .slice ao n cap) (hrd : Rd w .u8 ao n cap xs)
    (hnone : ao = none → n = 0 ∧ cap = 0) (hlen : ys.length + n ≤ 140737488355328) (hB : B ≤ w.heap.size)
    (hK : ∀ v' w', Row w' B 5 .u8 v' (ys ++ xs) → w.grownBy w' v.ownBlock → wpList Tryd.prog ops Q rest (a.put o.dst v') w') :
    wpList Tryd.prog ops Q (o :: rest) a w := by
  obtain ⟨i0, hi, hz0, hz1, hz2⟩ := info_parts info_u8
  have hl := hrd.len
  cases ao with
  | none =>
    obtain ⟨rfl, rfl⟩ := hnone rfl
    obtain rfl : xs = [] := List.eq_nil_of_length_eq_zero hl
    refine wpList_append_own_none hg s x 32 ho B 5 i0 1 Tryd.underlying32 hi v ys.length (ys.map (Value.int .u8)) hs hrow hx (hK _ _ (by rw [List.append_nil]; exact hrow) ?_)
    exact ⟨rfl, rfl, rfl, Nat.le_refl _, fun _ _ _ => rfl⟩
  | some ad =>
    refine wpList_append_own _ hg s x 32 ho B 5 i0 (.int .u8 0) 1 1 Tryd.underlying32 hi hz0 hz1 hz2 rfl (by decide) v ys.length (ys.map (Value.int .u8)) hs hrow ad n cap (xs.map (Value.int .u8)) hx (by simp; omega) ?_ ?_ (by unfold maxLen; omega) (by omega) hB ?_
    · intro j u hu
      obtain ⟨hj, rfl⟩ : j < xs.length ∧ u = .int .u8 (gt xs j) := by
        rw [List.getElem?_map] at hu
        cases hj : xs[j]? with
        | none => rw [hj] at hu; simp at hu
        | some y =>
          rw [hj] at hu
          obtain ⟨h1, h2⟩ := List.getElem?_eq_some_iff.1 hj
          exact ⟨h1, by rw [gt_lt h1, h2]; simpa using hu.symm⟩
      obtain ⟨b, o', h1, h2, h3⟩ := hrd.cell j (by omega)
      simp only [Option.some.injEq] at h1
      subst h1
      rw [Addr.add_lit]
      exact h3 j (by omega)
    · intro u hu
      simp only [List.mem_map] at hu
      obtain ⟨y, _, rfl⟩ := hu
      rfl
    · intro v' w' h1 h2 _
      refine hK v' w' ?_ h2
      unfold Row
      rw [List.map_append, List.length_append, hl]
      exact h1
/-- the same behind a guard that lets it be carried out -/
theorem append_rdG (w : World) {ops : Array Oper} {rest : List Oper} {o : Oper} {a : Act} {Q : Exit → Act → World → Prop} (hg : Region.wanted o (yielded ops a.tmps) = true) (s x : Operand)
    (ho : o.op = .call { callee := .builtin .append, args := #[s, x], argTypes := #[32, 32] }) (B : Nat)
    (v : Value) (ys : List Int) (hs : a.eval s = v) (hrow : Row w B 5 .u8 v ys) (ad : Addr) (n cap : Nat) (xs : List Int) (hx : a.eval x = .slice (some ad) n cap) (hrd : Rd w .u8 (some ad) n cap xs)
    (hlen : ys.length + n ≤ 140737488355328) (hB : B ≤ w.heap.size)
    (hK : ∀ v' w', Row w' B 5 .u8 v' (ys ++ xs) → w.grownBy w' v.ownBlock → wpList Tryd.prog ops Q rest (a.put o.dst v') w') :
    wpList Tryd.prog ops Q (o :: rest) a w := by
  obtain ⟨i0, hi, hz0, hz1, hz2⟩ := info_parts info_u8
  have hl := hrd.len
  refine wpList_step fun K hK' => ?_
  rw [if_pos hg]
  refine wp_append_own w s x 32 ho B 5 i0 (.int .u8 0) 1 1 Tryd.underlying32 hi hz0 hz1 hz2 rfl (by decide) v ys.length (ys.map (Value.int .u8)) hs hrow ad n cap (xs.map (Value.int .u8)) hx (by simp; omega) ?_ ?_ (by unfold maxLen; omega) (by omega) hB ?_
  · intro j u hu
    obtain ⟨hj, rfl⟩ : j < xs.length ∧ u = .int .u8 (gt xs j) := by
      rw [List.getElem?_map] at hu
      cases hj : xs[j]? with
      | none => rw [hj] at hu; simp at hu
      | some y =>
        rw [hj] at hu
        obtain ⟨h1, h2⟩ := List.getElem?_eq_some_iff.1 hj
        exact ⟨h1, by rw [gt_lt h1, h2]; simpa using hu.symm⟩
    obtain ⟨b, o', h1, h2, h3⟩ := hrd.cell j (by omega)
    simp only [Option.some.injEq] at h1
    subst h1
    rw [Addr.add_lit]
    exact h3 j (by omega)
  · intro u hu
    simp only [List.mem_map] at hu
    obtain ⟨y, _, rfl⟩ := hu
    rfl
  · intro v' w' h1 h2 _
    refine hK' _ _ (hK v' w' ?_ h2)
    unfold Row
    rw [List.map_append, List.length_append, hl]
    exact h1
end Go.Proofs.YtbbfifaojepjiaaDoor
