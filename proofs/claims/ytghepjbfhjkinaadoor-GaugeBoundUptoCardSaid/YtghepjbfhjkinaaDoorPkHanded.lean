/- Counts that were handed in. -/
import Derived.Test.YtghepjbfhjkinaaDoorBase
import Derived.Laws.AppendOwnNone
import Derived.Deep.Strs
import Derived.ChangeSlices
namespace Gim
open Go Go.RowKit
/-- a slice of counts, to be read -/
structure Cd (w : World) (ao : Option Addr) (n cap : Nat) (zs : List (Int × Int × Int)) : Prop where
  len : zs.length = n
  le : n ≤ cap
  cap_le : cap ≤ maxLen
  cell : ∀ j, j < n → ∃ b o, ao = some ⟨b, o, none⟩ ∧ b < w.heap.size ∧ ∀ i y, zs[i]? = some y → w.cell? ⟨b, o + i * 3, none⟩ = some (.int .i64 y.1) ∧ w.cell? ⟨b, o + (i * 3 + 1), none⟩ = some (.int .i64 y.2.1) ∧ w.cell? ⟨b, o + (i * 3 + 2), none⟩ = some (.int .i64 y.2.2)
theorem Cd.below {w w' : World} {ao : Option Addr} {n cap : Nat} {zs : List (Int × Int × Int)} (h : Cd w ao n cap zs) (hb : Below w.heap.size w w') : Cd w' ao n cap zs :=
  ⟨h.len, h.le, h.cap_le, fun j hj => by
    obtain ⟨b, o, e, k, hc⟩ := h.cell j hj
    exact ⟨b, o, e, Nat.lt_of_lt_of_le k hb.size, fun i y hy => ⟨(hb.cell (p := ⟨b, o + i * 3, none⟩) k).trans (hc i y hy).1, (hb.cell (p := ⟨b, o + (i * 3 + 1), none⟩) k).trans (hc i y hy).2.1, (hb.cell (p := ⟨b, o + (i * 3 + 2), none⟩) k).trans (hc i y hy).2.2⟩⟩⟩
def cell3 (c : Int × Int × Int) : List Value := [.int .i64 c.1, .int .i64 c.2.1, .int .i64 c.2.2]
def cells3 (cs : List (Int × Int × Int)) : List Value := cs.flatMap cell3
theorem cells3_length : ∀ cs, (cells3 cs).length = cs.length * 3
  | [] => rfl
  | c :: cs => by
    have := cells3_length cs
    have e : cells3 (c :: cs) = cell3 c ++ cells3 cs := rfl
    rw [e, List.length_append, this]
    simp [cell3]
    omega
theorem cells3_get : ∀ {cs : List (Int × Int × Int)} {i : Nat} {c : Int × Int × Int}, cs[i]? = some c → ∀ k, k < 3 → (cells3 cs)[i * 3 + k]? = (cell3 c)[k]?
  | [], i, c, h, k, hk => by simp at h
  | d :: cs, 0, c, h, k, hk => by
    simp only [List.getElem?_cons_zero, Option.some.injEq] at h
    subst h
    have e : cells3 (d :: cs) = cell3 d ++ cells3 cs := rfl
    rw [e, Nat.zero_mul, Nat.zero_add, List.getElem?_append_left (by simpa [cell3] using hk)]
  | d :: cs, i + 1, c, h, k, hk => by
    rw [List.getElem?_cons_succ] at h
    have hr := cells3_get h k hk
    have e : cells3 (d :: cs) = cell3 d ++ cells3 cs := rfl
    rw [e, show (i + 1) * 3 + k = (cell3 d).length + (i * 3 + k) from by simp [cell3]; omega, List.getElem?_append_right (by omega), Nat.add_sub_cancel_left]
    exact hr
theorem cells3_one (cs : List (Int × Int × Int)) : ∀ u ∈ cells3 cs, u.oneCell' = true := by
  intro u hu
  obtain ⟨c, _, hc⟩ := List.mem_flatMap.1 hu
  simp only [cell3, List.mem_cons, List.not_mem_nil, or_false] at hc
  rcases hc with rfl | rfl | rfl <;> rfl
end Gim
namespace Go.Proofs.YtghepjbfhjkinaaDoor
open Go.RowKit Gim Go.WideShapes
section
variable {H : Type} {enc : TypeId × Value → H} {w : World} {base : Nat} {spare : Nat → Bool} {held : Bool}
/-- a call as data -/
def cntD (x : Int × Int × Int) : DataW H := .agg [.lit (.int .i64 x.1), .lit (.int .i64 x.2.1), .lit (.int .i64 x.2.2)]
theorem cnt_cells {n : Nat} {cs : List Value} {y : DataW H × List MemPlace} (h : DataW.trod enc Tryd.prog w base spare held n 39 cs = some y) (hl : cs.length = 3) :
    ∃ x : Int × Int × Int, cs = [.int .i64 x.1, .int .i64 x.2.1, .int .i64 x.2.2] ∧ y.1 = cntD x := by
  obtain ⟨y0, y1, y2, m, hx, _, h0, h1, h2⟩ := Go.Deep.trod_struct3 Tryd.underlying39 h
  match cs, hl with
  | [a, b, c], _ =>
    have e0 : Tryd.prog.cellsOf 3 = 1 := by kernel_rfl
    have h0 : DataW.trod enc Tryd.prog w base spare held m 3 [a] = some y0 := by simpa [e0] using h0
    have h1 : DataW.trod enc Tryd.prog w base spare held m 3 [b] = some y1 := by simpa [e0] using h1
    have h2 : DataW.trod enc Tryd.prog w base spare held m 3 [c] = some y2 := by simpa [e0] using h2
    obtain ⟨k, hk, hy0, _⟩ := DataW.trod_int Tryd.underlying3 h0
    obtain ⟨q, hq, hy1, _⟩ := DataW.trod_int Tryd.underlying3 h1
    obtain ⟨s, hs, hy2, _⟩ := DataW.trod_int Tryd.underlying3 h2
    refine ⟨(k, q, s), ?_, ?_⟩
    · simp only [List.cons.injEq, and_true] at hk hq hs
      rw [hk, hq, hs]
    · rw [hx, hy0, hy1, hy2]; rfl
theorem open_cnts {fuel : Nat} {cs : List Value} {x : DataW H × List MemPlace} (h : DataW.trod enc Tryd.prog w base spare held fuel 41 cs = some x) :
    cs = [.slice none 0 0] ∨ ∃ (a : Addr) (len cap : Nat) (os : List (Int × Int × Int)) (sp : List (DataW H)), cs = [.slice (some a) len cap] ∧ len ≤ cap ∧ cap ≤ maxLen ∧ os.length = len ∧ x.1 = .slice (os.map cntD) sp ∧
      ∀ i y, os[i]? = some y → w.cell? (a.add (i * 3)) = some (.int .i64 y.1) ∧ w.cell? (a.add (i * 3 + 1)) = some (.int .i64 y.2.1) ∧ w.cell? (a.add (i * 3 + 2)) = some (.int .i64 y.2.2) := by
  rcases DataW.trod_slice Tryd.underlying41 h with h0 | ⟨a, len, cap, elems, rest, n, _, rfl, rfl, hb, hl, hm, hlen, hel, _⟩
  · exact .inl h0.1
  right
  have e3 : Tryd.prog.cellsOf 39 = 3 := by kernel_rfl
  have each : ∀ i : Fin elems.length, ∃ y : Int × Int × Int, (elems[i]).1 = cntD y ∧ w.cell? (a.add (i * 3)) = some (.int .i64 y.1) ∧ w.cell? (a.add (i * 3 + 1)) = some (.int .i64 y.2.1) ∧ w.cell? (a.add (i * 3 + 2)) = some (.int .i64 y.2.2) := by
    intro i
    have hi := hel i (by have := i.2; omega)
    rw [e3, show elems[(i : Nat)]? = some elems[i] from List.getElem?_eq_getElem i.2, Option.bind_eq_some_iff] at hi
    obtain ⟨cs', hcs, hy⟩ := hi
    obtain ⟨_, hl3, hc⟩ := World.cells?_some hcs
    obtain ⟨y, rfl, hy1⟩ := cnt_cells hy hl3
    have ad : ∀ m j : Nat, (a.add m).add j = a.add (m + j) := fun m j => by
      unfold Addr.add
      by_cases h1 : m = 0 <;> by_cases h2 : j = 0 <;> simp [h1, h2, Nat.add_assoc]
    refine ⟨y, hy1, by simpa [Addr.add] using hc 0 (by omega), ?_, ?_⟩
    · have := hc 1 (by omega)
      rw [ad] at this
      exact this
    · have := hc 2 (by omega)
      rw [ad] at this
      exact this
  obtain ⟨f, hf⟩ := Classical.axiomOfChoice each
  refine ⟨a, len, cap, List.ofFn f, rest.map (·.1), rfl, hl, hm, by rw [List.length_ofFn]; exact hlen, ?_, fun i y hy => ?_⟩
  · show DataW.slice _ _ = _
    congr 1
    refine List.ext_getElem (by simp) fun j h1 h2 => ?_
    simp only [List.getElem_map, List.getElem_ofFn]
    exact (hf ⟨j, by simpa using h1⟩).1
  · rw [List.getElem?_ofFn] at hy
    split at hy
    · rename_i hlt
      cases hy
      exact (hf ⟨i, hlt⟩).2
    · cases hy
end
theorem info_cnt : (Tryd.prog.info? 39).map (fun i => (i.zero, i.size, i.bytes)) = some (some (.agg #[.int .i64 0, .int .i64 0, .int .i64 0]), 3, 24) := by kernel_rfl
def Row3 (w : World) (B : Nat) (v : Value) (cs : List (Int × Int × Int)) : Prop := w.ownsRow B 39 3 v cs.length (cells3 cs)
theorem row3_empty (w : World) (B : Nat) (hB : B ≤ w.heap.size) : Row3 (w.alloc (.cells #[] 39)) B (.slice (some ⟨w.heap.size, 0, none⟩) 0 0) [] :=
  ⟨by simp [cells3], .inr ⟨w.heap.size, 0, #[], rfl, hB, heap_alloc_new w _, by simp, by unfold maxLen; omega, by simp, by simp [cells3]⟩⟩
theorem Row3.lt {w : World} {B : Nat} {v : Value} {cs : List (Int × Int × Int)} (h : Row3 w B v cs) : ∀ g, v.ownBlock = some g → B ≤ g ∧ g < w.heap.size := World.ownsRow.lt h
theorem Row3.rd {w : World} {B : Nat} {v : Value} {cs : List (Int × Int × Int)} (h : Row3 w B v cs) : ∃ ao cap, v = .slice ao cs.length cap ∧ Cd w ao cs.length cap cs := by
  rcases h.2 with ⟨rfl, h0⟩ | ⟨g, cap, cur, rfl, hb, hg, hn, hc, hs, ht⟩
  · exact ⟨none, 0, by rw [h0], rfl, by omega, by unfold maxLen; omega, fun j hj => by omega⟩
  · refine ⟨_, cap, rfl, rfl, hn, hc, fun j hj => ⟨g, 0, rfl, (Array.getElem?_eq_some_iff.1 hg).1, fun i y hy => ?_⟩⟩
    have hk : ∀ k u, k < 3 → (cell3 y)[k]? = some u → w.cell? ⟨g, 0 + (i * 3 + k), none⟩ = some u := fun k u hk hu => by
      have h0 := World.ownsRow.cells (g := g) h rfl (i * 3 + k) u ((cells3_get hy k hk).trans hu)
      rw [Addr.add_lit] at h0
      exact h0
    exact ⟨hk 0 _ (by omega) rfl, hk 1 _ (by omega) rfl, hk 2 _ (by omega) rfl⟩
/-- 'append(v, list...)' of counts -/
theorem append_cd (w : World) {ops : Array Oper} {rest : List Oper} {o : Oper} {a : Act} {Q : Exit → Act → World → Prop} (hg : o.guard = none) (s x : Operand)
    (ho : o.op = .call { callee := .builtin .append, args := #[s, x], argTypes := #[41, 41] }) (B : Nat)
    (v : Value) (ys : List (Int × Int × Int)) (hs : a.eval s = v) (hrow : Row3 w B v ys) (ao : Option Addr) (n cap : Nat) (xs : List (Int × Int × Int)) (hx : a.eval x = .slice ao n cap) (hrd : Cd w ao n cap xs)
    (hnone : ao = none → n = 0 ∧ cap = 0) (hlen : ys.length + n ≤ 1099511627776) (hB : B ≤ w.heap.size)
    (hK : ∀ v' w', Row3 w' B v' (ys ++ xs) → w.grownBy w' v.ownBlock → wpList Tryd.prog ops Q rest (a.put o.dst v') w') :
    wpList Tryd.prog ops Q (o :: rest) a w := by
  obtain ⟨i0, hi, hz0, hz1, hz2⟩ := info_parts info_cnt
  have hl := hrd.len
  cases ao with
  | none =>
    obtain ⟨rfl, rfl⟩ := hnone rfl
    obtain rfl : xs = [] := List.eq_nil_of_length_eq_zero hl
    refine wpList_append_own_none hg s x 41 ho B 39 i0 3 Tryd.underlying41 hi v ys.length (cells3 ys) hs hrow hx (hK _ _ (by rw [List.append_nil]; exact hrow) ?_)
    exact ⟨rfl, rfl, rfl, Nat.le_refl _, fun _ _ _ => rfl⟩
  | some ad =>
    refine wpList_append_own _ hg s x 41 ho B 39 i0 _ 3 24 Tryd.underlying41 hi hz0 hz1 hz2 rfl (by decide) v ys.length (cells3 ys) hs hrow ad n cap (cells3 xs) hx (by rw [cells3_length, hl]) ?_ (cells3_one xs) (by unfold maxLen; omega) (by omega) hB ?_
    · intro j u hu
      have hj := (List.getElem?_eq_some_iff.1 hu).1
      rw [cells3_length] at hj
      have hi3 : j / 3 < xs.length := by omega
      obtain ⟨b, o', h1, h2, h3⟩ := hrd.cell (j / 3) (by omega)
      simp only [Option.some.injEq] at h1
      subst h1
      rw [Addr.add_lit]
      obtain ⟨k0, k1, k2⟩ := h3 (j / 3) xs[j / 3] (List.getElem?_eq_getElem hi3)
      have hk3 : j % 3 < 3 := by omega
      have hget := cells3_get (List.getElem?_eq_getElem hi3) (j % 3) hk3
      rw [show j / 3 * 3 + j % 3 = j by omega, hu] at hget
      obtain ⟨m, hm⟩ : ∃ m, j % 3 = m := ⟨_, rfl⟩
      rw [hm] at hget hk3
      match m, hk3, hm, hget with
      | 0, _, hm, hget => rw [show j = j / 3 * 3 by omega, k0]; exact hget.symm
      | 1, _, hm, hget => rw [show o' + j = o' + (j / 3 * 3 + 1) by omega, k1]; exact hget.symm
      | 2, _, hm, hget => rw [show o' + j = o' + (j / 3 * 3 + 2) by omega, k2]; exact hget.symm
    · intro v' w' h1 h2 _
      refine hK v' w' ?_ h2
      unfold Row3 cells3
      rw [List.length_append, hl, List.flatMap_append]
      exact h1
end Go.Proofs.YtghepjbfhjkinaaDoor
namespace Gim
open Go Go.RowKit
/-- a slice of counts that was handed in is there to be read -/
theorem cd_of_cells {w : World} {a : Addr} {len cap : Nat} {os : List (Int × Int × Int)} (hl : len ≤ cap) (hm : cap ≤ maxLen) (hz : os.length = len)
    (hc : ∀ i y, os[i]? = some y → w.cell? (a.add (i * 3)) = some (.int .i64 y.1) ∧ w.cell? (a.add (i * 3 + 1)) = some (.int .i64 y.2.1) ∧ w.cell? (a.add (i * 3 + 2)) = some (.int .i64 y.2.2)) : Cd w (some a) len cap os :=
  ⟨hz, hl, hm, fun j hj => by
    have h0 := (hc 0 _ (List.getElem?_eq_getElem (by omega))).1
    have hs : a.spot = none ∧ a.block < w.heap.size := by
      have h1 : w.cell? a = some (.int .i64 (os[0]'(by omega)).1) := by simpa [Addr.add] using h0
      unfold World.cell? at h1
      split at h1
      · rename_i c hh
        refine ⟨?_, (Array.getElem?_eq_some_iff.1 hh).1⟩
        cases hp : a.spot with
        | none => rfl
        | some v => rw [hp] at h1; simp at h1
      · simp at h1
    obtain ⟨b, o, p⟩ := a
    obtain ⟨hp, hb⟩ := hs
    simp only [] at hp hb
    subst hp
    exact ⟨b, o, rfl, hb, fun i y hy => by
      have := hc i y hy
      simp only [Addr.add_lit] at this
      exact this⟩⟩
end Gim
