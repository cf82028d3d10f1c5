/- Bytes that a Feed owns: a slice that begins anywhere in a block, with room behind it; append onto it. -/
import Derived.Test.YtpkdbfnnbbkkiaaDoorTakesLaw
import Derived.ArgAppend
import Derived.Maps.AppendAt
import Derived.Laws.AppendOwnNone
import Derived.Lib.SmallJoins
namespace Gim
open Go Go.RowKit
theorem setCells_block (g : Nat) {t : TypeId} {fr : Nat × Nat} : ∀ (vs : List Value) (o : Nat) (w : World) (cur : Array Value), w.heap[g]? = some (.cells cur t fr) →
    ∃ cur' : Array Value, (w.setCells g o vs).heap[g]? = some (.cells cur' t fr) ∧ cur'.size = cur.size ∧ (∀ i, i < o ∨ o + vs.length ≤ i → cur'[i]? = cur[i]?) ∧ (∀ j (hj : j < vs.length), o + j < cur.size → cur'[o + j]? = some vs[j])
  | [], o, w, cur, h => ⟨cur, h, rfl, fun _ _ => rfl, fun j hj => by simp at hj⟩
  | v :: r, o, w, cur, h => by
    obtain ⟨cur', h1, h2, h3, h4⟩ := setCells_block g r (o + 1) _ _ (Go.Joins.block_setCell h (i := o) v)
    have hsz : (cur.setIfInBounds o v).size = cur.size := by simp
    refine ⟨cur', h1, h2.trans hsz, fun i hi => ?_, fun j hj hb => ?_⟩
    · rw [h3 i (by simp at hi; omega)]
      rw [Array.getElem?_setIfInBounds_ne (by simp at hi; omega)]
    · cases j with
      | zero =>
        have hb' : o < cur.size := by simpa using hb
        rw [h3 (o + 0) (by omega)]
        simp [hb']
      | succ j =>
        have := h4 j (by simpa using hj) (by rw [hsz]; omega)
        rw [show o + (j + 1) = o + 1 + j by omega, this]
        simp
theorem setCells_other (g : Nat) : ∀ (vs : List Value) (o : Nat) (w : World), (w.setCells g o vs).os = w.os ∧ (w.setCells g o vs).tape = w.tape ∧ (w.setCells g o vs).output = w.output ∧ (w.setCells g o vs).heap.size = w.heap.size ∧ ∀ j, j ≠ g → (w.setCells g o vs).heap[j]? = w.heap[j]?
  | [], o, w => ⟨rfl, rfl, rfl, rfl, fun _ _ => rfl⟩
  | v :: r, o, w => by
    obtain ⟨a, b, c, d, e⟩ := setCells_other g r (o + 1) (w.setCell ⟨g, o, none⟩ v)
    refine ⟨a, b, c, d.trans (by simp [World.setCell]), fun j hj => (e j hj).trans ?_⟩
    simp only [World.setCell, Array.getElem?_modify]
    rw [if_neg (fun h => hj h.symm)]
end Gim
namespace Go.Proofs.YtpkdbfnnbbkkiaaDoor
open Go.RowKit Gim
/-- v is a slice of bytes xs of the call's own, in a block from B on -/
def OwnB (w : World) (B : Nat) (v : Value) (xs : List Int) : Prop :=
  (v = .slice none 0 0 ∧ xs = []) ∨ ∃ (g off cap : Nat) (cur : Array Value), v = .slice (some ⟨g, off, none⟩) xs.length cap ∧ B ≤ g ∧ w.heap[g]? = some (.cells cur 5 (0, 0)) ∧ xs.length ≤ cap ∧ cap ≤ maxLen ∧ off + cap ≤ cur.size ∧ ∀ i, i < xs.length → cur[off + i]? = some (.int .u8 (gt xs i))
/-- the block of a slice -/
def blk (v : Value) : Option Nat := match v with | .slice (some a) _ _ => some a.block | _ => none
theorem OwnB.rd {w : World} {B : Nat} {v : Value} {xs : List Int} (h : OwnB w B v xs) : ∃ ao cap, v = .slice ao xs.length cap ∧ Rd w .u8 ao xs.length cap xs ∧ (ao = none → xs.length = 0 ∧ cap = 0) := by
  rcases h with ⟨rfl, rfl⟩ | ⟨g, off, cap, cur, rfl, hB, hg, h1, h2, h3, h4⟩
  · exact ⟨none, 0, rfl, ⟨rfl, by simp, by unfold maxLen; omega, fun j hj => by simp at hj⟩, fun _ => ⟨rfl, rfl⟩⟩
  · exact ⟨_, cap, rfl, ⟨rfl, h1, h2, fun j hj => ⟨g, off, rfl, (Array.getElem?_eq_some_iff.1 hg).1, fun i hi => by
      have := h4 i hi
      simp [World.cell?, hg, this]⟩⟩, fun h => by cases h⟩
theorem OwnB.lt {w : World} {B : Nat} {v : Value} {xs : List Int} (h : OwnB w B v xs) : ∀ g, blk v = some g → B ≤ g ∧ ∃ cur, w.heap[g]? = some (.cells cur 5 (0, 0)) := by
  rcases h with ⟨rfl, rfl⟩ | ⟨g, off, cap, cur, rfl, hB, hg, h1, h2, h3, h4⟩
  · intro g hg; cases hg
  · intro g' hg'
    cases hg'
    exact ⟨hB, cur, hg⟩
theorem OwnB.block {w w' : World} {B : Nat} {v : Value} {xs : List Int} (h : OwnB w B v xs) (hf : ∀ g, blk v = some g → w'.heap[g]? = w.heap[g]?) : OwnB w' B v xs := by
  rcases h with h | ⟨g, off, cap, cur, rfl, hB, hg, h1⟩
  · exact .inl h
  · exact .inr ⟨g, off, cap, cur, rfl, hB, (hf g rfl).trans hg, h1⟩
theorem OwnB.drop {w : World} {B : Nat} {ao : Option Addr} {n cap : Nat} {xs : List Int} (h : OwnB w B (.slice ao n cap) xs) {m : Nat} (hm : m ≤ n) : OwnB w B (.slice (if cap = m then ao else ao.map (·.add m)) (n - m) (cap - m)) (xs.drop m) := by
  rcases h with ⟨h, rfl⟩ | ⟨g, off, cap', cur, h, hB, hg, h1, h2, h3, h4⟩
  · injection h with a b c
    subst a b c
    obtain rfl : m = 0 := by omega
    exact .inl ⟨by simp, by simp⟩
  · injection h with a b c
    subst a b c
    by_cases hc : cap = m
    · have hx : xs.drop m = [] := List.drop_eq_nil_of_le (by omega)
      rw [if_pos hc, hx]
      exact .inr ⟨g, off, cap - m, cur, by simp; omega, hB, hg, by simp, by omega, by omega, fun i hi => by simp at hi⟩
    · rw [if_neg hc]
      refine .inr ⟨g, off + m, cap - m, cur, ?_, hB, hg, by simp; omega, by omega, by omega, fun i hi => ?_⟩
      · simp only [Option.map_some, List.length_drop, Addr.add_lit]
      · have := h4 (m + i) (by simp at hi; omega)
        rw [Nat.add_assoc, this]
        simp [gt]
theorem info_byte : (Tryd.prog.info? 5).map (fun i => (i.zero, i.size, i.bytes)) = some (some (.int .u8 0), 1, 1) := by kernel_rfl
theorem own_of_row {w : World} {B : Nat} {v : Value} {xs : List Int} (h : w.ownsRow B 5 1 v xs.length (xs.map (Value.int .u8))) : OwnB w B v xs := by
  rcases h.2 with ⟨rfl, h0⟩ | ⟨g, cap, cur, rfl, hB, hg, h1, h2, h3, h4⟩
  · exact .inl ⟨rfl, List.eq_nil_of_length_eq_zero h0⟩
  · refine .inr ⟨g, 0, cap, cur, rfl, hB, hg, h1, h2, by omega, fun i hi => ?_⟩
    have := congrArg (fun l => l[i]?) h4
    simp only [Nat.mul_one, List.getElem?_map] at this
    rw [List.getElem?_take_of_lt hi, Array.getElem?_toList] at this
    rw [Nat.zero_add, this, gt_some hi]
    rfl
/-- 'append(lies, more...)' -/
theorem run_bytes (w : World) (B : Nat) (v : Value) (xs : List Int) (h : OwnB w B v xs) (ao : Option Addr) (m c : Nat) (ys : List Int) (hr : Rd w .u8 ao m c ys) (hnone : ao = none → m = 0 ∧ c = 0) (hlen : xs.length + m ≤ 70368744177664) (hB : B ≤ w.heap.size) (ty : TypeId) :
    ∃ v' w', (Builtin.append_ #[22, 22] ty #[v, .slice ao m c]).run Tryd.prog w = .ok v' w' ∧ OwnB w' B v' (xs ++ ys) ∧ Fr (fun j => blk v = some j) w w' ∧ (∀ g, blk v' = some g → blk v = some g ∨ w.heap.size ≤ g) := by
  obtain ⟨i0, hi, hz0, hz1, hz2⟩ := info_parts info_byte
  have hyl := hr.len
  have hnews : ∀ (ad : Addr), ao = some ad → ∀ j u, (ys.map (Value.int .u8))[j]? = some u → w.cell? (ad.add j) = some u := by
    intro ad had j u hu
    obtain ⟨hj, rfl⟩ : j < ys.length ∧ u = .int .u8 (gt ys j) := by
      rw [List.getElem?_map] at hu
      cases hj : ys[j]? with
      | none => rw [hj] at hu; simp at hu
      | some y =>
        rw [hj] at hu
        obtain ⟨h1, h2⟩ := List.getElem?_eq_some_iff.1 hj
        exact ⟨h1, by rw [gt_lt h1, h2]; simpa using hu.symm⟩
    obtain ⟨b, o, h1, h2, h3⟩ := hr.cell j (by omega)
    rw [had] at h1
    cases h1
    rw [Addr.add_lit]
    exact h3 j (by omega)
  have hone : ∀ u ∈ ys.map (Value.int .u8), u.oneCell' = true := fun u hu => by
    obtain ⟨z, _, rfl⟩ := List.mem_map.1 hu
    rfl
  rcases h with ⟨rfl, rfl⟩ | ⟨g, off, cap, cur, rfl, hBg, hg, h1, h2, h3, h4⟩
  · cases ao with
    | none =>
      obtain ⟨rfl, rfl⟩ := hnone rfl
      obtain rfl : ys = [] := List.eq_nil_of_length_eq_zero hyl
      exact ⟨_, w, run_append_owned_none (P := Tryd.prog) (w := w) B 22 ty 5 i0 1 Tryd.underlying22 hi (.slice none 0 0) 0 [] (World.ownsRow_nil _ _ _ _), .inl ⟨rfl, rfl⟩, Fr.refl _ _, fun g hg => .inl hg⟩
    | some ad =>
      obtain ⟨v', w', hrun, r1, r2, _, r5⟩ := run_append_own_at (P := Tryd.prog) w B 22 ty 5 i0 (.int .u8 0) 1 1 Tryd.underlying22 hi hz0 hz1 hz2 rfl (by decide) (.slice none 0 0) 0 [] (World.ownsRow_nil _ _ _ _) ad m c (ys.map (Value.int .u8)) (by simp; omega) (hnews ad rfl) hone (by unfold maxLen; omega) (by simp at hlen; omega) hB
      refine ⟨v', w', hrun, own_of_row (by rw [List.nil_append, hyl]; simpa using r1), ⟨r2.os, r2.tape, r2.output, r2.size, fun j hj _ => r2.block j hj (fun e => by cases e)⟩, fun g hg => ?_⟩
      rcases r5 with r5 | r5
      · cases v' with
        | slice a x y => cases a with
          | none => cases hg
          | some a => simp [Value.ownBlock] at r5
        | _ => cases hg
      · cases v' with
        | slice a x y => cases a with
          | none => cases hg
          | some a =>
            simp only [blk, Option.some.injEq] at hg
            simp only [Value.ownBlock, Option.some.injEq] at r5
            exact .inr (by omega)
        | _ => cases hg
  · have h1s : i0.size = 1 := hz1
    by_cases hroom : xs.length + m ≤ cap
    · cases ao with
      | none =>
        obtain ⟨rfl, rfl⟩ := hnone rfl
        obtain rfl : ys = [] := List.eq_nil_of_length_eq_zero hyl
        refine ⟨.slice (some ⟨g, off, none⟩) xs.length cap, w, ?_, .inr ⟨g, off, cap, cur, by simp, hBg, hg, by simpa using h1, h2, h3, by simpa using h4⟩, Fr.refl _ _, fun g hg => .inl hg⟩
        simp [Builtin.append_, run_underlying Tryd.underlying22, sizeOf, typeInfo, hi, Builtin.lenOf, Builtin.firstCells, h1, storeCells]
      | some ad =>
        have hwl : ∀ j, j < (ys.map (Value.int .u8)).length → off + xs.length * i0.size + j < cur.size := fun j hj => by rw [h1s]; simp at hj; omega
        have hrun := run_append_room_cells (P := Tryd.prog) w 22 ty 5 i0 Tryd.underlying22 hi g off xs.length cap ad m c (ys.map (Value.int .u8)) (by rw [h1s]; simp; omega) (hnews ad rfl) hone hroom
          (fun j hj => by simp [World.cell?, hg, hwl j hj]) (fun j hj => by simp [World.frozen?, hg])
        rw [h1s, Nat.mul_one] at hrun
        obtain ⟨cur', k1, k2, k3, k4⟩ := setCells_block g (ys.map (Value.int .u8)) (off + xs.length) w cur hg
        obtain ⟨q1, q2, q3, q4, q5⟩ := setCells_other g (ys.map (Value.int .u8)) (off + xs.length) w
        refine ⟨_, _, hrun, .inr ⟨g, off, cap, cur', by rw [List.length_append, hyl], hBg, k1, by rw [List.length_append, hyl]; exact hroom, h2, by omega, fun i hi2 => ?_⟩, ⟨q1, q2, q3, Nat.le_of_eq q4.symm, fun j hj hp => q5 j (fun e => hp (by rw [e]; rfl))⟩, fun g hg => .inl hg⟩
        by_cases hlt : i < xs.length
        · rw [k3 (off + i) (by omega), h4 i hlt]
          simp [gt, List.getElem?_append_left hlt]
        · have := k4 (i - xs.length) (by rw [List.length_map]; rw [List.length_append] at hi2; omega) (by rw [List.length_append] at hi2; omega)
          rw [show off + xs.length + (i - xs.length) = off + i by omega] at this
          rw [this]
          have hlt2 : i - xs.length < ys.length := by rw [List.length_append] at hi2; omega
          simp [gt, List.getElem?_append_right (show xs.length ≤ i by omega), hlt2]
    · cases ao with
      | none => obtain ⟨rfl, rfl⟩ := hnone rfl; omega
      | some ad =>
        obtain ⟨v', w', hrun, r1, r2⟩ := run_append_arg_grows (P := Tryd.prog) w 22 ty 5 i0 (.int .u8 0) 1 1 Tryd.underlying22 hi hz0 hz1 hz2 rfl (by decide) ⟨g, off, none⟩ xs.length cap (xs.map (Value.int .u8)) (by simp)
          (fun j u hu => by
            obtain ⟨hj, rfl⟩ : j < xs.length ∧ u = .int .u8 (gt xs j) := by
              rw [List.getElem?_map] at hu
              cases hj : xs[j]? with
              | none => rw [hj] at hu; simp at hu
              | some y =>
                rw [hj] at hu
                obtain ⟨h1, h2⟩ := List.getElem?_eq_some_iff.1 hj
                exact ⟨h1, by rw [gt_lt h1, h2]; simpa using hu.symm⟩
            have := h4 j hj
            simp [World.cell?, Addr.add_lit, hg, this]) ad m c (ys.map (Value.int .u8)) (by simp; omega) (hnews ad rfl) (by omega) (by unfold maxLen; omega) (by omega)
        have hrow : w'.ownsRow w.heap.size 5 1 v' (xs ++ ys).length ((xs ++ ys).map (Value.int .u8)) := by rw [List.length_append, hyl, List.map_append]; exact r1
        have ho := own_of_row hrow
        refine ⟨v', w', hrun, ?_, ⟨r2.os, r2.tape, r2.output, r2.size, fun j hj _ => r2.block j hj (fun e => by cases e)⟩, fun g2 hg2 => .inr (ho.lt g2 hg2).1⟩
        rcases ho with ho | ⟨g2, off2, cap2, cur2, a1, a2, a3⟩
        · exact .inl ho
        · exact .inr ⟨g2, off2, cap2, cur2, a1, Nat.le_trans hB a2, a3⟩
end Go.Proofs.YtpkdbfnnbbkkiaaDoor
