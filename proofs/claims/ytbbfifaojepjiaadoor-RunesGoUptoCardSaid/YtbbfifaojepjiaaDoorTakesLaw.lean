/- What a Decoder answers to one byte more: plain. -/
import Derived.Test.YtbbfifaojepjiaaDoorFrontLaw
namespace Gim
open Go Go.Lib Go.RowKit
/-- bytes that wait for more of one character -/
def Waits (xs : List Int) : Prop := xs = [] ∨ ∃ m, frontB xs 0 = (xs.length, m) ∧ xs.length < m
inductive Took (ys : List Int) : Prop
  | whole (n : Nat) (hn : ys.length = n) (h1 : 1 ≤ n) (h4 : n ≤ 4) (hF : frontB ys 0 = (n, n)) (hb : beginsB ys = true) (hf : fullB ys = true) (hv : ((decB ys).1 : Int) = valB ys)
  | waits (k n : Nat) (hk : ys.length = k) (hF : frontB ys 0 = (k, n)) (hl : k < n) (hb : beginsB ys = true) (hf : fullB ys = false)
  | wrong (k n : Nat) (hF : frontB ys 0 = (k, n)) (hl : n = 0 ∨ k < ys.length) (hb : beginsB ys = false)
theorem bn_snoc {xs : List Int} {x : Int} {j : Nat} (h : j < xs.length) : bn (xs ++ [x]) j = bn xs j := by
  unfold bn gt
  rw [List.getElem?_append_left h]
theorem frontB_snd {xs : List Int} {k m : Nat} (h : frontB xs 0 = (k, m)) (hm : m ≠ 0) : szR (bn xs 0) = m := by
  unfold frontB at h
  repeat' split at h
  all_goals
    simp only [Prod.mk.injEq] at h
    omega
theorem frontB_le {xs : List Int} {k m : Nat} (h : frontB xs 0 = (k, m)) : m ≤ 4 := by
  by_cases h0 : m = 0
  · omega
  · have := frontB_snd h h0
    have := szR_le (bn xs 0)
    omega
theorem Waits.short {xs : List Int} (h : Waits xs) : xs.length ≤ 3 := by
  rcases h with rfl | ⟨m, h, hl⟩
  · simp
  · have := frontB_le h
    omega
theorem took {xs : List Int} {x : Int} (hw : Waits xs) (hb : ∀ j, bn (xs ++ [x]) j < 256) : Took (xs ++ [x]) := by
  have hl : (xs ++ [x]).length = xs.length + 1 := by simp
  rcases alike (by omega) hb with ⟨n, hF, h1, h4, hle, hf, hd, hv, hok⟩ | ⟨n, hF, hlt, hf, _⟩ | ⟨k, n, hF, hk, hf, hd⟩
  · have hn : (xs ++ [x]).length = n := by
      rcases hw with rfl | ⟨m, hm, hml⟩
      · simp only [List.nil_append, List.length_singleton] at hle ⊢
        omega
      · by_cases h0 : xs.length = 0
        · omega
        · have e1 := frontB_snd hm (by omega)
          have e2 := frontB_snd hF (by omega)
          rw [bn_snoc (by omega)] at e2
          omega
    refine .whole n hn h1 h4 hF ?_ hf (by rw [hv, List.take_of_length_le (by omega)])
    unfold beginsB validB
    rw [hd, hf, decide_eq_false hok]
    rfl
  · exact .waits _ n rfl hF hlt (by unfold beginsB; rw [hf]; rfl) hf
  · refine .wrong k n hF (by omega) ?_
    unfold beginsB validB
    rw [hd, hf]
    rfl

/-- w' differs from w in the blocks p alone, and in new ones -/
structure Fr (p : Nat → Prop) (w w' : World) : Prop where
  os : w'.os = w.os
  tape : w'.tape = w.tape
  output : w'.output = w.output
  size : w.heap.size ≤ w'.heap.size
  block : ∀ j, j < w.heap.size → ¬ p j → w'.heap[j]? = w.heap[j]?
theorem Fr.refl (p : Nat → Prop) (w : World) : Fr p w w := ⟨rfl, rfl, rfl, Nat.le_refl _, fun _ _ _ => rfl⟩
theorem Fr.trans {p : Nat → Prop} {a b c : World} (h : Fr p a b) (k : Fr p b c) : Fr p a c :=
  ⟨k.os.trans h.os, k.tape.trans h.tape, k.output.trans h.output, Nat.le_trans h.size k.size, fun j hj hp => (k.block j (Nat.lt_of_lt_of_le hj h.size) hp).trans (h.block j hj hp)⟩
/-- the second step may change new blocks too -/
theorem Fr.then {p q : Nat → Prop} {a b c : World} (h : Fr p a b) (k : Fr q b c) (hq : ∀ j, j < a.heap.size → q j → p j) : Fr p a c :=
  ⟨k.os.trans h.os, k.tape.trans h.tape, k.output.trans h.output, Nat.le_trans h.size k.size, fun j hj hp => (k.block j (Nat.lt_of_lt_of_le hj h.size) (fun hj2 => hp (hq j hj hj2))).trans (h.block j hj hp)⟩
theorem Fr.mono {p q : Nat → Prop} {a b : World} (h : Fr p a b) (hq : ∀ j, p j → q j) : Fr q a b := ⟨h.os, h.tape, h.output, h.size, fun j hj hp => h.block j hj (fun k => hp (hq j k))⟩
theorem Fr.of {p : Nat → Prop} {a b : World} (h : Below a.heap.size a b) : Fr p a b := ⟨h.os, h.tape, h.output, h.size, fun j hj _ => h.block j hj⟩
theorem Fr.grown {p : Nat → Prop} {a b c : World} {o : Option Nat} (h : Fr p a b) (k : b.grownBy c o) (ho : ∀ g, o = some g → p g ∨ a.heap.size ≤ g) : Fr p a c :=
  ⟨k.os.trans h.os, k.tape.trans h.tape, k.output.trans h.output, Nat.le_trans h.size k.size, fun j hj hp => (k.block j (Nat.lt_of_lt_of_le hj h.size) (fun e => by
    rcases ho j e.symm with h1 | h1
    · exact hp h1
    · omega)).trans (h.block j hj hp)⟩
theorem Fr.below {p : Nat → Prop} {a b : World} (h : Fr p a b) {B : Nat} (hB : B ≤ a.heap.size) (hp : ∀ j, p j → B ≤ j) : Below B a b :=
  ⟨h.os, h.tape, h.output, h.size, fun j hj => h.block j (by omega) (fun k => by have := hp j k; omega)⟩
theorem Fr.drewN {p : Nat → Prop} {a b : World} (h : Fr p a b) (n : Nat) : Fr p a (b.drewN n) := h.trans (.of (((Drew.refl b).drewN n).below _))
theorem Fr.alloc {p : Nat → Prop} {a b : World} (h : Fr p a b) (o : Obj) : Fr p a (b.alloc o) := h.trans (.of ((Below.refl _ _).alloc (Nat.le_refl _) o))
theorem Fr.set {p : Nat → Prop} {a b : World} (h : Fr p a b) (D i : Nat) (v : Value) (hD : p D) : Fr p a (b.setCell ⟨D, i, none⟩ v) :=
  h.then (q := fun j => j = D) ⟨rfl, rfl, rfl, by simp [World.setCell], fun j _ hj => by
    simp only [World.setCell, Array.getElem?_modify]
    rw [if_neg (fun e => hj e.symm)]⟩ (fun j _ e => by rw [e]; exact hD)
theorem Row.fr {p : Nat → Prop} {w w' : World} {B : Nat} {e : TypeId} {k : IntKind} {v : Value} {xs : List Int} (h : Row w B e k v xs) (hf : Fr p w w') (ho : ∀ g, v.ownBlock = some g → ¬ p g) : Row w' B e k v xs := by
  unfold Row World.ownsRow at *
  refine ⟨h.1, ?_⟩
  rcases h.2 with h2 | ⟨g, cap, cur, h1, h2, h3, h4⟩
  · exact .inl h2
  · refine .inr ⟨g, cap, cur, h1, h2, ?_, h4⟩
    rw [hf.block g (Array.getElem?_eq_some_iff.1 h3).1 (ho g (by rw [h1]; rfl))]
    exact h3
theorem one_set {w : World} {D : Nat} {v b : Value} {t : TypeId} (h : w.heap[D]? = some (.cells #[v, b] t)) (u : Value) : (w.setCell ⟨D, 1, none⟩ u).heap[D]? = some (.cells #[v, u] t) := by
  have hz := (Array.getElem?_eq_some_iff.1 h).1
  have hg := (Array.getElem?_eq_some_iff.1 h).2
  have hz2 : D < (w.setCell ⟨D, 1, none⟩ u).heap.size := by simp [World.setCell, hz]
  rw [Array.getElem?_eq_getElem hz2]
  simp only [World.setCell, Array.getElem_modify, hg]
  simp
end Gim
