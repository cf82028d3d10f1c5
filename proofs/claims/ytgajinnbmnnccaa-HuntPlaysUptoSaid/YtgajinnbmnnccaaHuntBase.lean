/- A Hunt in memory. -/
import Derived.Test.YtgajinnbmnnccaaHuntLaw
import Derived.Test.YtgajinnbmnnccaaBord
namespace Gim
open Go Go.RowKit
/-- w' differs from w in the blocks p alone, and in new ones -/
structure Fr (p : Nat → Prop) (w w' : World) : Prop where
  os : w'.os = w.os
  tape : w'.tape = w.tape
  output : w'.output = w.output
  size : w.heap.size ≤ w'.heap.size
  block : ∀ j, j < w.heap.size → ¬ p j → w'.heap[j]? = w.heap[j]?
theorem Fr.refl (p : Nat → Prop) (w : World) : Fr p w w := ⟨rfl, rfl, rfl, Nat.le_refl _, fun _ _ _ => rfl⟩
theorem Fr.trans {p : Nat → Prop} {a b c : World} (h : Fr p a b) (k : Fr p b c) : Fr p a c :=
  ⟨k.os.trans h.os, k.tape.trans h.tape, k.output.trans h.output, Nat.le_trans h.size k.size, fun j hj hp => (k.block j (Nat.lt_of_lt_of_le hj h.size) hp).trans (h.block j hj hp)⟩
theorem Fr.mono {p q : Nat → Prop} {a b : World} (h : Fr p a b) (hq : ∀ j, p j → q j) : Fr q a b := ⟨h.os, h.tape, h.output, h.size, fun j hj hp => h.block j hj (fun k => hp (hq j k))⟩
theorem Fr.of {p : Nat → Prop} {a b : World} (h : Below a.heap.size a b) : Fr p a b := ⟨h.os, h.tape, h.output, h.size, fun j hj _ => h.block j hj⟩
theorem Fr.below {p : Nat → Prop} {a b : World} (h : Fr p a b) {B : Nat} (hB : B ≤ a.heap.size) (hp : ∀ j, p j → B ≤ j) : Below B a b :=
  ⟨h.os, h.tape, h.output, h.size, fun j hj => h.block j (by omega) (fun k => by have := hp j k; omega)⟩
theorem Fr.drewN {p : Nat → Prop} {a b : World} (h : Fr p a b) (n : Nat) : Fr p a (b.drewN n) := h.trans (.of (((Drew.refl b).drewN n).below _))
theorem Fr.set {p : Nat → Prop} {a b : World} (h : Fr p a b) (D i : Nat) (v : Value) (hD : p D) : Fr p a (b.setCell ⟨D, i, none⟩ v) :=
  h.trans ⟨rfl, rfl, rfl, by simp [World.setCell], fun j _ hj => by
    simp only [World.setCell, Array.getElem?_modify]
    rw [if_neg (fun e => hj (by rw [← e]; exact hD))]⟩
theorem Row.fr {p : Nat → Prop} {w w' : World} {B : Nat} {e : TypeId} {k : IntKind} {v : Value} {xs : List Int} (h : Row w B e k v xs) (hf : Fr p w w') (ho : ∀ g, B ≤ g → ¬ p g) : Row w' B e k v xs := by
  unfold Row World.ownsRow at *
  refine ⟨h.1, ?_⟩
  rcases h.2 with h2 | ⟨g, cap, cur, h1, h2, h3, h4⟩
  · exact .inl h2
  · refine .inr ⟨g, cap, cur, h1, h2, ?_, h4⟩
    rw [hf.block g (Array.getElem?_eq_some_iff.1 h3).1 (ho g h2)]
    exact h3
/-- a cell of a block of cells stored anew -/
theorem set_at {w : World} {D i : Nat} {a : Array Value} {t : TypeId} (h : w.heap[D]? = some (.cells a t)) (u : Value) : (w.setCell ⟨D, i, none⟩ u).heap[D]? = some (.cells (a.setIfInBounds i u) t) := by
  have hz := (Array.getElem?_eq_some_iff.1 h).1
  have hg := (Array.getElem?_eq_some_iff.1 h).2
  have hz2 : D < (w.setCell ⟨D, i, none⟩ u).heap.size := by simp [World.setCell, hz]
  rw [Array.getElem?_eq_getElem hz2]
  simp only [World.setCell, Array.getElem_modify, hg]
  simp
end Gim
namespace Go.Proofs.Ytgajinnbmnnccaa
open Go.RowKit Gim
/-- a Hunt in block H -/
structure Hm (w : World) (B H : Nat) (c num : Int) (T : List Int) (tv bv : Value) (came k : Nat) (off fnd whole : Bool) : Prop where
  hH : w.heap[H]? = some (.cells #[.int .i64 c, tv, bv, .int .i64 num, .int .i64 came, .int .i64 k, .bool off, .bool fnd, .bool whole] 63)
  rt : Row w B 21 .i32 tv T
  rb : Row w B 3 .i64 bv (brs T)
  lt : H < B
  le : B ≤ w.heap.size
theorem Hm.fr {p : Nat → Prop} {w w' : World} {B H : Nat} {c num : Int} {T : List Int} {tv bv : Value} {came k : Nat} {off fnd whole : Bool} (h : Hm w B H c num T tv bv came k off fnd whole) (hf : Fr p w w') (hH : ¬ p H) (ho : ∀ g, B ≤ g → ¬ p g) : Hm w' B H c num T tv bv came k off fnd whole :=
  ⟨(hf.block H (Array.getElem?_eq_some_iff.1 h.hH).1 hH).trans h.hH, h.rt.fr hf ho, h.rb.fr hf ho, h.lt, Nat.le_trans h.le hf.size⟩
theorem Hm.set {w w' : World} {B H : Nat} {c num : Int} {T : List Int} {tv bv : Value} {came k : Nat} {off fnd whole : Bool} (h : Hm w B H c num T tv bv came k off fnd whole) (hf : Fr (fun j => j = H) w w') {came' k' : Nat} {off' fnd' whole' : Bool}
    (hH : w'.heap[H]? = some (.cells #[.int .i64 c, tv, bv, .int .i64 num, .int .i64 came', .int .i64 k', .bool off', .bool fnd', .bool whole'] 63)) : Hm w' B H c num T tv bv came' k' off' fnd' whole' :=
  ⟨hH, h.rt.fr hf (fun g hg e => by have := h.lt; have e : g = H := e; omega), h.rb.fr hf (fun g hg e => by have := h.lt; have e : g = H := e; omega), h.lt, Nat.le_trans h.le hf.size⟩
theorem Hm.drewN {w : World} {B H : Nat} {c num : Int} {T : List Int} {tv bv : Value} {came k : Nat} {off fnd whole : Bool} (h : Hm w B H c num T tv bv came k off fnd whole) (n : Nat) : Hm (w.drewN n) B H c num T tv bv came k off fnd whole := ⟨h.hH, h.rt, h.rb, h.lt, h.le⟩
theorem Hm.k5 {w : World} {B H : Nat} {c num : Int} {T : List Int} {tv bv : Value} {came k : Nat} {off fnd whole : Bool} (h : Hm w B H c num T tv bv came k off fnd whole) : w.cell? ⟨H, 5, none⟩ = some (.int .i64 k) := by simp [World.cell?, h.hH]
theorem Hm.setCame {w : World} {B H : Nat} {c num : Int} {T : List Int} {tv bv : Value} {came k : Nat} {off fnd whole : Bool} (h : Hm w B H c num T tv bv came k off fnd whole) (z : Int) (n : Nat) (hz : z = n) : Hm (w.setCell ⟨H, 4, none⟩ (.int .i64 z)) B H c num T tv bv n k off fnd whole := by
  subst hz
  exact h.set ((Fr.refl _ _).set H 4 _ rfl) (by rw [set_at h.hH]; rfl)
theorem Hm.setK {w : World} {B H : Nat} {c num : Int} {T : List Int} {tv bv : Value} {came k : Nat} {off fnd whole : Bool} (h : Hm w B H c num T tv bv came k off fnd whole) (z : Int) (n : Nat) (hz : z = n) : Hm (w.setCell ⟨H, 5, none⟩ (.int .i64 z)) B H c num T tv bv came n off fnd whole := by
  subst hz
  exact h.set ((Fr.refl _ _).set H 5 _ rfl) (by rw [set_at h.hH]; rfl)
theorem Hm.setOff {w : World} {B H : Nat} {c num : Int} {T : List Int} {tv bv : Value} {came k : Nat} {off fnd whole : Bool} (h : Hm w B H c num T tv bv came k off fnd whole) (b : Bool) : Hm (w.setCell ⟨H, 6, none⟩ (.bool b)) B H c num T tv bv came k b fnd whole :=
  h.set ((Fr.refl _ _).set H 6 _ rfl) (by rw [set_at h.hH]; rfl)
theorem Hm.setFnd {w : World} {B H : Nat} {c num : Int} {T : List Int} {tv bv : Value} {came k : Nat} {off fnd whole : Bool} (h : Hm w B H c num T tv bv came k off fnd whole) (b : Bool) : Hm (w.setCell ⟨H, 7, none⟩ (.bool b)) B H c num T tv bv came k off b whole :=
  h.set ((Fr.refl _ _).set H 7 _ rfl) (by rw [set_at h.hH]; rfl)
end Go.Proofs.Ytgajinnbmnnccaa
