/- A region that draws its order, reads, and calls what makes new memory alone: walked in its lexical order. -/
import Derived.Test.YtkhejkfjhddobaaGreatDoorUtfM
import Derived.Deep.QuietTactic
namespace Gim
open Go Go.RowKit
/-- a world with new memory alone -/
structure UpW (w : World) where
  W : World
  h : Below w.heap.size w W
instance (w : World) : Inhabited (UpW w) := ⟨⟨w, Below.refl _ _⟩⟩
theorem wp_region_up {P : Program} {id : Nat} {Q : Exit → Act → World → Prop} {a : Act} {w : World} {l : List Oper} (hm : P.follows .mixedOrders = true) (hB : Region.lexB .any l.toArray = true)
    (h : wpQuiet P l.toArray (fun w' => ∃ p : UpW w, w' = p.W) (fun a' => ∀ w', (∃ p : UpW w, w' = p.W) → Q .normal a' w') l a) : (Code.region id l.toArray true).wp P Q a w :=
  wp_region_quiet (C := fun w' => ∃ p : UpW w, w' = p.W) hm hB ⟨⟨_, (Below.refl _ _).drew⟩, rfl⟩ (by simpa using h)
theorem calls_up {P : Program} {f : FuncId} {args : Array Value} {w : World} {p : UpW w} {v : Value} (h : Calls P f args p.W fun e w' => e = .returned v ∧ Below p.W.heap.size p.W w') : Calls P f args p.W fun e w'' => e = .returned v ∧ ∃ q : UpW w, w'' = q.W :=
  h.mono fun _ _ ⟨he, hb⟩ => ⟨he, ⟨_, p.h.trans (hb.mono p.h.size)⟩, rfl⟩
theorem up_cell {w : World} {a : Addr} {v : Value} (hb : a.block < w.heap.size) (h : w.cell? a = some v) : ∀ p : UpW w, p.W.cell? a = some v := fun p => (p.h.cell (p := a) hb).trans h
end Gim

