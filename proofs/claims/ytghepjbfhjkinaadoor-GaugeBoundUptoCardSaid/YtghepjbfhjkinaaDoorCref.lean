/- The document's classes: gimletref02.Ranges, Is, Next, Count. -/
import Derived.Test.YtghepjbfhjkinaaDoorCtab
namespace Gim
open Go Go.RowKit
/-- the cells of a row of pairs -/
def flat (k : IntKind) : List (Int × Int) → List Value
  | [] => []
  | (x, y) :: t => .int k x :: .int k y :: flat k t
theorem flat_at (k : IntKind) : ∀ (ps : List (Int × Int)) (j : Nat), j < ps.length → (flat k ps)[j * 2]? = some (.int k (lo ps j)) ∧ (flat k ps)[j * 2 + 1]? = some (.int k (hi ps j))
  | (x, y) :: t, 0, _ => by simp [flat, lo, hi]
  | (x, y) :: t, j + 1, h => by
    have e : (j + 1) * 2 = j * 2 + 2 := by omega
    have := flat_at k t j (by simpa using h)
    simpa [flat, lo, hi, e] using this
theorem prs_of_cells {w : World} {k : IntKind} {g : Nat} {cs : Array Value} {t : TypeId} {fr : Nat × Nat} {n : Nat} {ps : List (Int × Int)} (hg : w.heap[g]? = some (.cells cs t fr)) (hc : cs.toList = flat k ps) (hn : ps.length = n) (hm : n ≤ 18) :
    Prs w k (some ⟨g, 0, none⟩) n n ps :=
  ⟨hn, Nat.le_refl _, by unfold maxLen; omega, fun j hj => ⟨_, rfl, (Array.getElem?_eq_some_iff.1 hg).1, by
    have := (flat_at k ps j (by omega)).1
    rw [← hc] at this
    simpa [World.cell?, hg, Addr.add_lit] using this, by
    have := (flat_at k ps j (by omega)).2
    rw [← hc] at this
    simpa [World.cell?, hg, Addr.add_lit] using this⟩⟩
end Gim
namespace Go.Proofs.YtghepjbfhjkinaaDoor
open Go.RowKit Gim
end Go.Proofs.YtghepjbfhjkinaaDoor
