/- Texts that were handed in. -/
import Derived.Test.YtgajinnbmnnccaaHuntNine
import Derived.SliceStrings
namespace Gim
open Go Go.RowKit
/-- a slice of texts that was handed in is there to be read -/
theorem sd_of_cells {w : World} {a : Addr} {len cap : Nat} {zs : List ByteArray} (hl : len ≤ cap) (hm : cap ≤ maxLen) (hz : len ≤ zs.length)
    (hc : ∀ i, i < zs.length → w.cell? (a.add i) = some (.string (zs.getD i ByteArray.empty))) : Sd w (some a) len cap (zs.take len) :=
  ⟨by simp; omega, hl, hm, fun j hj => by
    have h0 := hc 0 (by omega)
    have hs : a.spot = none ∧ a.block < w.heap.size := by
      have h1 : w.cell? a = some (.string (zs.getD 0 ByteArray.empty)) := by simpa [Addr.add] using h0
      unfold World.cell? at h1
      split at h1
      · rename_i c hh
        refine ⟨?_, (Array.getElem?_eq_some_iff.1 hh).1⟩
        cases hp : a.spot with
        | none => rfl
        | some v => rw [hp] at h1; simp at h1
      · simp at h1
    obtain ⟨b, o, p⟩ := a
    obtain ⟨hp, hb⟩ := hs
    simp only [] at hp hb
    subst hp
    exact ⟨b, o, rfl, hb, fun i hi => by
      have h1 := hc i (by omega)
      rw [Addr.add_lit] at h1
      rw [h1]
      simp [List.getD, hi]⟩⟩
end Gim
