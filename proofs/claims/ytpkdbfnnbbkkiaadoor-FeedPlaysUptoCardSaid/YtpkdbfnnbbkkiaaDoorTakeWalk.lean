/- The walks of runes.New, runes.Decoder.Take and Pending: of a Decoder that has met no wrong byte. -/
import Derived.Test.YtpkdbfnnbbkkiaaDoorGoodWalk
namespace Gim
open Go Go.RowKit
theorem two_set {w : World} {D : Nat} {v b : Value} {t : TypeId} (h : w.heap[D]? = some (.cells #[v, b] t)) (u : Value) : (w.setCell ⟨D, 0, none⟩ u).heap[D]? = some (.cells #[u, b] t) := by
  have hz := (Array.getElem?_eq_some_iff.1 h).1
  have hg := (Array.getElem?_eq_some_iff.1 h).2
  have hz2 : D < (w.setCell ⟨D, 0, none⟩ u).heap.size := by simp [World.setCell, hz]
  rw [Array.getElem?_eq_getElem hz2]
  simp only [World.setCell, Array.getElem_modify, hg]
  simp
end Gim
namespace Go.Proofs.YtpkdbfnnbbkkiaaDoor
open Go.RowKit Gim
end Go.Proofs.YtpkdbfnnbbkkiaaDoor
