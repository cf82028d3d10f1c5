/- The walk of gimletref01.Decoder.Take. -/
import Derived.Test.YtpkdbfnnbbkkiaaDoorTake2Walk
import Derived.Test.YtpkdbfnnbbkkiaaDoorValueWalk
namespace Gim
open Go Go.RowKit
theorem row_empty (w : World) (t : TypeId) (k : IntKind) (B : Nat) (hB : B ≤ w.heap.size) : Row (w.alloc (.cells #[] t)) B t k (.slice (some ⟨w.heap.size, 0, none⟩) 0 0) [] :=
  ⟨by simp, .inr ⟨w.heap.size, 0, #[], rfl, hB, heap_alloc_new w _, by simp, by unfold maxLen; omega, by simp, by simp⟩⟩
theorem Row.rd2 {w : World} {B : Nat} {e : TypeId} {k : IntKind} {v : Value} {xs : List Int} (h : Row w B e k v xs) : ∃ ao cap, v = .slice ao xs.length cap ∧ Rd w k ao xs.length cap xs ∧ (ao = none → xs.length = 0 ∧ cap = 0) := by
  obtain ⟨ao, cap, e1, rd⟩ := h.rd
  refine ⟨ao, cap, e1, rd, fun hn => ?_⟩
  rcases h.2 with ⟨h1, h2⟩ | ⟨g, cap, cur, h1, _⟩
  · rw [e1] at h1
    simp only [Value.slice.injEq] at h1
    omega
  · rw [e1, hn] at h1
    simp at h1
theorem Row.rdAt' {w : World} {B : Nat} {e : TypeId} {k : IntKind} {ao : Option Addr} {n cap : Nat} {xs : List Int} (h : Row w B e k (.slice ao n cap) xs) : Rd w k ao n cap xs := by
  obtain ⟨ao, c, e1, rd⟩ := h.rd
  simp only [Value.slice.injEq] at e1
  obtain ⟨rfl, rfl, rfl⟩ := e1
  exact rd
end Gim
namespace Go.Proofs.YtpkdbfnnbbkkiaaDoor
open Go.RowKit Gim
end Go.Proofs.YtpkdbfnnbbkkiaaDoor
