/- Slices of numbers that were handed in. -/
import Derived.Test.YtmdanfeilgeoaaaBase
import Derived.Laws.AppendOwnNone
namespace Gim
open Go Go.RowKit
/-- a slice of numbers that was handed in is there to be read -/
theorem rd_of_cells {w : World} {k : IntKind} {a : Addr} {len cap : Nat} {zs : List Int} (hl : len ≤ cap) (hm : cap ≤ maxLen) (hz : len ≤ zs.length)
    (hc : ∀ i, i < zs.length → w.cell? (a.add i) = some (.int k (zs.getD i 0))) : Rd w k (some a) len cap (zs.take len) :=
  ⟨by simp; omega, hl, hm, fun j hj => by
    have h0 := hc 0 (by omega)
    have hs : a.spot = none ∧ a.block < w.heap.size := by
      have h1 : w.cell? a = some (.int k (zs.getD 0 0)) := by simpa [Addr.add] using h0
      unfold World.cell? at h1
      split at h1
      · rename_i c hh
        refine ⟨?_, (Array.getElem?_eq_some_iff.1 hh).1⟩
        cases hp : a.spot with
        | none => rfl
        | some v => rw [hp] at h1; simp at h1
      · simp at h1
    obtain ⟨b, o, p⟩ := a
    obtain ⟨hp, hb⟩ := hs
    simp only [] at hp hb
    subst hp
    exact ⟨b, o, rfl, hb, fun i hi => by
      have h1 := hc i (by omega)
      rw [Addr.add_lit] at h1
      rw [h1]
      simp [gt, hi]⟩⟩
theorem wf_u8 {x : Int} (h : (Lit.int .u8 x).wf = true) : 0 ≤ x ∧ x ≤ 255 := by
  simp [Lit.wf, IntKind.min, IntKind.max, IntKind.signed, IntKind.bits] at h
  exact h
theorem gt_all {P : Int → Prop} {xs : List Int} {n : Nat} (hl : xs.length = n) (h : ∀ x ∈ xs, P x) : ∀ j, j < n → P (gt xs j) := fun j hj => by
  rw [gt_lt (by omega)]
  exact h _ (List.getElem_mem _)
end Gim
namespace Go.Proofs.Ytmdanfeilgeoaaa
open Go.RowKit Gim
theorem info_u8 : (Try.prog.info? 5).map (fun i => (i.zero, i.size, i.bytes)) = some (some (.int .u8 0), 1, 1) := by kernel_rfl
end Go.Proofs.Ytmdanfeilgeoaaa
