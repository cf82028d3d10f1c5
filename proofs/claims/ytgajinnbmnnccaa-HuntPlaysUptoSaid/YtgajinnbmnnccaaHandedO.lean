/- Calls that were handed in. -/
import Derived.Test.YtgajinnbmnnccaaHuntPlaysLaw
import Derived.Deep.Strs
import Derived.ChangeSlices
namespace Go.Proofs.Ytgajinnbmnnccaa
open Go.RowKit Gim Go.WideShapes
section
variable {H : Type} {enc : TypeId × Value → H} {w : World} {base : Nat} {spare : Nat → Bool} {held : Bool}
/-- a call as data -/
def opD (x : Int × Bool × ByteArray) : DataW H := .agg [.lit (.int .i64 x.1), .lit (.bool x.2.1), .lit (.string x.2.2.data.toList)]
theorem op_cells {n : Nat} {cs : List Value} {y : DataW H × List MemPlace} (h : DataW.trod enc Try.prog w base spare held n 51 cs = some y) (hl : cs.length = 3) :
    ∃ x : Int × Bool × ByteArray, cs = [.int .i64 x.1, .bool x.2.1, .string x.2.2] ∧ y.1 = opD x := by
  obtain ⟨y0, y1, y2, m, hx, _, h0, h1, h2⟩ := Go.Deep.trod_struct3 Try.underlying51 h
  match cs, hl with
  | [a, b, c], _ =>
    have e0 : Try.prog.cellsOf 3 = 1 := by kernel_rfl
    have e1 : Try.prog.cellsOf 4 = 1 := by kernel_rfl
    have e2 : Try.prog.cellsOf 9 = 1 := by kernel_rfl
    have h0 : DataW.trod enc Try.prog w base spare held m 3 [a] = some y0 := by simpa [e0] using h0
    have h1 : DataW.trod enc Try.prog w base spare held m 4 [b] = some y1 := by simpa [e1] using h1
    have h2 : DataW.trod enc Try.prog w base spare held m 9 [c] = some y2 := by simpa [e2] using h2
    obtain ⟨k, hk, hy0, _⟩ := DataW.trod_int Try.underlying3 h0
    obtain ⟨q, hq, hy1⟩ := DataW.trod_bool Try.underlying4 h1
    obtain ⟨s, hs, hy2, _⟩ := DataW.trod_string Try.underlying9 h2
    refine ⟨(k, q, s), ?_, ?_⟩
    · simp only [List.cons.injEq, and_true] at hk hq hs
      rw [hk, hq, hs]
    · rw [hx, hy0, hy1, hy2]; rfl
theorem open_ops {fuel : Nat} {cs : List Value} {x : DataW H × List MemPlace} (h : DataW.trod enc Try.prog w base spare held fuel 46 cs = some x) :
    cs = [.slice none 0 0] ∨ ∃ (a : Addr) (len cap : Nat) (os : List (Int × Bool × ByteArray)) (sp : List (DataW H)), cs = [.slice (some a) len cap] ∧ len ≤ cap ∧ cap ≤ maxLen ∧ os.length = len ∧ x.1 = .slice (os.map opD) sp ∧
      ∀ i y, os[i]? = some y → w.cell? (a.add (i * 3)) = some (.int .i64 y.1) ∧ w.cell? (a.add (i * 3 + 1)) = some (.bool y.2.1) ∧ w.cell? (a.add (i * 3 + 2)) = some (.string y.2.2) := by
  rcases DataW.trod_slice Try.underlying46 h with h0 | ⟨a, len, cap, elems, rest, n, _, rfl, rfl, hb, hl, hm, hlen, hel, _⟩
  · exact .inl h0.1
  right
  have e3 : Try.prog.cellsOf 51 = 3 := by kernel_rfl
  have each : ∀ i : Fin elems.length, ∃ y : Int × Bool × ByteArray, (elems[i]).1 = opD y ∧ w.cell? (a.add (i * 3)) = some (.int .i64 y.1) ∧ w.cell? (a.add (i * 3 + 1)) = some (.bool y.2.1) ∧ w.cell? (a.add (i * 3 + 2)) = some (.string y.2.2) := by
    intro i
    have hi := hel i (by have := i.2; omega)
    rw [e3, show elems[(i : Nat)]? = some elems[i] from List.getElem?_eq_getElem i.2, Option.bind_eq_some_iff] at hi
    obtain ⟨cs', hcs, hy⟩ := hi
    obtain ⟨_, hl3, hc⟩ := World.cells?_some hcs
    obtain ⟨y, rfl, hy1⟩ := op_cells hy hl3
    have ad : ∀ m j : Nat, (a.add m).add j = a.add (m + j) := fun m j => by
      unfold Addr.add
      by_cases h1 : m = 0 <;> by_cases h2 : j = 0 <;> simp [h1, h2, Nat.add_assoc]
    refine ⟨y, hy1, by simpa [Addr.add] using hc 0 (by omega), ?_, ?_⟩
    · have := hc 1 (by omega)
      rw [ad] at this
      exact this
    · have := hc 2 (by omega)
      rw [ad] at this
      exact this
  obtain ⟨f, hf⟩ := Classical.axiomOfChoice each
  refine ⟨a, len, cap, List.ofFn f, rest.map (·.1), rfl, hl, hm, by rw [List.length_ofFn]; exact hlen, ?_, fun i y hy => ?_⟩
  · show DataW.slice _ _ = _
    congr 1
    refine List.ext_getElem (by simp) fun j h1 h2 => ?_
    simp only [List.getElem_map, List.getElem_ofFn]
    exact (hf ⟨j, by simpa using h1⟩).1
  · rw [List.getElem?_ofFn] at hy
    split at hy
    · rename_i hlt
      cases hy
      exact (hf ⟨i, hlt⟩).2
    · cases hy
end
end Go.Proofs.Ytgajinnbmnnccaa
namespace Gim
open Go Go.RowKit
/-- a slice of calls that was handed in is there to be read -/
theorem od_of_cells {w : World} {a : Addr} {len cap : Nat} {os : List (Int × Bool × ByteArray)} (hl : len ≤ cap) (hm : cap ≤ maxLen) (hz : os.length = len)
    (hc : ∀ i y, os[i]? = some y → w.cell? (a.add (i * 3)) = some (.int .i64 y.1) ∧ w.cell? (a.add (i * 3 + 1)) = some (.bool y.2.1) ∧ w.cell? (a.add (i * 3 + 2)) = some (.string y.2.2)) : Od w (some a) len cap os :=
  ⟨hz, hl, hm, fun j hj => by
    have h0 := (hc 0 _ (List.getElem?_eq_getElem (by omega))).1
    have hs : a.spot = none ∧ a.block < w.heap.size := by
      have h1 : w.cell? a = some (.int .i64 (os[0]'(by omega)).1) := by simpa [Addr.add] using h0
      unfold World.cell? at h1
      split at h1
      · rename_i c hh
        refine ⟨?_, (Array.getElem?_eq_some_iff.1 hh).1⟩
        cases hp : a.spot with
        | none => rfl
        | some v => rw [hp] at h1; simp at h1
      · simp at h1
    obtain ⟨b, o, p⟩ := a
    obtain ⟨hp, hb⟩ := hs
    simp only [] at hp hb
    subst hp
    exact ⟨b, o, rfl, hb, fun i y hy => by
      have := hc i y hy
      simp only [Addr.add_lit] at this
      exact this⟩⟩
end Gim
