/- Formulas that were handed in. -/
import Derived.Test.YtmdanfeilgeoaaaKTwin
import Derived.Deep.Strs
import Derived.Lib.SmallJoins
import Derived.ChangeSlices
namespace Go.Proofs.Ytmdanfeilgeoaaa
open Go.RowKit Gim Go.WideShapes
section
variable {H : Type} {enc : TypeId × Value → H} {w : World} {base : Nat} {spare : Nat → Bool} {held : Bool}
set_option maxRecDepth 100000 in
theorem form_cells {fuel : Nat} {cs : List Value} {y : DataW H × List MemPlace} (h : DataW.trod enc Try.prog w base spare held fuel 26 cs = some y) (hl : cs.length = 4) :
    ∃ (n : Nat) (op v x : Int) (c : Value) (z : DataW H × List MemPlace), fuel = n + 1 ∧ cs = [.int .i64 op, .int .i64 v, .int .i64 x, c] ∧ DataW.trod enc Try.prog w base spare held n 24 [c] = some z := by
  obtain ⟨xs, n, hn, _, _, hlen, hf⟩ := DataW.trod_struct Try.underlying26 h
  match xs, hlen, cs, hl with
  | [y0, y1, y2, y3], _, [a, b, c, d], _ =>
    have e0 : Try.prog.cellsOf 3 = 1 := by kernel_rfl
    have e1 : Try.prog.cellsOf 22 = 1 := by kernel_rfl
    have e2 : Try.prog.cellsOf 23 = 1 := by kernel_rfl
    have e3 : Try.prog.cellsOf 24 = 1 := by kernel_rfl
    have h0 : DataW.trod enc Try.prog w base spare held n 22 [a] = some y0 := by simpa [e1] using hf 0 _ rfl
    have h1 : DataW.trod enc Try.prog w base spare held n 23 [b] = some y1 := by simpa [e2] using hf 1 _ rfl
    have h2 : DataW.trod enc Try.prog w base spare held n 3 [c] = some y2 := by simpa [e0] using hf 2 _ rfl
    have h3 : DataW.trod enc Try.prog w base spare held n 24 [d] = some y3 := by simpa [e3] using hf 3 _ rfl
    obtain ⟨k, hk, _, _⟩ := DataW.trod_int Try.underlying22 h0
    obtain ⟨q, hq, _, _⟩ := DataW.trod_int Try.underlying23 h1
    obtain ⟨s, hs, _, _⟩ := DataW.trod_int Try.underlying3 h2
    refine ⟨n, k, q, s, d, y3, hn, ?_, h3⟩
    simp only [List.cons.injEq, and_true] at hk hq hs
    rw [hk, hq, hs]
set_option maxRecDepth 100000 in
theorem open_forms : ∀ (fuel : Nat) (cs : List Value) (x : DataW H × List MemPlace), DataW.trod enc Try.prog w base spare held fuel 24 cs = some x → ∃ gs a n cap, cs = [.slice a n cap] ∧ FitS w gs a n cap := by
  intro fuel
  induction fuel using Nat.strongRecOn with
  | _ fuel ih =>
  intro cs x h
  rcases DataW.trod_slice Try.underlying24 h with h0 | ⟨a, len, cap, elems, rest, n, hn, rfl, _, hb, hl, hm, hlen, hel, _⟩
  · exact ⟨[], none, 0, 0, h0.1, rfl, Nat.le_refl _, Nat.zero_le _, fun j hj => absurd hj (Nat.not_lt_zero _)⟩
  have e4 : Try.prog.cellsOf 26 = 4 := by kernel_rfl
  have ad : ∀ m j : Nat, (a.add m).add j = a.add (m + j) := fun m j => by
    unfold Addr.add
    by_cases h1 : m = 0 <;> by_cases h2 : j = 0 <;> simp [h1, h2, Nat.add_assoc]
  have elem : ∀ i, i < len → ∃ (op v x : Int) (gs : List Fm) (a2 : Option Addr) (m2 cap2 : Nat), w.cell? (a.add (i * 4)) = some (.int .i64 op) ∧ w.cell? (a.add (i * 4 + 1)) = some (.int .i64 v) ∧ w.cell? (a.add (i * 4 + 2)) = some (.int .i64 x) ∧ w.cell? (a.add (i * 4 + 3)) = some (.slice a2 m2 cap2) ∧ FitS w gs a2 m2 cap2 := by
    intro i hil
    have hi := hel i hil
    rw [e4, show elems[i]? = some (elems[i]'(by omega)) from List.getElem?_eq_getElem _, Option.bind_eq_some_iff] at hi
    obtain ⟨cs', hcs, hy⟩ := hi
    obtain ⟨_, hl4, hc⟩ := World.cells?_some hcs
    obtain ⟨n2, op, v, x, d, z, hn2, rfl, hd⟩ := form_cells hy hl4
    obtain ⟨gs, a2, m2, cap2, hd2, hF⟩ := ih n2 (by omega) _ _ hd
    simp only [List.cons.injEq, and_true] at hd2
    subst hd2
    have k0 := hc 0 (by omega)
    have k1 := hc 1 (by omega)
    have k2 := hc 2 (by omega)
    have k3 := hc 3 (by omega)
    rw [ad] at k0 k1 k2 k3
    exact ⟨op, v, x, gs, a2, m2, cap2, k0, k1, k2, k3, hF⟩
  have hs : 0 < len → a.spot = none ∧ a.block < w.heap.size := by
    intro h0
    obtain ⟨op, _, _, _, _, _, _, k0, _⟩ := elem 0 h0
    have h1 : w.cell? a = some (.int .i64 op) := by simpa [Addr.add] using k0
    unfold World.cell? at h1
    split at h1
    · rename_i c hh
      refine ⟨?_, (Array.getElem?_eq_some_iff.1 hh).1⟩
      cases hp : a.spot with
      | none => rfl
      | some v => rw [hp] at h1; simp at h1
    · simp at h1
  have each : ∀ i : Fin len, ∃ f : Fm, FitA w f a.block (a.off + i * 4) := by
    intro i
    obtain ⟨op, v, x, gs, a2, m2, cap2, k0, k1, k2, k3, hF⟩ := elem i i.2
    have hs := hs (Nat.lt_of_le_of_lt (Nat.zero_le _) i.2)
    refine ⟨.mk op v x gs, ?_⟩
    obtain ⟨b, o, p⟩ := a
    simp only at hs
    obtain ⟨rfl, hbs⟩ := hs
    rw [Addr.add_lit] at k0 k1 k2 k3
    unfold FitA
    exact ⟨hbs, k0, k1, k2, a2, m2, cap2, k3, hF.len, hF.le, hF.cap_le, hF.fit⟩
  obtain ⟨f, hf⟩ := Classical.axiomOfChoice each
  refine ⟨List.ofFn f, some a, len, cap, rfl, by rw [List.length_ofFn], hl, hm, fun j hj => ?_⟩
  obtain ⟨b, o, p⟩ := a
  have hp := (hs (by omega)).1
  simp only at hp
  subst hp
  refine ⟨b, o, rfl, fitL_of _ _ fun i g hg => ?_⟩
  rw [List.getElem?_ofFn] at hg
  split at hg
  · rename_i hlt
    cases hg
    exact hf ⟨i, hlt⟩
  · cases hg
end
end Go.Proofs.Ytmdanfeilgeoaaa
