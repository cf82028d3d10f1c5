/- Calls with bytes that were handed in. -/
import Derived.Test.YtpkdbfnnbbkkiaaDoorFeedPlaysM
import Derived.Test.YtpkdbfnnbbkkiaaDoorRows
import Derived.Deep.Strs
import Derived.ChangeSlices
import Derived.SizedLaws
import Derived.OpenShut
import Derived.JoinedCond
import Derived.ChangeOld
namespace Go.Proofs.YtpkdbfnnbbkkiaaDoor
open Go.RowKit Gim Go.WideShapes Go.ChangeShapes Go.ChangeAt
theorem bulk_pos4 {H : Type} (d : DataW H) : 1 ≤ Rows.uptoBulk d := by
  cases d with
  | lit l => cases l <;> simp [Rows.uptoBulk]
  | _ => simp [Rows.uptoBulk]
theorem bulkAll_len4 {H : Type} : ∀ l : List (DataW H), l.length ≤ Rows.uptoBulkAll l
  | [] => Nat.zero_le _
  | d :: r => by
    have h1 := bulk_pos4 d
    have h2 := bulkAll_len4 r
    simp only [Rows.uptoBulkAll, List.length_cons]
    omega
section
variable {H : Type} {enc : TypeId × Value → H} {w : World} {base : Nat} {spare : Nat → Bool}
def OpG (w : World) (y : Opn) : Prop := Rd w .u8 y.2.2.1 y.2.2.2.1 y.2.2.2.2.1 y.2.2.2.2.2 ∧ (y.2.2.1 = none → y.2.2.2.1 = 0 ∧ y.2.2.2.2.1 = 0) ∧ ∀ x ∈ y.2.2.2.2.2, 0 ≤ x ∧ x ≤ 255
set_option maxRecDepth 100000 in
theorem op4_cells {n : Nat} {cs : List Value} {y : DataW H × List MemPlace} (h : DataW.trod enc Tryd.prog w base spare true n 57 cs = some y) (hl : cs.length = 3) :
    ∃ x : Opn, cs = [.int .i64 x.1, .bool x.2.1, .slice x.2.2.1 x.2.2.2.1 x.2.2.2.2.1] ∧ OpG w x ∧ x.len ≤ Rows.uptoBulk y.1 := by
  obtain ⟨y0, y1, y2, m, hx, _, h0, h1, h2⟩ := Go.Deep.trod_struct3 Tryd.underlying57 h
  match cs, hl with
  | [a, b, c], _ =>
    have e0 : Tryd.prog.cellsOf 3 = 1 := by kernel_rfl
    have e1 : Tryd.prog.cellsOf 4 = 1 := by kernel_rfl
    have e2 : Tryd.prog.cellsOf 22 = 1 := by kernel_rfl
    have h0 : DataW.trod enc Tryd.prog w base spare true m 3 [a] = some y0 := by simpa [e0] using h0
    have h1 : DataW.trod enc Tryd.prog w base spare true m 4 [b] = some y1 := by simpa [e1] using h1
    have h2 : DataW.trod enc Tryd.prog w base spare true m 22 [c] = some y2 := by simpa [e2] using h2
    obtain ⟨k, hk, hy0, _⟩ := DataW.trod_int Tryd.underlying3 h0
    obtain ⟨q, hq, hy1⟩ := DataW.trod_bool Tryd.underlying4 h1
    simp only [List.cons.injEq, and_true] at hk hq
    have hb : Rows.uptoBulk y.1 = Rows.uptoBulk y0.1 + (Rows.uptoBulk y1.1 + (Rows.uptoBulk y2.1 + 0)) + 1 := by rw [hx]; rfl
    rcases open_ints Tryd.underlying22 Tryd.underlying5 (by kernel_rfl) h2 with ⟨hcs, _⟩ | ⟨x, l, c', zs, hcs, _, hl, hm, hz, hx2, hcell, hwz⟩
    · simp only [List.cons.injEq, and_true] at hcs
      exact ⟨(k, q, none, 0, 0, []), by rw [hk, hq, hcs], ⟨⟨rfl, Nat.le_refl _, Nat.zero_le _, fun j hj => absurd hj (Nat.not_lt_zero _)⟩, fun _ => ⟨rfl, rfl⟩, fun x hx => by cases hx⟩, Nat.zero_le _⟩
    · simp only [List.cons.injEq, and_true] at hcs
      have hz : l ≤ zs.length := by split at hz <;> omega
      refine ⟨(k, q, some x, l, c', zs.take l), by rw [hk, hq, hcs], ⟨rd_of_cells hl hm (by omega) hcell, fun h => (by cases h), fun y hy => wf_u8 (hwz y (List.mem_of_mem_take hy))⟩, ?_⟩
      show l ≤ _
      rw [hb, hx2]
      have h1 := bulkAll_len4 (H := H) (lits .u8 (zs.take l))
      simp only [Rows.uptoBulk]
      simp [lits] at h1 ⊢
      omega
theorem open_ops4 {fuel : Nat} {cs : List Value} {x : DataW H × List MemPlace} (h : DataW.trod enc Tryd.prog w base spare true fuel 52 cs = some x) :
    cs = [.slice none 0 0] ∨ ∃ (a : Addr) (len cap : Nat) (os : List Opn), cs = [.slice (some a) len cap] ∧ len ≤ cap ∧ cap ≤ maxLen ∧ os.length = len ∧ (∀ y ∈ os, OpG w y) ∧ len ≤ Rows.uptoBulk x.1 ∧ (os.map Opn.len).sum ≤ Rows.uptoBulk x.1 ∧
      ∀ i y, os[i]? = some y → w.cell? (a.add (i * 3)) = some (.int .i64 y.1) ∧ w.cell? (a.add (i * 3 + 1)) = some (.bool y.2.1) ∧ w.cell? (a.add (i * 3 + 2)) = some (.slice y.2.2.1 y.2.2.2.1 y.2.2.2.2.1) := by
  rcases DataW.trod_slice Tryd.underlying52 h with h0 | ⟨a, len, cap, elems, rest, n, _, hcs, hxx, hb, hl, hm, hlen, hel, _⟩
  · exact .inl h0.1
  right
  have e3 : Tryd.prog.cellsOf 57 = 3 := by kernel_rfl
  have each : ∀ i : Fin elems.length, ∃ y : Opn, OpG w y ∧ y.len ≤ Rows.uptoBulk (elems[i]).1 ∧ w.cell? (a.add (i * 3)) = some (.int .i64 y.1) ∧ w.cell? (a.add (i * 3 + 1)) = some (.bool y.2.1) ∧ w.cell? (a.add (i * 3 + 2)) = some (.slice y.2.2.1 y.2.2.2.1 y.2.2.2.2.1) := by
    intro i
    have hi := hel i (by have := i.2; omega)
    rw [e3, show elems[(i : Nat)]? = some elems[i] from List.getElem?_eq_getElem i.2, Option.bind_eq_some_iff] at hi
    obtain ⟨cs', hcs, hy⟩ := hi
    obtain ⟨_, hl3, hc⟩ := World.cells?_some hcs
    obtain ⟨y, rfl, hy1, hy2⟩ := op4_cells hy hl3
    have ad : ∀ m j : Nat, (a.add m).add j = a.add (m + j) := fun m j => by
      unfold Addr.add
      by_cases h1 : m = 0 <;> by_cases h2 : j = 0 <;> simp [h1, h2, Nat.add_assoc]
    refine ⟨y, hy1, hy2, by simpa [Addr.add] using hc 0 (by omega), ?_, ?_⟩
    · have := hc 1 (by omega)
      rw [ad] at this
      exact this
    · have := hc 2 (by omega)
      rw [ad] at this
      exact this
  obtain ⟨f, hf⟩ := Classical.axiomOfChoice each
  have hsum : ((List.ofFn f).map Opn.len).sum ≤ Rows.uptoBulkAll (elems.map (·.1)) := by
    have gen : ∀ (L : List (DataW H × List MemPlace)) (g : Fin L.length → Opn), (∀ i, (g i).len ≤ Rows.uptoBulk (L[i]).1) → ((List.ofFn g).map Opn.len).sum ≤ Rows.uptoBulkAll (L.map (·.1)) := by
      intro L
      induction L with
      | nil => intro g _; simp
      | cons d L ih =>
        intro g hg
        rw [List.ofFn_succ]
        have h0 := hg ⟨0, by simp⟩
        have h1 := ih (fun i => g i.succ) (fun i => hg i.succ)
        simp only [List.map_cons, List.sum_cons, Rows.uptoBulkAll]
        have h0' : (g 0).len ≤ Rows.uptoBulk d.1 := h0
        omega
    exact gen elems f (fun i => (hf i).2.1)
  have hbx : Rows.uptoBulkAll (elems.map (·.1)) ≤ Rows.uptoBulk x.1 := by
    rw [hxx]
    show _ ≤ Rows.uptoBulkAll (elems.map (·.1)) + Rows.uptoBulkAll _ + 1
    omega
  have hbl := bulkAll_len4 (elems.map (·.1))
  rw [List.length_map] at hbl
  refine ⟨a, len, cap, List.ofFn f, hcs, hl, hm, by rw [List.length_ofFn]; exact hlen, fun y hy => ?_, by omega, Nat.le_trans hsum hbx, fun i y hy => ?_⟩
  · obtain ⟨i, rfl⟩ := (List.mem_ofFn).1 hy
    exact (hf i).1
  · rw [List.getElem?_ofFn] at hy
    split at hy
    · rename_i hlt
      cases hy
      exact (hf ⟨i, hlt⟩).2.2
    · cases hy
end
/-- a slice of calls that was handed in is there to be read -/
theorem opl_of_cells {w : World} {a : Addr} {len cap : Nat} {os : List Opn} (hl : len ≤ cap) (hm : cap ≤ maxLen) (hz : os.length = len) (he : ∀ y ∈ os, OpG w y)
    (hc : ∀ i y, os[i]? = some y → w.cell? (a.add (i * 3)) = some (.int .i64 y.1) ∧ w.cell? (a.add (i * 3 + 1)) = some (.bool y.2.1) ∧ w.cell? (a.add (i * 3 + 2)) = some (.slice y.2.2.1 y.2.2.2.1 y.2.2.2.2.1)) : Opl w (some a) len cap os :=
  ⟨hz, hl, hm, fun j hj => by
    have h0 := (hc 0 _ (List.getElem?_eq_getElem (by omega))).1
    have hs : a.spot = none ∧ a.block < w.heap.size := by
      have h1 : w.cell? a = some (.int .i64 (os[0]'(by omega)).1) := by simpa [Addr.add] using h0
      unfold World.cell? at h1
      split at h1
      · rename_i c hh
        refine ⟨?_, (Array.getElem?_eq_some_iff.1 hh).1⟩
        cases hp : a.spot with
        | none => rfl
        | some v => rw [hp] at h1; simp at h1
      · simp at h1
    obtain ⟨b, o, p⟩ := a
    obtain ⟨hp, hb⟩ := hs
    simp only [] at hp hb
    subst hp
    exact ⟨b, o, rfl, hb, fun i y hy => by
      have := hc i y hy
      simp only [Addr.add_lit] at this
      exact this⟩, he⟩
end Go.Proofs.YtpkdbfnnbbkkiaaDoor
