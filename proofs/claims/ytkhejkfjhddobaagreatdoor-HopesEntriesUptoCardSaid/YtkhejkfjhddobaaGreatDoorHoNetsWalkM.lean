/- gimletlaw18.HopesNets walked. -/
import Derived.Test.YtkhejkfjhddobaaGreatDoorHoAwakeLawM
import Derived.BigRegion
import Derived.Test.YtkhejkfjhddobaaGreatDoorRows
import Derived.Deep.Strs
import Derived.Lib.SmallJoins
import Derived.ChangeSlices
import Derived.OpenShut
import Derived.ProofKit
section
namespace Go.Proofs.YtkhejkfjhddobaaGreatDoor
open Go.RowKit Gim
end Go.Proofs.YtkhejkfjhddobaaGreatDoor

end

section
namespace Go.Proofs.YtkhejkfjhddobaaGreatDoor
open Go.RowKit Gim Go.WideShapes Go.ChangeShapes Go.ChangeAt
set_option maxRecDepth 100000
section
variable {H : Type} {enc : TypeId × Value → H} {W : World}
theorem addr_add2 (a : Addr) (m j : Nat) : (a.add m).add j = a.add (m + j) := by
  unfold Addr.add
  by_cases h1 : m = 0 <;> by_cases h2 : j = 0 <;> simp [h1, h2, Nat.add_assoc]
theorem addr_plain {a : Addr} {v : Value} (h : W.cell? a = some v) : a.spot = none ∧ a.block < W.heap.size := by
  unfold World.cell? at h
  split at h
  · rename_i c hh
    refine ⟨?_, (Array.getElem?_eq_some_iff.1 hh).1⟩
    cases hp : a.spot with
    | none => rfl
    | some v => rw [hp] at h; simp at h
  · simp at h
theorem h_bulk_pos (d : DataW H) : 1 ≤ Rows.uptoBulk d := by
  cases d with
  | lit l => cases l <;> simp [Rows.uptoBulk]
  | _ => simp [Rows.uptoBulk]
theorem h_bulk_len : ∀ l : List (DataW H), l.length ≤ Rows.uptoBulkAll l
  | [] => Nat.zero_le _
  | d :: r => by
    have h1 := h_bulk_pos d
    have h2 := h_bulk_len r
    simp only [Rows.uptoBulkAll, List.length_cons]
    omega
theorem h_bulk_mem : ∀ {l : List (DataW H)} {i : Nat} {d : DataW H}, l[i]? = some d → Rows.uptoBulk d ≤ Rows.uptoBulkAll l
  | [], i, d, h => by simp at h
  | e :: r, 0, d, h => by
    simp only [List.getElem?_cons_zero, Option.some.injEq] at h
    subst h
    simp only [Rows.uptoBulkAll]
    omega
  | e :: r, i + 1, d, h => by
    rw [List.getElem?_cons_succ] at h
    have := h_bulk_mem h
    simp only [Rows.uptoBulkAll]
    omega
theorem ints_cells {fuel : Nat} {c : Value} {y : DataW H × List MemPlace} (h : DataW.trod enc Tryz.prog W 0 (fun _ => true) true fuel 53 [c] = some y) : ∃ a len cap zs, c = .slice a len cap ∧ Rd W .i64 a len cap zs ∧ len ≤ Rows.uptoBulk y.1 := by
  rcases open_ints Tryz.underlying53 Tryz.underlying3 (by kernel_rfl) h with ⟨hcs, _⟩ | ⟨x, l, c', zs, hcs, _, hl, hm, hz, hx, hcell, hwz⟩
  · exact ⟨none, 0, 0, [], by simpa using hcs, ⟨rfl, by omega, by unfold maxLen; omega, fun j hj => by omega⟩, Nat.zero_le _⟩
  · simp only [if_true] at hz
    refine ⟨_, l, c', _, by simpa using hcs, rd_of_cells hl hm (by omega) hcell, ?_⟩
    have h1 := h_bulk_len (H := H) (lits .i64 (zs.take l))
    have h2 : (lits (H := H) .i64 (zs.take l)).length = min l zs.length := by simp [lits]
    rw [hx]
    simp only [Rows.uptoBulk]
    omega
theorem row_cells {fuel : Nat} {cs : List Value} {y : DataW H × List MemPlace} (h : DataW.trod enc Tryz.prog W 0 (fun _ => true) true fuel 55 cs = some y) (hl : cs.length = 4) :
    ∃ (ax ts : Int) (nm : ByteArray) (a : Option Addr) (n cap : Nat) (zs : List Int), cs = [.int .i64 ax, .int .i64 ts, .string nm, .slice a n cap] ∧ Rd W .i64 a n cap zs ∧ 1 + nm.size + n ≤ Rows.uptoBulk y.1 := by
  obtain ⟨xs, n, hn, hx, _, hlen, hf⟩ := DataW.trod_struct Tryz.underlying55 h
  match xs, hlen, cs, hl with
  | [y0, y1, y2, y3], _, [a, b, c, d], _ =>
    have e0 : Tryz.prog.cellsOf 9 = 1 := by kernel_rfl
    have e1 : Tryz.prog.cellsOf 51 = 1 := by kernel_rfl
    have e2 : Tryz.prog.cellsOf 52 = 1 := by kernel_rfl
    have e3 : Tryz.prog.cellsOf 53 = 1 := by kernel_rfl
    have h0 : DataW.trod enc Tryz.prog W 0 (fun _ => true) true n 51 [a] = some y0 := by simpa [e1] using hf 0 _ rfl
    have h1 : DataW.trod enc Tryz.prog W 0 (fun _ => true) true n 52 [b] = some y1 := by simpa [e2] using hf 1 _ rfl
    have h2 : DataW.trod enc Tryz.prog W 0 (fun _ => true) true n 9 [c] = some y2 := by simpa [e0] using hf 2 _ rfl
    have h3 : DataW.trod enc Tryz.prog W 0 (fun _ => true) true n 53 [d] = some y3 := by simpa [e3] using hf 3 _ rfl
    obtain ⟨k, hk, _, _⟩ := DataW.trod_int Tryz.underlying51 h0
    obtain ⟨q, hq, _, _⟩ := DataW.trod_int Tryz.underlying52 h1
    obtain ⟨s, hs, hs2, _⟩ := DataW.trod_string Tryz.underlying9 h2
    obtain ⟨sa, sn, sc, zs, hd, hR, hbk⟩ := ints_cells h3
    simp only [List.cons.injEq, and_true] at hk hq hs
    refine ⟨k, q, s, sa, sn, sc, zs, by rw [hk, hq, hs, hd], hR, ?_⟩
    have e : s.data.toList.length = s.size := rfl
    rw [hx, hs2]
    simp only [List.map_cons, List.map_nil, Rows.uptoBulk, Rows.uptoBulkAll]
    omega
theorem open_rows {fuel : Nat} {cs : List Value} {x : DataW H × List MemPlace} (h : DataW.trod enc Tryz.prog W 0 (fun _ => true) true fuel 33 cs = some x) :
    ∃ rs a n cap, cs = [.slice a n cap] ∧ FitRowS W rs a n cap ∧ n + 1 ≤ Rows.uptoBulk x.1 ∧ ∀ r ∈ rs, 1 + r.nm.size + r.ps.length ≤ Rows.uptoBulk x.1 := by
  rcases DataW.trod_slice Tryz.underlying33 h with h0 | ⟨a, len, cap, elems, rest, n, hn, rfl, hxe, hb, hl, hm, hlen, hel, _⟩
  · exact ⟨[], none, 0, 0, h0.1, ⟨rfl, Nat.le_refl _, Nat.zero_le _, fun j hj => absurd hj (Nat.not_lt_zero _)⟩, h_bulk_pos _, fun r hr => by cases hr⟩
  have e4 : Tryz.prog.cellsOf 55 = 4 := by kernel_rfl
  have hbe : ∀ i (hil : i < len), Rows.uptoBulk (elems[i]'(by omega)).1 ≤ Rows.uptoBulkAll (elems.map (·.1)) := fun i hil => h_bulk_mem (i := i) (by rw [List.getElem?_map, List.getElem?_eq_getElem (by omega)]; rfl)
  have elem : ∀ i (hil : i < len), ∃ (ax ts : Int) (nm : ByteArray) (sa : Option Addr) (sn sc : Nat) (zs : List Int), W.cell? (a.add (i * 4)) = some (.int .i64 ax) ∧ W.cell? (a.add (i * 4 + 1)) = some (.int .i64 ts) ∧ W.cell? (a.add (i * 4 + 2)) = some (.string nm) ∧ W.cell? (a.add (i * 4 + 3)) = some (.slice sa sn sc) ∧ Rd W .i64 sa sn sc zs ∧ 1 + nm.size + zs.length ≤ Rows.uptoBulk (elems[i]'(by omega)).1 := by
    intro i hil
    have hi := hel i hil
    rw [e4, show elems[i]? = some (elems[i]'(by omega)) from List.getElem?_eq_getElem _, Option.bind_eq_some_iff] at hi
    obtain ⟨cs', hcs, hy⟩ := hi
    obtain ⟨_, hl4, hc⟩ := World.cells?_some hcs
    obtain ⟨ax, ts, nm, sa, sn, sc, zs, rfl, hR, hbk⟩ := row_cells hy hl4
    have k0 := hc 0 (by omega)
    have k1 := hc 1 (by omega)
    have k2 := hc 2 (by omega)
    have k3 := hc 3 (by omega)
    rw [addr_add2] at k0 k1 k2 k3
    exact ⟨ax, ts, nm, sa, sn, sc, zs, k0, k1, k2, k3, hR, by rw [hR.len]; exact hbk⟩
  have hs : 0 < len → a.spot = none ∧ a.block < W.heap.size := by
    intro h0
    obtain ⟨ax, _, _, _, _, _, _, k0, _⟩ := elem 0 h0
    exact addr_plain (v := .int .i64 ax) (by simpa [Addr.add] using k0)
  have each : ∀ i : Fin len, ∃ f : RowD, a.spot = none ∧ FitRow W f a.block (a.off + i * 4) ∧ 1 + f.nm.size + f.ps.length ≤ Rows.uptoBulk (elems[i.1]'(by omega)).1 := by
    intro ⟨i, hil⟩
    obtain ⟨ax, ts, nm, sa, sn, sc, zs, k0, k1, k2, k3, hR, hbk⟩ := elem i hil
    have hs := hs (by omega)
    obtain ⟨b, o, p⟩ := a
    simp only at hs
    obtain ⟨rfl, hbs⟩ := hs
    rw [Addr.add_lit] at k0 k1 k2 k3
    exact ⟨⟨ax, ts, nm, zs⟩, rfl, ⟨hbs, k0, k1, k2, sa, sn, sc, k3, hR⟩, hbk⟩
  obtain ⟨f, hf⟩ := Classical.axiomOfChoice each
  have hbl := h_bulk_len (elems.map (·.1))
  rw [List.length_map] at hbl
  refine ⟨List.ofFn f, some a, len, cap, rfl, ⟨by rw [List.length_ofFn], hl, hm, fun j hj => ?_⟩, ?_, fun r hr => ?_⟩
  · obtain ⟨b, o, p⟩ := a
    have hp := (hf ⟨j, hj⟩).1
    simp only at hp
    subst hp
    refine ⟨b, o, rfl, fun i g hg => ?_⟩
    rw [List.getElem?_ofFn] at hg
    split at hg
    · rename_i hlt
      cases hg
      exact (hf ⟨i, hlt⟩).2.1
    · cases hg
  · rw [hxe]
    simp only [Rows.uptoBulk]
    omega
  · obtain ⟨i, hi⟩ := List.mem_iff_getElem?.1 hr
    rw [List.getElem?_ofFn] at hi
    split at hi
    · rename_i hlt
      cases hi
      refine Nat.le_trans (hf ⟨i, hlt⟩).2.2 (Nat.le_trans (hbe i hlt) ?_)
      rw [hxe]
      simp only [Rows.uptoBulk]
      omega
    · cases hi
theorem pred_cells {fuel : Nat} {cs : List Value} {y : DataW H × List MemPlace} (h : DataW.trod enc Tryz.prog W 0 (fun _ => true) true fuel 59 cs = some y) (hl : cs.length = 8) :
    ∃ (op : Int) (a : Option Addr) (n cap : Nat) (zs : List Int) (first count : Int) (attr : ByteArray) (cmp : Int) (txt : ByteArray) (num : Int), cs = [.int .i64 op, .slice a n cap, .int .i64 first, .int .i64 count, .string attr, .int .i64 cmp, .string txt, .int .i64 num] ∧ Rd W .i64 a n cap zs ∧ 1 + attr.size + txt.size + n ≤ Rows.uptoBulk y.1 ∧ (Lit.int .i64 first).wf = true ∧ (Lit.int .i64 count).wf = true := by
  obtain ⟨xs, n, hn, hx, _, hlen, hf⟩ := DataW.trod_struct Tryz.underlying59 h
  match xs, hlen, cs, hl with
  | [y0, y1, y2, y3, y4, y5, y6, y7], _, [c0, c1, c2, c3, c4, c5, c6, c7], _ =>
    have e0 : Tryz.prog.cellsOf 9 = 1 := by kernel_rfl
    have e1 : Tryz.prog.cellsOf 56 = 1 := by kernel_rfl
    have e2 : Tryz.prog.cellsOf 57 = 1 := by kernel_rfl
    have e3 : Tryz.prog.cellsOf 53 = 1 := by kernel_rfl
    have e6 : Tryz.prog.cellsOf 3 = 1 := by kernel_rfl
    have h0 : DataW.trod enc Tryz.prog W 0 (fun _ => true) true n 56 [c0] = some y0 := by simpa [e1] using hf 0 _ rfl
    have h1 : DataW.trod enc Tryz.prog W 0 (fun _ => true) true n 53 [c1] = some y1 := by simpa [e3] using hf 1 _ rfl
    have h2 : DataW.trod enc Tryz.prog W 0 (fun _ => true) true n 3 [c2] = some y2 := by simpa [e6] using hf 2 _ rfl
    have h3 : DataW.trod enc Tryz.prog W 0 (fun _ => true) true n 3 [c3] = some y3 := by simpa [e6] using hf 3 _ rfl
    have h4 : DataW.trod enc Tryz.prog W 0 (fun _ => true) true n 9 [c4] = some y4 := by simpa [e0] using hf 4 _ rfl
    have h5 : DataW.trod enc Tryz.prog W 0 (fun _ => true) true n 57 [c5] = some y5 := by simpa [e2] using hf 5 _ rfl
    have h6 : DataW.trod enc Tryz.prog W 0 (fun _ => true) true n 9 [c6] = some y6 := by simpa [e0] using hf 6 _ rfl
    have h7 : DataW.trod enc Tryz.prog W 0 (fun _ => true) true n 3 [c7] = some y7 := by simpa [e6] using hf 7 _ rfl
    obtain ⟨op, ho, _, _⟩ := DataW.trod_int Tryz.underlying56 h0
    obtain ⟨first, hf1, _, hw1⟩ := DataW.trod_int Tryz.underlying3 h2
    obtain ⟨count, hc1, _, hw2⟩ := DataW.trod_int Tryz.underlying3 h3
    obtain ⟨cmp, hcm, _, _⟩ := DataW.trod_int Tryz.underlying57 h5
    obtain ⟨num, hnu, _, _⟩ := DataW.trod_int Tryz.underlying3 h7
    obtain ⟨s, hs, hs2, _⟩ := DataW.trod_string Tryz.underlying9 h4
    obtain ⟨t, ht, ht2, _⟩ := DataW.trod_string Tryz.underlying9 h6
    obtain ⟨sa, sn, sc, zs, hd, hR, hbk⟩ := ints_cells h1
    simp only [List.cons.injEq, and_true] at ho hf1 hc1 hcm hnu hs ht
    refine ⟨op, sa, sn, sc, zs, first, count, s, cmp, t, num, by rw [ho, hd, hf1, hc1, hs, hcm, ht, hnu], hR, ?_, hw1, hw2⟩
    have e : s.data.toList.length = s.size := rfl
    have e' : t.data.toList.length = t.size := rfl
    rw [hx, hs2, ht2]
    simp only [List.map_cons, List.map_nil, Rows.uptoBulk, Rows.uptoBulkAll]
    omega
theorem open_preds {fuel : Nat} {cs : List Value} {x : DataW H × List MemPlace} (h : DataW.trod enc Tryz.prog W 0 (fun _ => true) true fuel 34 cs = some x) :
    ∃ rs a n cap, cs = [.slice a n cap] ∧ FitPredS W rs a n cap ∧ n + 1 ≤ Rows.uptoBulk x.1 ∧ ∀ r ∈ rs, 1 + r.attr.size + r.txt.size + r.args.length ≤ Rows.uptoBulk x.1 ∧ (Lit.int .i64 r.first).wf = true ∧ (Lit.int .i64 r.count).wf = true := by
  rcases DataW.trod_slice Tryz.underlying34 h with h0 | ⟨a, len, cap, elems, rest, n, hn, rfl, hxe, hb, hl, hm, hlen, hel, _⟩
  · exact ⟨[], none, 0, 0, h0.1, ⟨rfl, Nat.le_refl _, Nat.zero_le _, fun j hj => absurd hj (Nat.not_lt_zero _)⟩, h_bulk_pos _, fun r hr => by cases hr⟩
  have e4 : Tryz.prog.cellsOf 59 = 8 := by kernel_rfl
  have hbe : ∀ i (hil : i < len), Rows.uptoBulk (elems[i]'(by omega)).1 ≤ Rows.uptoBulkAll (elems.map (·.1)) := fun i hil => h_bulk_mem (i := i) (by rw [List.getElem?_map, List.getElem?_eq_getElem (by omega)]; rfl)
  have elem : ∀ i (hil : i < len), ∃ (op : Int) (sa : Option Addr) (sn sc : Nat) (zs : List Int) (first count : Int) (attr : ByteArray) (cmp : Int) (txt : ByteArray) (num : Int), W.cell? (a.add (i * 8)) = some (.int .i64 op) ∧ W.cell? (a.add (i * 8 + 1)) = some (.slice sa sn sc) ∧ W.cell? (a.add (i * 8 + 2)) = some (.int .i64 first) ∧ W.cell? (a.add (i * 8 + 3)) = some (.int .i64 count) ∧ W.cell? (a.add (i * 8 + 4)) = some (.string attr) ∧ W.cell? (a.add (i * 8 + 5)) = some (.int .i64 cmp) ∧ W.cell? (a.add (i * 8 + 6)) = some (.string txt) ∧ W.cell? (a.add (i * 8 + 7)) = some (.int .i64 num) ∧ Rd W .i64 sa sn sc zs ∧ 1 + attr.size + txt.size + zs.length ≤ Rows.uptoBulk (elems[i]'(by omega)).1 ∧ (Lit.int .i64 first).wf = true ∧ (Lit.int .i64 count).wf = true := by
    intro i hil
    have hi := hel i hil
    rw [e4, show elems[i]? = some (elems[i]'(by omega)) from List.getElem?_eq_getElem _, Option.bind_eq_some_iff] at hi
    obtain ⟨cs', hcs, hy⟩ := hi
    obtain ⟨_, hl4, hc⟩ := World.cells?_some hcs
    obtain ⟨op, sa, sn, sc, zs, first, count, attr, cmp, txt, num, rfl, hR, hbk, hw1, hw2⟩ := pred_cells hy hl4
    have k0 := hc 0 (by omega)
    have k1 := hc 1 (by omega)
    have k2 := hc 2 (by omega)
    have k3 := hc 3 (by omega)
    have k4 := hc 4 (by omega)
    have k5 := hc 5 (by omega)
    have k6 := hc 6 (by omega)
    have k7 := hc 7 (by omega)
    rw [addr_add2] at k0 k1 k2 k3 k4 k5 k6 k7
    exact ⟨op, sa, sn, sc, zs, first, count, attr, cmp, txt, num, k0, k1, k2, k3, k4, k5, k6, k7, hR, by rw [hR.len]; exact hbk, hw1, hw2⟩
  have hs : 0 < len → a.spot = none ∧ a.block < W.heap.size := by
    intro h0
    obtain ⟨ax, _, _, _, _, _, _, _, _, _, _, k0, _⟩ := elem 0 h0
    exact addr_plain (v := .int .i64 ax) (by simpa [Addr.add] using k0)
  have each : ∀ i : Fin len, ∃ f : PredD, a.spot = none ∧ FitPred W f a.block (a.off + i * 8) ∧ (1 + f.attr.size + f.txt.size + f.args.length ≤ Rows.uptoBulk (elems[i.1]'(by omega)).1 ∧ (Lit.int .i64 f.first).wf = true ∧ (Lit.int .i64 f.count).wf = true) := by
    intro ⟨i, hil⟩
    obtain ⟨op, sa, sn, sc, zs, first, count, attr, cmp, txt, num, k0, k1, k2, k3, k4, k5, k6, k7, hR, hbk, hw1, hw2⟩ := elem i hil
    have hs := hs (by omega)
    obtain ⟨b, o, p⟩ := a
    simp only at hs
    obtain ⟨rfl, hbs⟩ := hs
    rw [Addr.add_lit] at k0 k1 k2 k3 k4 k5 k6 k7
    exact ⟨⟨op, zs, first, count, attr, cmp, txt, num⟩, rfl, ⟨hbs, k0, k2, k3, k4, k5, k6, k7, sa, sn, sc, k1, hR⟩, hbk, hw1, hw2⟩
  obtain ⟨f, hf⟩ := Classical.axiomOfChoice each
  have hbl := h_bulk_len (elems.map (·.1))
  rw [List.length_map] at hbl
  refine ⟨List.ofFn f, some a, len, cap, rfl, ⟨by rw [List.length_ofFn], hl, hm, fun j hj => ?_⟩, ?_, fun r hr => ?_⟩
  · obtain ⟨b, o, p⟩ := a
    have hp := (hf ⟨j, hj⟩).1
    simp only at hp
    subst hp
    refine ⟨b, o, rfl, fun i g hg => ?_⟩
    rw [List.getElem?_ofFn] at hg
    split at hg
    · rename_i hlt
      cases hg
      exact (hf ⟨i, hlt⟩).2.1
    · cases hg
  · rw [hxe]
    simp only [Rows.uptoBulk]
    omega
  · obtain ⟨i, hi⟩ := List.mem_iff_getElem?.1 hr
    rw [List.getElem?_ofFn] at hi
    split at hi
    · rename_i hlt
      cases hi
      refine ⟨Nat.le_trans (hf ⟨i, hlt⟩).2.2.1 (Nat.le_trans (hbe i hlt) ?_), (hf ⟨i, hlt⟩).2.2.2⟩
      rw [hxe]
      simp only [Rows.uptoBulk]
      omega
    · cases hi
end
end Go.Proofs.YtkhejkfjhddobaaGreatDoor

end

section
namespace Gim
open Go Go.RowKit
theorem array13h {α : Type} {a : Array α} (h : a.size = 13) : ∃ c0 c1 c2 c3 c4 c5 c6 c7 c8 c9 c10 c11 c12, a = #[c0, c1, c2, c3, c4, c5, c6, c7, c8, c9, c10, c11, c12] := by
  obtain ⟨l⟩ := a
  match l, h with
  | [c0, c1, c2, c3, c4, c5, c6, c7, c8, c9, c10, c11, c12], _ => exact ⟨c0, c1, c2, c3, c4, c5, c6, c7, c8, c9, c10, c11, c12, rfl⟩
theorem inR_of {x : Int} (h : (Lit.int .i64 x).wf = true) : InR x := by
  simp [Lit.wf, IntKind.min, IntKind.max, IntKind.signed, IntKind.bits] at h
  unfold InR
  omega
end Gim
namespace Go.Proofs.YtkhejkfjhddobaaGreatDoor
open Go.RowKit Gim Go.WideShapes Go.ChangeShapes Go.ChangeAt
set_option maxRecDepth 100000
section
variable {H : Type} {enc : TypeId × Value → H} {W : World}
theorem net_cells {fuel : Nat} {cs : List Value} {y : DataW H × List MemPlace} (h : DataW.trod enc Tryz.prog W 0 (fun _ => true) true fuel 36 cs = some y) (hl : cs.length = 3) (hb : Rows.uptoBulk y.1 ≤ 1048576) :
    ∃ (nd : NetD) (ra : Option Addr) (rc : Nat) (pa : Option Addr) (pc : Nat), cs = [.int .i64 nd.main, .slice ra nd.rows.length rc, .slice pa nd.preds.length pc] ∧ FitRowS W nd.rows ra nd.rows.length rc ∧ FitPredS W nd.preds pa nd.preds.length pc ∧ NLim nd := by
  obtain ⟨xs, n, hn, hx, _, hlen, hf⟩ := DataW.trod_struct Tryz.underlying36 h
  match xs, hlen, cs, hl with
  | [y0, y1, y2], _, [c0, c1, c2], _ =>
    have e0 : Tryz.prog.cellsOf 3 = 1 := by kernel_rfl
    have e1 : Tryz.prog.cellsOf 33 = 1 := by kernel_rfl
    have e2 : Tryz.prog.cellsOf 34 = 1 := by kernel_rfl
    have h0 : DataW.trod enc Tryz.prog W 0 (fun _ => true) true n 3 [c0] = some y0 := by simpa [e0] using hf 0 _ rfl
    have h1 : DataW.trod enc Tryz.prog W 0 (fun _ => true) true n 33 [c1] = some y1 := by simpa [e1] using hf 1 _ rfl
    have h2 : DataW.trod enc Tryz.prog W 0 (fun _ => true) true n 34 [c2] = some y2 := by simpa [e2] using hf 2 _ rfl
    obtain ⟨mn, hm, _, hw⟩ := DataW.trod_int Tryz.underlying3 h0
    obtain ⟨rs, ra, rn, rc, hr, hFr, hrb, hre⟩ := open_rows h1
    obtain ⟨ps, pa, pn, pc, hp, hFp, hpb, hpe⟩ := open_preds h2
    have hr1 := hFr.len
    have hp1 := hFp.len
    subst hr1
    subst hp1
    simp only [List.cons.injEq, and_true] at hm hr hp
    have hbb : Rows.uptoBulk y1.1 + Rows.uptoBulk y2.1 ≤ 1048576 := by
      rw [hx] at hb
      simp only [List.map_cons, List.map_nil, Rows.uptoBulk, Rows.uptoBulkAll] at hb
      omega
    refine ⟨⟨mn, rs, ps⟩, ra, rc, pa, pc, by rw [hm, hr, hp], hFr, hFp, ⟨by show rs.length + ps.length ≤ _; omega, fun k => ?_, fun k => ?_, fun k => ?_, inR_of hw, ⟨by decide, fun k => ?_, fun k => ?_⟩⟩⟩
    · show (ps.getD k zp).args.length ≤ _
      by_cases hk : k < ps.length
      · have := (hpe _ (List.mem_of_getElem? (get_getD hk zp))).1
        omega
      · rw [List.getD_eq_getElem?_getD, List.getElem?_eq_none (by omega)]
        exact Nat.zero_le _
    · show (rs.getD k zr).ps.length ≤ _
      by_cases hk : k < rs.length
      · have := hre _ (List.mem_of_getElem? (get_getD hk zr))
        omega
      · rw [List.getD_eq_getElem?_getD, List.getElem?_eq_none (by omega)]
        exact Nat.zero_le _
    · show InR (ps.getD k zp).first ∧ InR (ps.getD k zp).count
      by_cases hk : k < ps.length
      · have := (hpe _ (List.mem_of_getElem? (get_getD hk zp))).2
        exact ⟨inR_of this.1, inR_of this.2⟩
      · rw [List.getD_eq_getElem?_getD, List.getElem?_eq_none (by omega)]
        exact ⟨⟨by decide, by decide⟩, by decide, by decide⟩
    · show 1 + (ps.getD k zp).attr.size + (ps.getD k zp).txt.size ≤ _
      by_cases hk : k < ps.length
      · have := (hpe _ (List.mem_of_getElem? (get_getD hk zp))).1
        omega
      · rw [List.getD_eq_getElem?_getD, List.getElem?_eq_none (by omega)]
        show 1 + ByteArray.empty.size + ByteArray.empty.size ≤ _
        decide
    · show 1 + (rs.getD k zr).nm.size ≤ _
      by_cases hk : k < rs.length
      · have := hre _ (List.mem_of_getElem? (get_getD hk zr))
        omega
      · rw [List.getD_eq_getElem?_getD, List.getElem?_eq_none (by omega)]
        show 1 + ByteArray.empty.size ≤ _
        decide
theorem event_cells {fuel : Nat} {cs : List Value} {y : DataW H × List MemPlace} (h : DataW.trod enc Tryz.prog W 0 (fun _ => true) true fuel 45 cs = some y) (hl : cs.length = 8) :
    ∃ (k n d f t : Int) (nm tx : ByteArray) (ea : Option Addr) (el ec : Nat), cs = [.int .i64 k, .int .i64 n, .int .i64 d, .string nm, .slice ea el ec, .string tx, .int .i64 f, .int .i64 t] := by
  obtain ⟨xs, n, hn, hx, _, hlen, hf⟩ := DataW.trod_struct Tryz.underlying45 h
  match xs, hlen, cs, hl with
  | [y0, y1, y2, y3, y4, y5, y6, y7], _, [c0, c1, c2, c3, c4, c5, c6, c7], _ =>
    have e0 : Tryz.prog.cellsOf 9 = 1 := by kernel_rfl
    have e1 : Tryz.prog.cellsOf 42 = 1 := by kernel_rfl
    have e3 : Tryz.prog.cellsOf 43 = 1 := by kernel_rfl
    have e6 : Tryz.prog.cellsOf 3 = 1 := by kernel_rfl
    have h0 : DataW.trod enc Tryz.prog W 0 (fun _ => true) true n 42 [c0] = some y0 := by simpa [e1] using hf 0 _ rfl
    have h1 : DataW.trod enc Tryz.prog W 0 (fun _ => true) true n 3 [c1] = some y1 := by simpa [e6] using hf 1 _ rfl
    have h2 : DataW.trod enc Tryz.prog W 0 (fun _ => true) true n 3 [c2] = some y2 := by simpa [e6] using hf 2 _ rfl
    have h3 : DataW.trod enc Tryz.prog W 0 (fun _ => true) true n 9 [c3] = some y3 := by simpa [e0] using hf 3 _ rfl
    have h4 : DataW.trod enc Tryz.prog W 0 (fun _ => true) true n 43 [c4] = some y4 := by simpa [e3] using hf 4 _ rfl
    have h5 : DataW.trod enc Tryz.prog W 0 (fun _ => true) true n 9 [c5] = some y5 := by simpa [e0] using hf 5 _ rfl
    have h6 : DataW.trod enc Tryz.prog W 0 (fun _ => true) true n 3 [c6] = some y6 := by simpa [e6] using hf 6 _ rfl
    have h7 : DataW.trod enc Tryz.prog W 0 (fun _ => true) true n 3 [c7] = some y7 := by simpa [e6] using hf 7 _ rfl
    obtain ⟨k, hk, _, _⟩ := DataW.trod_int Tryz.underlying42 h0
    obtain ⟨m, hm, _, _⟩ := DataW.trod_int Tryz.underlying3 h1
    obtain ⟨d, hd, _, _⟩ := DataW.trod_int Tryz.underlying3 h2
    obtain ⟨s, hs, _, _⟩ := DataW.trod_string Tryz.underlying9 h3
    obtain ⟨t, ht, _, _⟩ := DataW.trod_string Tryz.underlying9 h5
    obtain ⟨f, hf', _, _⟩ := DataW.trod_int Tryz.underlying3 h6
    obtain ⟨u, hu, _, _⟩ := DataW.trod_int Tryz.underlying3 h7
    obtain ⟨ea, el, ec, he⟩ : ∃ a l c, [c4] = [Value.slice a l c] := by
      rcases DataW.trod_slice Tryz.underlying43 h4 with h0 | ⟨a, len, cap, elems, rest, n, hn, hc, _⟩
      · exact ⟨_, _, _, h0.1⟩
      · exact ⟨_, _, _, hc⟩
    simp only [List.cons.injEq, and_true] at hk hm hd hs ht hf' hu he
    exact ⟨k, m, d, f, u, s, t, ea, el, ec, by rw [hk, hm, hd, hs, he, ht, hf', hu]⟩
end
end Go.Proofs.YtkhejkfjhddobaaGreatDoor

end

