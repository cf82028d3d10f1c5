/- Events that were handed in. -/
import Derived.Test.YtkhejkfjhddobaaGreatDoorHoNetsWalkM
import Derived.Test.YtkhejkfjhddobaaGreatDoorBegin
namespace Go.Proofs.YtkhejkfjhddobaaGreatDoor
open Go.RowKit Gim Go.WideShapes Go.ChangeShapes Go.ChangeAt
set_option maxRecDepth 100000
section
variable {H : Type} {enc : TypeId × Value → H} {W : World}
theorem attr_cells {fuel : Nat} {cs : List Value} {y : DataW H × List MemPlace} (h : DataW.trod enc Tryz.prog W 0 (fun _ => true) true fuel 61 cs = some y) (hl : cs.length = 2) :
    ∃ (nm v : ByteArray), cs = [.string nm, .string v] ∧ nm.size + v.size ≤ Rows.uptoBulk y.1 := by
  obtain ⟨xs, n, hn, hx, _, hlen, hf⟩ := DataW.trod_struct Tryz.underlying61 h
  match xs, hlen, cs, hl with
  | [y0, y1], _, [a, b], _ =>
    have e0 : Tryz.prog.cellsOf 9 = 1 := by kernel_rfl
    have h0 : DataW.trod enc Tryz.prog W 0 (fun _ => true) true n 9 [a] = some y0 := by simpa [e0] using hf 0 _ rfl
    have h1 : DataW.trod enc Tryz.prog W 0 (fun _ => true) true n 9 [b] = some y1 := by simpa [e0] using hf 1 _ rfl
    obtain ⟨s, hs, hs2, _⟩ := DataW.trod_string Tryz.underlying9 h0
    obtain ⟨t, ht, ht2, _⟩ := DataW.trod_string Tryz.underlying9 h1
    simp only [List.cons.injEq, and_true] at hs ht
    refine ⟨s, t, by rw [hs, ht], ?_⟩
    have e : s.data.toList.length = s.size := rfl
    have e' : t.data.toList.length = t.size := rfl
    rw [hx, hs2, ht2]
    simp only [List.map_cons, List.map_nil, Rows.uptoBulk, Rows.uptoBulkAll]
    omega
theorem open_attrs {fuel : Nat} {cs : List Value} {x : DataW H × List MemPlace} (h : DataW.trod enc Tryz.prog W 0 (fun _ => true) true fuel 43 cs = some x) :
    ∃ rs a n cap, cs = [.slice a n cap] ∧ FitAt W rs a n cap ∧ n + 1 ≤ Rows.uptoBulk x.1 ∧ ∀ r ∈ rs, r.1.size + r.2.size ≤ Rows.uptoBulk x.1 := by
  rcases DataW.trod_slice Tryz.underlying43 h with h0 | ⟨a, len, cap, elems, rest, n, hn, rfl, hxe, hb, hl, hm, hlen, hel, _⟩
  · exact ⟨[], none, 0, 0, h0.1, ⟨rfl, Nat.le_refl _, Nat.zero_le _, fun j hj => absurd hj (Nat.not_lt_zero _)⟩, h_bulk_pos _, fun r hr => by cases hr⟩
  have e4 : Tryz.prog.cellsOf 61 = 2 := by kernel_rfl
  have hbe : ∀ i (hil : i < len), Rows.uptoBulk (elems[i]'(by omega)).1 ≤ Rows.uptoBulkAll (elems.map (·.1)) := fun i hil => h_bulk_mem (i := i) (by rw [List.getElem?_map, List.getElem?_eq_getElem (by omega)]; rfl)
  have elem : ∀ i (hil : i < len), ∃ (nm v : ByteArray), W.cell? (a.add (i * 2)) = some (.string nm) ∧ W.cell? (a.add (i * 2 + 1)) = some (.string v) ∧ nm.size + v.size ≤ Rows.uptoBulk (elems[i]'(by omega)).1 := by
    intro i hil
    have hi := hel i hil
    rw [e4, show elems[i]? = some (elems[i]'(by omega)) from List.getElem?_eq_getElem _, Option.bind_eq_some_iff] at hi
    obtain ⟨cs', hcs, hy⟩ := hi
    obtain ⟨_, hl4, hc⟩ := World.cells?_some hcs
    obtain ⟨nm, v, rfl, hbk⟩ := attr_cells hy hl4
    have k0 := hc 0 (by omega)
    have k1 := hc 1 (by omega)
    rw [addr_add2] at k0 k1
    exact ⟨nm, v, k0, k1, hbk⟩
  have hs : 0 < len → a.spot = none ∧ a.block < W.heap.size := by
    intro h0
    obtain ⟨nm, _, k0, _⟩ := elem 0 h0
    exact addr_plain (v := .string nm) (by simpa [Addr.add] using k0)
  have each : ∀ i : Fin len, ∃ f : ByteArray × ByteArray, a.spot = none ∧ a.block < W.heap.size ∧ W.cell? ⟨a.block, a.off + i * 2, none⟩ = some (.string f.1) ∧ W.cell? ⟨a.block, a.off + i * 2 + 1, none⟩ = some (.string f.2) ∧ f.1.size + f.2.size ≤ Rows.uptoBulk (elems[i.1]'(by omega)).1 := by
    intro ⟨i, hil⟩
    obtain ⟨nm, v, k0, k1, hbk⟩ := elem i hil
    have hs := hs (by omega)
    obtain ⟨b, o, p⟩ := a
    simp only at hs
    obtain ⟨rfl, hbs⟩ := hs
    rw [Addr.add_lit] at k0 k1
    exact ⟨(nm, v), rfl, hbs, k0, k1, hbk⟩
  obtain ⟨f, hf⟩ := Classical.axiomOfChoice each
  have hbl := h_bulk_len (elems.map (·.1))
  rw [List.length_map] at hbl
  refine ⟨List.ofFn f, some a, len, cap, rfl, ⟨by rw [List.length_ofFn], hl, hm, fun j hj => ?_⟩, ?_, fun r hr => ?_⟩
  · obtain ⟨b, o, p⟩ := a
    have hp := (hf ⟨j, hj⟩).1
    have hlt := (hf ⟨j, hj⟩).2.1
    simp only at hp hlt
    subst hp
    refine ⟨b, o, rfl, hlt, fun i g hg => ?_⟩
    rw [List.getElem?_ofFn] at hg
    split at hg
    · rename_i hlt
      cases hg
      exact ⟨(hf ⟨i, hlt⟩).2.2.1, (hf ⟨i, hlt⟩).2.2.2.1⟩
    · cases hg
  · rw [hxe]
    simp only [Rows.uptoBulk]
    omega
  · obtain ⟨i, hi⟩ := List.mem_iff_getElem?.1 hr
    rw [List.getElem?_ofFn] at hi
    split at hi
    · rename_i hlt
      cases hi
      refine Nat.le_trans (hf ⟨i, hlt⟩).2.2.2.2 (Nat.le_trans (hbe i hlt) ?_)
      rw [hxe]
      simp only [Rows.uptoBulk]
      omega
    · cases hi
/-- small events -/
structure EvBk (e : EvD) (m : Nat) : Prop where
  nm : e.nm.size + e.tx.size ≤ m
  al : e.ats.length ≤ m
  at_ : ∀ y ∈ e.ats, y.1.size + y.2.size ≤ m
  kd : (Lit.int .i64 e.kd).wf = true
  num : (Lit.int .i64 e.num).wf = true
  dep : (Lit.int .i64 e.dep).wf = true
  fr : (Lit.int .i64 e.fr).wf = true
  tu : (Lit.int .i64 e.tu).wf = true
theorem EvBk.mono {e : EvD} {m m' : Nat} (h : EvBk e m) (hm : m ≤ m') : EvBk e m' := ⟨Nat.le_trans h.nm hm, Nat.le_trans h.al hm, fun y hy => Nat.le_trans (h.at_ y hy) hm, h.kd, h.num, h.dep, h.fr, h.tu⟩
theorem EvBk.sz {e : EvD} {m : Nat} (h : EvBk e m) (hm : m ≤ 1099511627776) : EvSz e :=
  ⟨by have := h.nm; omega, by have := h.nm; omega, Nat.le_trans h.al hm, fun y hy => by have := h.at_ y hy; omega⟩
theorem ev_cells {fuel : Nat} {cs : List Value} {y : DataW H × List MemPlace} (h : DataW.trod enc Tryz.prog W 0 (fun _ => true) true fuel 45 cs = some y) (hl : cs.length = 8) :
    ∃ (e : EvD) (ea : Option Addr) (el ec : Nat), cs = [.int .i64 e.kd, .int .i64 e.num, .int .i64 e.dep, .string e.nm, .slice ea el ec, .string e.tx, .int .i64 e.fr, .int .i64 e.tu] ∧ FitAt W e.ats ea el ec ∧ EvBk e (Rows.uptoBulk y.1) := by
  obtain ⟨xs, n, hn, hx, _, hlen, hf⟩ := DataW.trod_struct Tryz.underlying45 h
  match xs, hlen, cs, hl with
  | [y0, y1, y2, y3, y4, y5, y6, y7], _, [c0, c1, c2, c3, c4, c5, c6, c7], _ =>
    have e0 : Tryz.prog.cellsOf 9 = 1 := by kernel_rfl
    have e1 : Tryz.prog.cellsOf 42 = 1 := by kernel_rfl
    have e3 : Tryz.prog.cellsOf 43 = 1 := by kernel_rfl
    have e6 : Tryz.prog.cellsOf 3 = 1 := by kernel_rfl
    have h0 : DataW.trod enc Tryz.prog W 0 (fun _ => true) true n 42 [c0] = some y0 := by simpa [e1] using hf 0 _ rfl
    have h1 : DataW.trod enc Tryz.prog W 0 (fun _ => true) true n 3 [c1] = some y1 := by simpa [e6] using hf 1 _ rfl
    have h2 : DataW.trod enc Tryz.prog W 0 (fun _ => true) true n 3 [c2] = some y2 := by simpa [e6] using hf 2 _ rfl
    have h3 : DataW.trod enc Tryz.prog W 0 (fun _ => true) true n 9 [c3] = some y3 := by simpa [e0] using hf 3 _ rfl
    have h4 : DataW.trod enc Tryz.prog W 0 (fun _ => true) true n 43 [c4] = some y4 := by simpa [e3] using hf 4 _ rfl
    have h5 : DataW.trod enc Tryz.prog W 0 (fun _ => true) true n 9 [c5] = some y5 := by simpa [e0] using hf 5 _ rfl
    have h6 : DataW.trod enc Tryz.prog W 0 (fun _ => true) true n 3 [c6] = some y6 := by simpa [e6] using hf 6 _ rfl
    have h7 : DataW.trod enc Tryz.prog W 0 (fun _ => true) true n 3 [c7] = some y7 := by simpa [e6] using hf 7 _ rfl
    obtain ⟨k, hk, _, w0⟩ := DataW.trod_int Tryz.underlying42 h0
    obtain ⟨m, hm, _, w1⟩ := DataW.trod_int Tryz.underlying3 h1
    obtain ⟨d, hd, _, w2⟩ := DataW.trod_int Tryz.underlying3 h2
    obtain ⟨s, hs, hs2, _⟩ := DataW.trod_string Tryz.underlying9 h3
    obtain ⟨t, ht, ht2, _⟩ := DataW.trod_string Tryz.underlying9 h5
    obtain ⟨f, hf', _, w6⟩ := DataW.trod_int Tryz.underlying3 h6
    obtain ⟨u, hu, _, w7⟩ := DataW.trod_int Tryz.underlying3 h7
    obtain ⟨ats, ea, el, ec, he, hF, hb1, hb2⟩ := open_attrs h4
    simp only [List.cons.injEq, and_true] at hk hm hd hs ht hf' hu he
    have e : s.data.toList.length = s.size := rfl
    have e' : t.data.toList.length = t.size := rfl
    have hbk : s.size + t.size + Rows.uptoBulk y4.1 ≤ Rows.uptoBulk y.1 := by
      rw [hx]
      simp only [List.map_cons, List.map_nil, Rows.uptoBulk, Rows.uptoBulkAll, hs2, ht2]
      omega
    have hal := hF.len
    exact ⟨⟨k, m, d, s, ats, t, f, u⟩, ea, el, ec, by rw [hk, hm, hd, hs, he, ht, hf', hu], hF, ⟨by show s.size + t.size ≤ _; omega, by show ats.length ≤ _; omega, fun y hy => by have := hb2 y hy; omega, w0, w1, w2, w6, w7⟩⟩
theorem open_evs {fuel : Nat} {cs : List Value} {x : DataW H × List MemPlace} (h : DataW.trod enc Tryz.prog W 0 (fun _ => true) true fuel 22 cs = some x) :
    ∃ es a n cap, cs = [.slice a n cap] ∧ FitEs W es a n cap ∧ n + 1 ≤ Rows.uptoBulk x.1 ∧ ∀ e ∈ es, EvBk e (Rows.uptoBulk x.1) := by
  rcases DataW.trod_slice Tryz.underlying22 h with h0 | ⟨a, len, cap, elems, rest, n, hn, rfl, hxe, hb, hl, hm, hlen, hel, _⟩
  · exact ⟨[], none, 0, 0, h0.1, ⟨rfl, Nat.le_refl _, Nat.zero_le _, fun j hj => absurd hj (Nat.not_lt_zero _)⟩, h_bulk_pos _, fun r hr => by cases hr⟩
  have e4 : Tryz.prog.cellsOf 45 = 8 := by kernel_rfl
  have hbe : ∀ i (hil : i < len), Rows.uptoBulk (elems[i]'(by omega)).1 ≤ Rows.uptoBulkAll (elems.map (·.1)) := fun i hil => h_bulk_mem (i := i) (by rw [List.getElem?_map, List.getElem?_eq_getElem (by omega)]; rfl)
  have elem : ∀ i (hil : i < len), ∃ (e : EvD) (ea : Option Addr) (el ec : Nat), (∀ j, j < 8 → W.cell? ((a.add (i * 8)).add j) = [Value.int .i64 e.kd, .int .i64 e.num, .int .i64 e.dep, .string e.nm, .slice ea el ec, .string e.tx, .int .i64 e.fr, .int .i64 e.tu][j]?) ∧ FitAt W e.ats ea el ec ∧ EvBk e (Rows.uptoBulk (elems[i]'(by omega)).1) := by
    intro i hil
    have hi := hel i hil
    rw [e4, show elems[i]? = some (elems[i]'(by omega)) from List.getElem?_eq_getElem _, Option.bind_eq_some_iff] at hi
    obtain ⟨cs', hcs, hy⟩ := hi
    obtain ⟨_, hl4, hc⟩ := World.cells?_some hcs
    obtain ⟨e, ea, el, ec, rfl, hF, hbk⟩ := ev_cells hy hl4
    refine ⟨e, ea, el, ec, fun j hj => ?_, hF, hbk⟩
    have := hc j (by omega)
    rw [this]
  have hs : 0 < len → a.spot = none ∧ a.block < W.heap.size := by
    intro h0
    obtain ⟨e, _, _, _, k0, _⟩ := elem 0 h0
    exact addr_plain (v := .int .i64 e.kd) (by simpa [Addr.add] using k0 0 (by omega))
  have each : ∀ i : Fin len, ∃ e : EvD, a.spot = none ∧ FitE W e a.block (a.off + i * 8) ∧ EvBk e (Rows.uptoBulk (elems[i.1]'(by omega)).1) := by
    intro ⟨i, hil⟩
    obtain ⟨e, ea, el, ec, hc, hF, hbk⟩ := elem i hil
    have hs := hs (by omega)
    have k0 := hc 0 (by omega)
    have k1 := hc 1 (by omega)
    have k2 := hc 2 (by omega)
    have k3 := hc 3 (by omega)
    have k4 := hc 4 (by omega)
    have k5 := hc 5 (by omega)
    have k6 := hc 6 (by omega)
    have k7 := hc 7 (by omega)
    rw [addr_add2] at k0 k1 k2 k3 k4 k5 k6 k7
    obtain ⟨b, o, p⟩ := a
    simp only at hs
    obtain ⟨rfl, hbs⟩ := hs
    rw [Addr.add_lit] at k0 k1 k2 k3 k4 k5 k6 k7
    exact ⟨e, rfl, ⟨hbs, k0, k1, k2, k3, ⟨ea, el, ec, k4, hF⟩, k5, k6, k7⟩, hbk⟩
  obtain ⟨f, hf⟩ := Classical.axiomOfChoice each
  have hbl := h_bulk_len (elems.map (·.1))
  rw [List.length_map] at hbl
  refine ⟨List.ofFn f, some a, len, cap, rfl, ⟨by rw [List.length_ofFn], hl, hm, fun j hj => ?_⟩, ?_, fun r hr => ?_⟩
  · obtain ⟨b, o, p⟩ := a
    have hp := (hf ⟨j, hj⟩).1
    simp only at hp
    subst hp
    refine ⟨b, o, rfl, fun i g hg => ?_⟩
    rw [List.getElem?_ofFn] at hg
    split at hg
    · rename_i hlt
      cases hg
      exact (hf ⟨i, hlt⟩).2.1
    · cases hg
  · rw [hxe]
    simp only [Rows.uptoBulk]
    omega
  · obtain ⟨i, hi⟩ := List.mem_iff_getElem?.1 hr
    rw [List.getElem?_ofFn] at hi
    split at hi
    · rename_i hlt
      cases hi
      refine (hf ⟨i, hlt⟩).2.2.mono (Nat.le_trans (hbe i hlt) ?_)
      rw [hxe]
      simp only [Rows.uptoBulk]
      omega
    · cases hi
theorem open_events {r : Reach} {b0 : Nat} {v : Value} {d : DataW H} {p : List MemPlace} (hv : Value.okWide Tryz.prog W r b0 22 v) (h : DataW.Trod enc Tryz.prog W 0 (fun _ => true) true 22 v d p) :
    ∃ es a n cap, v = .slice a n cap ∧ FitEs W es a n cap ∧ n + 1 ≤ Rows.uptoBulk d ∧ ∀ e ∈ es, EvBk e (Rows.uptoBulk d) := by
  obtain ⟨a, len, cap, rfl⟩ := okWide_slice Tryz.underlying22 hv
  obtain ⟨fuel, hf⟩ := h
  obtain ⟨es, a2, n2, c2, he, h1, h2, h3⟩ := open_evs (cs := [.slice a len cap]) (x := (d, p)) hf
  simp only [List.cons.injEq, and_true] at he
  exact ⟨es, a2, n2, c2, he, h1, h2, h3⟩
end
end Go.Proofs.YtkhejkfjhddobaaGreatDoor

