/- Bulk of what is handed in; addresses. -/
import Derived.Deep.Strs
import Derived.ChangeSlices
import Derived.OpenShut
import Derived.ProofKit
import Derived.Test.YtkhejkfjhddobaaGreatDoorBegin
set_option maxRecDepth 100000
namespace Go.Proofs.YtkhejkfjhddobaaGreatDoor
open Go.RowKit Gim Go.WideShapes Go.ChangeShapes Go.ChangeAt
section
variable {H : Type} {enc : TypeId × Value → H} {W : World}
theorem yJZ (a : Addr) (m j : Nat) : (a.add m).add j = a.add (m + j) := by unfold Addr.add; by_cases h1 : m = 0 <;> by_cases h2 : j = 0 <;> simp [h1, h2, Nat.add_assoc]
theorem yId {a : Addr} {v : Value} (h : W.cell? a = some v) : a.spot = none ∧ a.block < W.heap.size := by
 unfold World.cell? at h; split at h
 ·rename_i c hh; refine ⟨?_, (jl hh)⟩; cases hp : a.spot with
  | none => rfl
  | some v => rw [hp] at h; simp at h
 ·simp at h
theorem yFv (d : DataW H) : 1 ≤ Rows.uptoBulk d := by
 cases d with
 | lit l => cases l <;> simp [Rows.uptoBulk]
 | _ => simp [Rows.uptoBulk]
theorem yFp : ∀ l : List (DataW H), l.length ≤ Rows.uptoBulkAll l
 | [] => jz _
 | d :: r => by have h1 := yFv d; have h2 := yFp r; simp only [Rows.uptoBulkAll, List.length_cons]; omega
theorem yFm : ∀ {l : List (DataW H)} {i : Nat} {d : DataW H}, l[i]? = some d → Rows.uptoBulk d ≤ Rows.uptoBulkAll l
 | [], i, d, h => by simp at h
 | e :: r, 0, d, h => by simp only [List.getElem?_cons_zero, Option.some.injEq] at h; subst h; simp only [Rows.uptoBulkAll]; omega
 | e :: r, i + 1, d, h => by rw [List.getElem?_cons_succ] at h; have := yFm h; simp only [Rows.uptoBulkAll]; omega
end
end Go.Proofs.YtkhejkfjhddobaaGreatDoor
namespace Go.Proofs.YtkhejkfjhddobaaGreatDoor
open Go.RowKit Gim Go.WideShapes Go.ChangeShapes Go.ChangeAt
section
variable {H : Type} {enc : TypeId × Value → H} {W : World}
theorem yOr {fuel : Nat} {cs : List Value} {y : DataW H × List MemPlace} (h : DataW.trod enc Tryz.prog W 0 (fun _ => true) true fuel 61 cs = some y) (hl : cs.length = 2) :
  ∃ (nm v : ByteArray), cs = [.string nm, .string v] ∧ nm.size + v.size ≤ Rows.uptoBulk y.1 := by
 obtain ⟨xs, n, hn, hx, _, hlen, hf⟩ := DataW.trod_struct Tryz.underlying61 h
 match xs, hlen, cs, hl with
 | [y0, y1], _, [a, b], _ =>
  have e0 : Tryz.prog.cellsOf 9 = 1 := by kernel_rfl
  have h0 : DataW.trod enc Tryz.prog W 0 (fun _ => true) true n 9 [a] = some y0 := by simpa [e0] using hf 0 _ rfl
  have h1 : DataW.trod enc Tryz.prog W 0 (fun _ => true) true n 9 [b] = some y1 := by simpa [e0] using hf 1 _ rfl
  obtain ⟨s, hs, hs2, _⟩ := DataW.trod_string Tryz.underlying9 h0; obtain ⟨t, ht, ht2, _⟩ := DataW.trod_string Tryz.underlying9 h1; simp only [List.cons.injEq, and_true] at hs ht; refine ⟨s, t, by rw [hs, ht], ?_⟩; have e : s.data.toList.length = s.size := rfl; have e' : t.data.toList.length = t.size := rfl; rw [hx, hs2, ht2]; simp only [List.map_cons, List.map_nil, Rows.uptoBulk, Rows.uptoBulkAll]; omega
theorem yOa {fuel : Nat} {cs : List Value} {x : DataW H × List MemPlace} (h : DataW.trod enc Tryz.prog W 0 (fun _ => true) true fuel 43 cs = some x) :
  ∃ rs a n cap, cs = [.slice a n cap] ∧ yAO W rs a n cap ∧ n + 1 ≤ Rows.uptoBulk x.1 ∧ ∀ r ∈ rs, r.1.size + r.2.size ≤ Rows.uptoBulk x.1 := by
 rcases DataW.trod_slice Tryz.underlying43 h with h0 | ⟨a, len, cap, elems, rest, n, hn, rfl, hxe, hb, hl, hm, hlen, hel, _⟩
 ·exact ⟨[], none, 0, 0, h0.1, ⟨rfl, jr _, jz _, fun j hj => absurd hj (Nat.not_lt_zero _)⟩, yFv _, fun r hr => by cases hr⟩
 have e4 : Tryz.prog.cellsOf 61 = 2 := by kernel_rfl
 have hbe : ∀ i (hil : i < len), Rows.uptoBulk (elems[i]'(by omega)).1 ≤ Rows.uptoBulkAll (elems.map (·.1)) := fun i hil => yFm (i := i) (by rw [List.getElem?_map, jk (by omega)]; rfl)
 have elem : ∀ i (hil : i < len), ∃ (nm v : ByteArray), W.cell? (a.add (i * 2)) = some (.string nm) ∧ W.cell? (a.add (i * 2 + 1)) = some (.string v) ∧ nm.size + v.size ≤ Rows.uptoBulk (elems[i]'(by omega)).1 := by intro i hil; have hi := hel i hil; rw [e4, show elems[i]? = some (elems[i]'(by omega)) from jk _, Option.bind_eq_some_iff] at hi; obtain ⟨cs', hcs, hy⟩ := hi; obtain ⟨_, hl4, hc⟩ := World.cells?_some hcs; obtain ⟨nm, v, rfl, hbk⟩ := yOr hy hl4; have k0 := hc 0 (by omega); have k1 := hc 1 (by omega); rw [yJZ] at k0 k1; exact ⟨nm, v, k0, k1, hbk⟩
 have hs : 0 < len → a.spot = none ∧ a.block < W.heap.size := by intro h0; obtain ⟨nm, _, k0, _⟩ := elem 0 h0; exact yId (v := .string nm) (by simpa [Addr.add] using k0)
 have each : ∀ i : Fin len, ∃ f : ByteArray × ByteArray, a.spot = none ∧ a.block < W.heap.size ∧ W.cell? ⟨a.block, a.off + i * 2, none⟩ = some (.string f.1) ∧ W.cell? ⟨a.block, a.off + i * 2 + 1, none⟩ = some (.string f.2) ∧ f.1.size + f.2.size ≤ Rows.uptoBulk (elems[i.1]'(by omega)).1 := by intro ⟨i, hil⟩; obtain ⟨nm, v, k0, k1, hbk⟩ := elem i hil; have hs := hs (by omega); obtain ⟨b, o, p⟩ := a; simp only at hs; obtain ⟨rfl, hbs⟩ := hs; rw [Addr.add_lit] at k0 k1; exact ⟨(nm, v), rfl, hbs, k0, k1, hbk⟩
 obtain ⟨f, hf⟩ := Classical.axiomOfChoice each; have hbl := yFp (elems.map (·.1)); rw [List.length_map] at hbl; refine ⟨List.ofFn f, some a, len, cap, rfl, ⟨by rw [List.length_ofFn], hl, hm, fun j hj => ?_⟩, ?_, fun r hr => ?_⟩
 ·obtain ⟨b, o, p⟩ := a; have hp := (hf ⟨j, hj⟩).1; have hlt := (hf ⟨j, hj⟩).2.1; simp only at hp hlt; subst hp; refine ⟨b, o, rfl, hlt, fun i g hg => ?_⟩; rw [List.getElem?_ofFn] at hg; split at hg
  ·rename_i hlt; cases hg; exact ⟨(hf ⟨i, hlt⟩).2.2.1, (hf ⟨i, hlt⟩).2.2.2.1⟩
  ·cases hg
 ·rw [hxe]; simp only [Rows.uptoBulk]; omega
 ·obtain ⟨i, hi⟩ := List.mem_iff_getElem?.1 hr; rw [List.getElem?_ofFn] at hi; split at hi
  ·rename_i hlt; cases hi; refine ju (hf ⟨i, hlt⟩).2.2.2.2 (ju (hbe i hlt) ?_); rw [hxe]; simp only [Rows.uptoBulk]; omega
  ·cases hi
structure yIn (e : EvD) (m : Nat) : Prop where
 nm : e.nm.size + e.tx.size ≤ m
 al : e.ats.length ≤ m
 at_ : ∀ y ∈ e.ats, y.1.size + y.2.size ≤ m
 kd : (Lit.int .i64 e.kd).wf = true
 num : (Lit.int .i64 e.num).wf = true
 dep : (Lit.int .i64 e.dep).wf = true
 fr : (Lit.int .i64 e.fr).wf = true
 tu : (Lit.int .i64 e.tu).wf = true
theorem yIn.mono {e : EvD} {m m' : Nat} (h : yIn e m) (hm : m ≤ m') : yIn e m' := ⟨ju h.nm hm, ju h.al hm, fun y hy => ju (h.at_ y hy) hm, h.kd, h.num, h.dep, h.fr, h.tu⟩
theorem yIn.sz {e : EvD} {m : Nat} (h : yIn e m) (hm : m ≤ 1099511627776) : yEg e :=
 ⟨by have := h.nm; omega, by have := h.nm; omega, ju h.al hm, fun y hy => by have := h.at_ y hy; omega⟩
theorem yRh {fuel : Nat} {cs : List Value} {y : DataW H × List MemPlace} (h : DataW.trod enc Tryz.prog W 0 (fun _ => true) true fuel 45 cs = some y) (hl : cs.length = 8) :
  ∃ (e : EvD) (ea : Option Addr) (el ec : Nat), cs = [.int .i64 e.kd, .int .i64 e.num, .int .i64 e.dep, .string e.nm, .slice ea el ec, .string e.tx, .int .i64 e.fr, .int .i64 e.tu] ∧ yAO W e.ats ea el ec ∧ yIn e (Rows.uptoBulk y.1) := by
 obtain ⟨xs, n, hn, hx, _, hlen, hf⟩ := DataW.trod_struct Tryz.underlying45 h
 match xs, hlen, cs, hl with
 | [y0, y1, y2, y3, y4, y5, y6, y7], _, [c0, c1, c2, c3, c4, c5, c6, c7], _ =>
  have e0 : Tryz.prog.cellsOf 9 = 1 := by kernel_rfl
  have e1 : Tryz.prog.cellsOf 42 = 1 := by kernel_rfl
  have e3 : Tryz.prog.cellsOf 43 = 1 := by kernel_rfl
  have e6 : Tryz.prog.cellsOf 3 = 1 := by kernel_rfl
  have h0 : DataW.trod enc Tryz.prog W 0 (fun _ => true) true n 42 [c0] = some y0 := by simpa [e1] using hf 0 _ rfl
  have h1 : DataW.trod enc Tryz.prog W 0 (fun _ => true) true n 3 [c1] = some y1 := by simpa [e6] using hf 1 _ rfl
  have h2 : DataW.trod enc Tryz.prog W 0 (fun _ => true) true n 3 [c2] = some y2 := by simpa [e6] using hf 2 _ rfl
  have h3 : DataW.trod enc Tryz.prog W 0 (fun _ => true) true n 9 [c3] = some y3 := by simpa [e0] using hf 3 _ rfl
  have h4 : DataW.trod enc Tryz.prog W 0 (fun _ => true) true n 43 [c4] = some y4 := by simpa [e3] using hf 4 _ rfl
  have h5 : DataW.trod enc Tryz.prog W 0 (fun _ => true) true n 9 [c5] = some y5 := by simpa [e0] using hf 5 _ rfl
  have h6 : DataW.trod enc Tryz.prog W 0 (fun _ => true) true n 3 [c6] = some y6 := by simpa [e6] using hf 6 _ rfl
  have h7 : DataW.trod enc Tryz.prog W 0 (fun _ => true) true n 3 [c7] = some y7 := by simpa [e6] using hf 7 _ rfl
  obtain ⟨k, hk, _, w0⟩ := DataW.trod_int Tryz.underlying42 h0; obtain ⟨m, hm, _, w1⟩ := DataW.trod_int Tryz.underlying3 h1; obtain ⟨d, hd, _, w2⟩ := DataW.trod_int Tryz.underlying3 h2; obtain ⟨s, hs, hs2, _⟩ := DataW.trod_string Tryz.underlying9 h3; obtain ⟨t, ht, ht2, _⟩ := DataW.trod_string Tryz.underlying9 h5; obtain ⟨f, hf', _, w6⟩ := DataW.trod_int Tryz.underlying3 h6; obtain ⟨u, hu, _, w7⟩ := DataW.trod_int Tryz.underlying3 h7; obtain ⟨ats, ea, el, ec, he, hF, hb1, hb2⟩ := yOa h4; simp only [List.cons.injEq, and_true] at hk hm hd hs ht hf' hu he; have e : s.data.toList.length = s.size := rfl; have e' : t.data.toList.length = t.size := rfl; have hbk : s.size + t.size + Rows.uptoBulk y4.1 ≤ Rows.uptoBulk y.1 := by rw [hx]; simp only [List.map_cons, List.map_nil, Rows.uptoBulk, Rows.uptoBulkAll, hs2, ht2]; omega
  have hal := hF.len; exact ⟨⟨k, m, d, s, ats, t, f, u⟩, ea, el, ec, by rw [hk, hm, hd, hs, he, ht, hf', hu], hF, ⟨by show s.size + t.size ≤ _; omega, by show ats.length ≤ _; omega, fun y hy => by have := hb2 y hy; omega, w0, w1, w2, w6, w7⟩⟩
theorem yRq {fuel : Nat} {cs : List Value} {x : DataW H × List MemPlace} (h : DataW.trod enc Tryz.prog W 0 (fun _ => true) true fuel 22 cs = some x) :
  ∃ es a n cap, cs = [.slice a n cap] ∧ yC4 W es a n cap ∧ n + 1 ≤ Rows.uptoBulk x.1 ∧ ∀ e ∈ es, yIn e (Rows.uptoBulk x.1) := by
 rcases DataW.trod_slice Tryz.underlying22 h with h0 | ⟨a, len, cap, elems, rest, n, hn, rfl, hxe, hb, hl, hm, hlen, hel, _⟩
 ·exact ⟨[], none, 0, 0, h0.1, ⟨rfl, jr _, jz _, fun j hj => absurd hj (Nat.not_lt_zero _)⟩, yFv _, fun r hr => by cases hr⟩
 have e4 : Tryz.prog.cellsOf 45 = 8 := by kernel_rfl
 have hbe : ∀ i (hil : i < len), Rows.uptoBulk (elems[i]'(by omega)).1 ≤ Rows.uptoBulkAll (elems.map (·.1)) := fun i hil => yFm (i := i) (by rw [List.getElem?_map, jk (by omega)]; rfl)
 have elem : ∀ i (hil : i < len), ∃ (e : EvD) (ea : Option Addr) (el ec : Nat), (∀ j, j < 8 → W.cell? ((a.add (i * 8)).add j) = [Value.int .i64 e.kd, .int .i64 e.num, .int .i64 e.dep, .string e.nm, .slice ea el ec, .string e.tx, .int .i64 e.fr, .int .i64 e.tu][j]?) ∧ yAO W e.ats ea el ec ∧ yIn e (Rows.uptoBulk (elems[i]'(by omega)).1) := by intro i hil; have hi := hel i hil; rw [e4, show elems[i]? = some (elems[i]'(by omega)) from jk _, Option.bind_eq_some_iff] at hi; obtain ⟨cs', hcs, hy⟩ := hi; obtain ⟨_, hl4, hc⟩ := World.cells?_some hcs; obtain ⟨e, ea, el, ec, rfl, hF, hbk⟩ := yRh hy hl4; refine ⟨e, ea, el, ec, fun j hj => ?_, hF, hbk⟩; have := hc j (by omega); rw [this]
 have hs : 0 < len → a.spot = none ∧ a.block < W.heap.size := by intro h0; obtain ⟨e, _, _, _, k0, _⟩ := elem 0 h0; exact yId (v := .int .i64 e.kd) (by simpa [Addr.add] using k0 0 (by omega))
 have each : ∀ i : Fin len, ∃ e : EvD, a.spot = none ∧ yPZ W e a.block (a.off + i * 8) ∧ yIn e (Rows.uptoBulk (elems[i.1]'(by omega)).1) := by intro ⟨i, hil⟩; obtain ⟨e, ea, el, ec, hc, hF, hbk⟩ := elem i hil; have hs := hs (by omega); have k0 := hc 0 (by omega); have k1 := hc 1 (by omega); have k2 := hc 2 (by omega); have k3 := hc 3 (by omega); have k4 := hc 4 (by omega); have k5 := hc 5 (by omega); have k6 := hc 6 (by omega); have k7 := hc 7 (by omega); rw [yJZ] at k0 k1 k2 k3 k4 k5 k6 k7; obtain ⟨b, o, p⟩ := a; simp only at hs; obtain ⟨rfl, hbs⟩ := hs; rw [Addr.add_lit] at k0 k1 k2 k3 k4 k5 k6 k7; exact ⟨e, rfl, ⟨hbs, k0, k1, k2, k3, ⟨ea, el, ec, k4, hF⟩, k5, k6, k7⟩, hbk⟩
 obtain ⟨f, hf⟩ := Classical.axiomOfChoice each; have hbl := yFp (elems.map (·.1)); rw [List.length_map] at hbl; refine ⟨List.ofFn f, some a, len, cap, rfl, ⟨by rw [List.length_ofFn], hl, hm, fun j hj => ?_⟩, ?_, fun r hr => ?_⟩
 ·obtain ⟨b, o, p⟩ := a; have hp := (hf ⟨j, hj⟩).1; simp only at hp; subst hp; refine ⟨b, o, rfl, fun i g hg => ?_⟩; rw [List.getElem?_ofFn] at hg; split at hg
  ·rename_i hlt; cases hg; exact (hf ⟨i, hlt⟩).2.1
  ·cases hg
 ·rw [hxe]; simp only [Rows.uptoBulk]; omega
 ·obtain ⟨i, hi⟩ := List.mem_iff_getElem?.1 hr; rw [List.getElem?_ofFn] at hi; split at hi
  ·rename_i hlt; cases hi; refine (hf ⟨i, hlt⟩).2.2.mono (ju (hbe i hlt) ?_); rw [hxe]; simp only [Rows.uptoBulk]; omega
  ·cases hi
theorem yME {r : Reach} {b0 : Nat} {v : Value} {d : DataW H} {p : List MemPlace} (hv : Value.okWide Tryz.prog W r b0 22 v) (h : DataW.Trod enc Tryz.prog W 0 (fun _ => true) true 22 v d p) :
  ∃ es a n cap, v = .slice a n cap ∧ yC4 W es a n cap ∧ n + 1 ≤ Rows.uptoBulk d ∧ ∀ e ∈ es, yIn e (Rows.uptoBulk d) := by obtain ⟨a, len, cap, rfl⟩ := okWide_slice Tryz.underlying22 hv; obtain ⟨fuel, hf⟩ := h; obtain ⟨es, a2, n2, c2, he, h1, h2, h3⟩ := yRq (cs := [.slice a len cap]) (x := (d, p)) hf; simp only [List.cons.injEq, and_true] at he; exact ⟨es, a2, n2, c2, he, h1, h2, h3⟩
end
end Go.Proofs.YtkhejkfjhddobaaGreatDoor
namespace Gim
open Go Go.RowKit
theorem yJX {W : World} {b : Nat} : ∀ (gs : List St) (o : Nat), (∀ (i : Nat) (f : St), gs[i]? = some f → yFz W f b (o + i * 4)) → yBw W gs b o
 | [], _, _ => by unfold yBw; trivial
 | f :: r, o, h => by unfold yBw; refine ⟨by simpa using h 0 f rfl, yJX r (o + 4) fun i f2 hi => ?_⟩; have := h (i + 1) f2 (by simpa using hi); rw [show o + 4 + i * 4 = o + (i + 1) * 4 by omega]; exact this
theorem yJS {W : World} {b : Nat} : ∀ (gs : List Ex) (o : Nat), (∀ (i : Nat) (f : Ex), gs[i]? = some f → yF9 W f b (o + i * 7)) → yBv W gs b o
 | [], _, _ => by unfold yBv; trivial
 | f :: r, o, h => by unfold yBv; refine ⟨by simpa using h 0 f rfl, yJS r (o + 7) fun i f2 hi => ?_⟩; have := h (i + 1) f2 (by simpa using hi); rw [show o + 7 + i * 7 = o + (i + 1) * 7 by omega]; exact this
end Gim
namespace Go.Proofs.YtkhejkfjhddobaaGreatDoor
open Go.RowKit Gim Go.WideShapes
section
variable {H : Type} {enc : TypeId × Value → H} {w : World} {base : Nat} {spare : Nat → Bool} {held : Bool}
theorem yLp : ∀ (l : List Gim.St) (ds : List (DataW H)), l.length = ds.length → (∀ (i : Nat) (f : Gim.St) (d : DataW H), l[i]? = some f → ds[i]? = some d → wT f ≤ Rows.uptoBulk d) → wTL l ≤ Rows.uptoBulkAll ds
 | [], _, _, _ => by unfold wTL; exact jz _
 | f :: r, [], h, _ => by simp at h
 | f :: r, d :: ds, h, hk => by
  have h1 := hk 0 f d rfl rfl; have h2 := yLp r ds (by simpa using h) fun i f2 d2 a b => hk (i + 1) f2 d2 (by simpa using a) (by simpa using b)
  simp only [wTL, Rows.uptoBulkAll]; omega
theorem yMe : ∀ (l : List Ex) (ds : List (DataW H)), l.length = ds.length → (∀ (i : Nat) (f : Ex) (d : DataW H), l[i]? = some f → ds[i]? = some d → wX f ≤ Rows.uptoBulk d) → wXL l ≤ Rows.uptoBulkAll ds
 | [], _, _, _ => by unfold wXL; exact jz _
 | f :: r, [], h, _ => by simp at h
 | f :: r, d :: ds, h, hk => by
  have h1 := hk 0 f d rfl rfl; have h2 := yMe r ds (by simpa using h) fun i f2 d2 a b => hk (i + 1) f2 d2 (by simpa using a) (by simpa using b)
  simp only [wXL, Rows.uptoBulkAll]; omega
theorem step_cells {fuel : Nat} {cs : List Value} {y : DataW H × List MemPlace} (h : DataW.trod enc Tryz.prog w base spare held fuel 64 cs = some y) (hl : cs.length = 4) :
  ∃ (n : Nat) (ax ts : Int) (nm : ByteArray) (c : Value) (z : DataW H × List MemPlace), fuel = n + 1 ∧ cs = [.int .i64 ax, .int .i64 ts, .string nm, c] ∧ DataW.trod enc Tryz.prog w base spare held n 37 [c] = some z ∧ 1 + nm.size + Rows.uptoBulk z.1 ≤ Rows.uptoBulk y.1 := by
 obtain ⟨xs, n, hn, hx, _, hlen, hf⟩ := DataW.trod_struct Tryz.underlying64 h
 match xs, hlen, cs, hl with
 | [y0, y1, y2, y3], _, [a, b, c, d], _ =>
  have e0 : Tryz.prog.cellsOf 9 = 1 := by kernel_rfl
  have e1 : Tryz.prog.cellsOf 51 = 1 := by kernel_rfl
  have e2 : Tryz.prog.cellsOf 52 = 1 := by kernel_rfl
  have e3 : Tryz.prog.cellsOf 37 = 1 := by kernel_rfl
  have h0 : DataW.trod enc Tryz.prog w base spare held n 51 [a] = some y0 := by simpa [e1] using hf 0 _ rfl
  have h1 : DataW.trod enc Tryz.prog w base spare held n 52 [b] = some y1 := by simpa [e2] using hf 1 _ rfl
  have h2 : DataW.trod enc Tryz.prog w base spare held n 9 [c] = some y2 := by simpa [e0] using hf 2 _ rfl
  have h3 : DataW.trod enc Tryz.prog w base spare held n 37 [d] = some y3 := by simpa [e3] using hf 3 _ rfl
  obtain ⟨k, hk, _, _⟩ := DataW.trod_int Tryz.underlying51 h0; obtain ⟨q, hq, _, _⟩ := DataW.trod_int Tryz.underlying52 h1; obtain ⟨s, hs, hs2, _⟩ := DataW.trod_string Tryz.underlying9 h2; refine ⟨n, k, q, s, d, y3, hn, ?_, h3, ?_⟩
  ·simp only [List.cons.injEq, and_true] at hk hq hs; rw [hk, hq, hs]
  ·have e : s.data.toList.length = s.size := rfl; rw [hx, hs2]; simp only [List.map_cons, List.map_nil, Rows.uptoBulk, Rows.uptoBulkAll]; omega
theorem yNJ {fuel : Nat} {cs : List Value} {y : DataW H × List MemPlace} (h : DataW.trod enc Tryz.prog w base spare held fuel 66 cs = some y) (hl : cs.length = 7) :
  ∃ (n m : Nat) (op cmp num : Int) (nm txt : ByteArray) (c d : Value) (z z2 : DataW H × List MemPlace), n < fuel ∧ m < fuel ∧ cs = [.int .i64 op, c, d, .string nm, .int .i64 cmp, .string txt, .int .i64 num] ∧ DataW.trod enc Tryz.prog w base spare held n 37 [c] = some z ∧ DataW.trod enc Tryz.prog w base spare held m 23 [d] = some z2 ∧ 1 + nm.size + txt.size + Rows.uptoBulk z.1 + Rows.uptoBulk z2.1 ≤ Rows.uptoBulk y.1 := by
 obtain ⟨xs, n, hn, hx, _, hlen, hf⟩ := DataW.trod_struct Tryz.underlying66 h
 match xs, hlen, cs, hl with
 | [y0, y1, y2, y3, y4, y5, y6], _, [c0, c1, c2, c3, c4, c5, c6], _ =>
  have e0 : Tryz.prog.cellsOf 9 = 1 := by kernel_rfl
  have e1 : Tryz.prog.cellsOf 56 = 1 := by kernel_rfl
  have e2 : Tryz.prog.cellsOf 57 = 1 := by kernel_rfl
  have e3 : Tryz.prog.cellsOf 37 = 1 := by kernel_rfl
  have e4 : Tryz.prog.cellsOf 25 = 1 := by kernel_rfl
  have e5 : Tryz.prog.cellsOf 23 = 1 := by kernel_rfl
  have e6 : Tryz.prog.cellsOf 3 = 1 := by kernel_rfl
  have h0 : DataW.trod enc Tryz.prog w base spare held n 56 [c0] = some y0 := by simpa [e1] using hf 0 _ rfl
  have h1 : DataW.trod enc Tryz.prog w base spare held n 37 [c1] = some y1 := by simpa [e3] using hf 1 _ rfl
  have h2 : DataW.trod enc Tryz.prog w base spare held n 25 [c2] = some y2 := by simpa [e4] using hf 2 _ rfl
  have h3 : DataW.trod enc Tryz.prog w base spare held n 9 [c3] = some y3 := by simpa [e0] using hf 3 _ rfl
  have h4 : DataW.trod enc Tryz.prog w base spare held n 57 [c4] = some y4 := by simpa [e2] using hf 4 _ rfl
  have h5 : DataW.trod enc Tryz.prog w base spare held n 9 [c5] = some y5 := by simpa [e0] using hf 5 _ rfl
  have h6 : DataW.trod enc Tryz.prog w base spare held n 3 [c6] = some y6 := by simpa [e6] using hf 6 _ rfl
  obtain ⟨op, ho, _, _⟩ := DataW.trod_int Tryz.underlying56 h0; obtain ⟨cmp, hc, _, _⟩ := DataW.trod_int Tryz.underlying57 h4; obtain ⟨num, hm, _, _⟩ := DataW.trod_int Tryz.underlying3 h6; obtain ⟨nm, hs, hs2, _⟩ := DataW.trod_string Tryz.underlying9 h3; obtain ⟨txt, ht, ht2, _⟩ := DataW.trod_string Tryz.underlying9 h5; obtain ⟨ps, n2, hn2, hp, _, hplen, hpf⟩ := DataW.trod_struct Tryz.underlying25 h2
  match ps, hplen with
  | [p0], _ =>
   have g0 : DataW.trod enc Tryz.prog w base spare held n2 23 [c2] = some p0 := by simpa [e5] using hpf 0 _ rfl
   refine ⟨n, n2, op, cmp, num, nm, txt, c1, c2, y1, p0, by omega, by omega, ?_, h1, g0, ?_⟩
   ·simp only [List.cons.injEq, and_true] at ho hc hm hs ht; rw [ho, hc, hm, hs, ht]
   ·have e : nm.data.toList.length = nm.size := rfl; have e' : txt.data.toList.length = txt.size := rfl; rw [hx, hs2, ht2, hp]; simp only [List.map_cons, List.map_nil, Rows.uptoBulk, Rows.uptoBulkAll]; omega
theorem yHA (a : Addr) (m j : Nat) : (a.add m).add j = a.add (m + j) := by unfold Addr.add; by_cases h1 : m = 0 <;> by_cases h2 : j = 0 <;> simp [h1, h2, Nat.add_assoc]
theorem yFZ {a : Addr} {v : Value} (h : w.cell? a = some v) : a.spot = none ∧ a.block < w.heap.size := by
 unfold World.cell? at h; split at h
 ·rename_i c hh; refine ⟨?_, (jl hh)⟩; cases hp : a.spot with
  | none => rfl
  | some v => rw [hp] at h; simp at h
 ·simp at h
theorem yOj : ∀ (fuel : Nat), (∀ (cs : List Value) (x : DataW H × List MemPlace), DataW.trod enc Tryz.prog w base spare held fuel 23 cs = some x → ∃ gs a n cap, cs = [.slice a n cap] ∧ yAH w gs a n cap ∧ wTL gs ≤ Rows.uptoBulk x.1) ∧
  (∀ (cs : List Value) (x : DataW H × List MemPlace), DataW.trod enc Tryz.prog w base spare held fuel 37 cs = some x → ∃ gs a n cap, cs = [.slice a n cap] ∧ yAM w gs a n cap ∧ wXL gs ≤ Rows.uptoBulk x.1) := by
 intro fuel
 induction fuel using Nat.strongRecOn with
 | _ fuel ih =>
 refine ⟨fun cs x h => ?_, fun cs x h => ?_⟩
 ·rcases DataW.trod_slice Tryz.underlying23 h with h0 | ⟨a, len, cap, elems, rest, n, hn, rfl, hxe, hb, hl, hm, hlen, hel, _⟩
  ·exact ⟨[], none, 0, 0, h0.1, ⟨rfl, jr _, jz _, fun j hj => absurd hj (Nat.not_lt_zero _)⟩, jz _⟩
  have e4 : Tryz.prog.cellsOf 64 = 4 := by kernel_rfl
  have elem : ∀ i (hil : i < len), ∃ (ax ts : Int) (nm : ByteArray) (gs : List Ex) (a2 : Option Addr) (m2 cap2 : Nat), w.cell? (a.add (i * 4)) = some (.int .i64 ax) ∧ w.cell? (a.add (i * 4 + 1)) = some (.int .i64 ts) ∧ w.cell? (a.add (i * 4 + 2)) = some (.string nm) ∧ w.cell? (a.add (i * 4 + 3)) = some (.slice a2 m2 cap2) ∧ yAM w gs a2 m2 cap2 ∧ 1 + nm.size + wXL gs ≤ Rows.uptoBulk (elems[i]'(by omega)).1 := by intro i hil; have hi := hel i hil; rw [e4, show elems[i]? = some (elems[i]'(by omega)) from jk _, Option.bind_eq_some_iff] at hi; obtain ⟨cs', hcs, hy⟩ := hi; obtain ⟨_, hl4, hc⟩ := World.cells?_some hcs; obtain ⟨n2, ax, ts, nm, d, z, hn2, rfl, hd, hbk⟩ := step_cells hy hl4; obtain ⟨gs, a2, m2, cap2, hd2, hF, hw⟩ := (ih n2 (by omega)).2 _ _ hd; simp only [List.cons.injEq, and_true] at hd2; subst hd2; have k0 := hc 0 (by omega); have k1 := hc 1 (by omega); have k2 := hc 2 (by omega); have k3 := hc 3 (by omega); rw [yHA] at k0 k1 k2 k3; exact ⟨ax, ts, nm, gs, a2, m2, cap2, k0, k1, k2, k3, hF, by omega⟩
  have hs : 0 < len → a.spot = none ∧ a.block < w.heap.size := by intro h0; obtain ⟨ax, _, _, _, _, _, _, k0, _⟩ := elem 0 h0; exact yFZ (v := .int .i64 ax) (by simpa [Addr.add] using k0)
  have each : ∀ i : Fin len, ∃ f : Gim.St, a.spot = none ∧ yFz w f a.block (a.off + i * 4) ∧ wT f ≤ Rows.uptoBulk (elems[i.1]'(by omega)).1 := by
   intro ⟨i, hil⟩; obtain ⟨ax, ts, nm, gs, a2, m2, cap2, k0, k1, k2, k3, hF, hw⟩ := elem i hil; have hs := hs (by omega); obtain ⟨b, o, p⟩ := a; simp only at hs; obtain ⟨rfl, hbs⟩ := hs; rw [Addr.add_lit] at k0 k1 k2 k3; refine ⟨.mk ax ts nm gs, rfl, ?_, ?_⟩
   ·unfold yFz; exact ⟨hbs, k0, k1, k2, a2, m2, cap2, k3, hF.len, hF.le, hF.cap_le, hF.fit⟩
   ·unfold wT; exact hw
  obtain ⟨f, hf⟩ := Classical.axiomOfChoice each; refine ⟨List.ofFn f, some a, len, cap, rfl, ⟨by rw [List.length_ofFn], hl, hm, fun j hj => ?_⟩, ?_⟩
  ·obtain ⟨b, o, p⟩ := a; have hp := (hf ⟨j, hj⟩).1; simp only at hp; subst hp; refine ⟨b, o, rfl, yJX _ _ fun i g hg => ?_⟩; rw [List.getElem?_ofFn] at hg; split at hg
   ·rename_i hlt; cases hg; exact (hf ⟨i, hlt⟩).2.1
   ·cases hg
  ·rw [hxe]; simp only [Rows.uptoBulk]; have := yLp (List.ofFn f) (elems.map (·.1)) (by rw [List.length_ofFn, List.length_map, hlen]) (fun i g d hg hd => by
    rw [List.getElem?_ofFn] at hg; split at hg
    ·rename_i hlt; cases hg; rw [List.getElem?_map, jk (by omega)] at hd; simp only [Option.map_some, Option.some.injEq] at hd; rw [← hd]; exact (hf ⟨i, hlt⟩).2.2
    ·cases hg)
   omega
 ·rcases DataW.trod_slice Tryz.underlying37 h with h0 | ⟨a, len, cap, elems, rest, n, hn, rfl, hxe, hb, hl, hm, hlen, hel, _⟩
  ·exact ⟨[], none, 0, 0, h0.1, ⟨rfl, jr _, jz _, fun j hj => absurd hj (Nat.not_lt_zero _)⟩, jz _⟩
  have e4 : Tryz.prog.cellsOf 66 = 7 := by kernel_rfl
  have elem : ∀ i (hil : i < len), ∃ (op cmp num : Int) (nm txt : ByteArray) (gs : List Ex) (a2 : Option Addr) (m2 cap2 : Nat) (ss : List Gim.St) (a3 : Option Addr) (m3 cap3 : Nat), w.cell? (a.add (i * 7)) = some (.int .i64 op) ∧ w.cell? (a.add (i * 7 + 1)) = some (.slice a2 m2 cap2) ∧ w.cell? (a.add (i * 7 + 2)) = some (.slice a3 m3 cap3) ∧ w.cell? (a.add (i * 7 + 3)) = some (.string nm) ∧ w.cell? (a.add (i * 7 + 4)) = some (.int .i64 cmp) ∧ w.cell? (a.add (i * 7 + 5)) = some (.string txt) ∧ w.cell? (a.add (i * 7 + 6)) = some (.int .i64 num) ∧ yAM w gs a2 m2 cap2 ∧ yAH w ss a3 m3 cap3 ∧ 1 + nm.size + txt.size + wXL gs + wTL ss ≤ Rows.uptoBulk (elems[i]'(by omega)).1 := by intro i hil; have hi := hel i hil; rw [e4, show elems[i]? = some (elems[i]'(by omega)) from jk _, Option.bind_eq_some_iff] at hi; obtain ⟨cs', hcs, hy⟩ := hi; obtain ⟨_, hl4, hc⟩ := World.cells?_some hcs; obtain ⟨n2, n3, op, cmp, num, nm, txt, c, d, z, z2, hn2, hn3, rfl, hcc, hd, hbk⟩ := yNJ hy hl4; obtain ⟨gs, a2, m2, cap2, hd2, hF, hw⟩ := (ih n2 (by omega)).2 _ _ hcc; obtain ⟨ss, a3, m3, cap3, hd3, hF3, hw3⟩ := (ih n3 (by omega)).1 _ _ hd; simp only [List.cons.injEq, and_true] at hd2 hd3; subst hd2; subst hd3; have k0 := hc 0 (by omega); have k1 := hc 1 (by omega); have k2 := hc 2 (by omega); have k3 := hc 3 (by omega); have k4 := hc 4 (by omega); have k5 := hc 5 (by omega); have k6 := hc 6 (by omega); rw [yHA] at k0 k1 k2 k3 k4 k5 k6; exact ⟨op, cmp, num, nm, txt, gs, a2, m2, cap2, ss, a3, m3, cap3, k0, k1, k2, k3, k4, k5, k6, hF, hF3, by omega⟩
  have hs : 0 < len → a.spot = none ∧ a.block < w.heap.size := by intro h0; obtain ⟨ax, _, _, _, _, _, _, _, _, _, _, _, _, k0, _⟩ := elem 0 h0; exact yFZ (v := .int .i64 ax) (by simpa [Addr.add] using k0)
  have each : ∀ i : Fin len, ∃ f : Ex, a.spot = none ∧ yF9 w f a.block (a.off + i * 7) ∧ wX f ≤ Rows.uptoBulk (elems[i.1]'(by omega)).1 := by
   intro ⟨i, hil⟩; obtain ⟨op, cmp, num, nm, txt, gs, a2, m2, cap2, ss, a3, m3, cap3, k0, k1, k2, k3, k4, k5, k6, hF, hF3, hw⟩ := elem i hil; have hs := hs (by omega); obtain ⟨b, o, p⟩ := a; simp only at hs; obtain ⟨rfl, hbs⟩ := hs; rw [Addr.add_lit] at k0 k1 k2 k3 k4 k5 k6; refine ⟨.mk op gs ss nm cmp txt num, rfl, ?_, ?_⟩
   ·unfold yF9; exact ⟨hbs, k0, k3, k4, k5, k6, ⟨a2, m2, cap2, k1, hF.len, hF.le, hF.cap_le, hF.fit⟩, a3, m3, cap3, k2, hF3.len, hF3.le, hF3.cap_le, hF3.fit⟩
   ·unfold wX; exact hw
  obtain ⟨f, hf⟩ := Classical.axiomOfChoice each; refine ⟨List.ofFn f, some a, len, cap, rfl, ⟨by rw [List.length_ofFn], hl, hm, fun j hj => ?_⟩, ?_⟩
  ·obtain ⟨b, o, p⟩ := a; have hp := (hf ⟨j, hj⟩).1; simp only at hp; subst hp; refine ⟨b, o, rfl, yJS _ _ fun i g hg => ?_⟩; rw [List.getElem?_ofFn] at hg; split at hg
   ·rename_i hlt; cases hg; exact (hf ⟨i, hlt⟩).2.1
   ·cases hg
  ·rw [hxe]; simp only [Rows.uptoBulk]; have := yMe (List.ofFn f) (elems.map (·.1)) (by rw [List.length_ofFn, List.length_map, hlen]) (fun i g d hg hd => by
    rw [List.getElem?_ofFn] at hg; split at hg
    ·rename_i hlt; cases hg; rw [List.getElem?_map, jk (by omega)] at hd; simp only [Option.map_some, Option.some.injEq] at hd; rw [← hd]; exact (hf ⟨i, hlt⟩).2.2
    ·cases hg)
   omega
theorem yQe {r : Reach} {b0 : Nat} {v : Value} {d : DataW H} {p : List MemPlace} (hv : Value.okWide Tryz.prog w r b0 25 v) (h : DataW.Trod enc Tryz.prog w base spare held 25 v d p) :
  ∃ gs a n cap, v = .agg #[.slice a n cap] ∧ yAH w gs a n cap ∧ wTL gs + 1 ≤ Rows.uptoBulk d := by
 obtain ⟨cs, rfl, hsz⟩ := okWide_struct Tryz.underlying25 hv; have hsz1 : cs.size = 1 := hsz.trans (show Tryz.prog.cellsOf 25 = 1 by kernel_rfl); obtain ⟨l⟩ := cs
 match l, hsz1 with
 | [c0], _ =>
  obtain ⟨fuel, hf⟩ := h; have hf' : DataW.trod enc Tryz.prog w base spare held fuel 25 [c0] = some (d, p) := hf; obtain ⟨ps, n2, hn2, hp, _, hplen, hpf⟩ := DataW.trod_struct Tryz.underlying25 hf'
  match ps, hplen with
  | [p0], _ =>
   have e5 : Tryz.prog.cellsOf 23 = 1 := by kernel_rfl
   have g0 : DataW.trod enc Tryz.prog w base spare held n2 23 [c0] = some p0 := by simpa [e5] using hpf 0 _ rfl
   obtain ⟨gs, a, n, cap, hc, hF, hw⟩ := (yOj n2).1 _ _ g0; simp only [List.cons.injEq, and_true] at hc; subst hc; simp only [Prod.mk.injEq] at hp; refine ⟨gs, a, n, cap, rfl, hF, ?_⟩; rw [hp.1]; simp only [List.map_cons, List.map_nil, Rows.uptoBulk, Rows.uptoBulkAll]; omega
end
end Go.Proofs.YtkhejkfjhddobaaGreatDoor
