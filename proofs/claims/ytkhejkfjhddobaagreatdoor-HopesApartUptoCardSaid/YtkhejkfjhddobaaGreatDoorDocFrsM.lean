/- The open nodes of a Hopes stay the document's, event by event. Plain. -/
import Derived.Test.YtkhejkfjhddobaaGreatDoorDocDM
import Derived.Test.YtkhejkfjhddobaaGreatDoorHEncM
import Derived.Sort.Walk0
set_option linter.unusedSimpArgs false
namespace Go.Proofs.YtkhejkfjhddobaaGreatDoor
open Go.RowKit Gim
/-! ### texts of characters -/
def ChT (s : ByteArray) : Prop := Lib.validD s.data.toList = true
theorem yDN : ChT ByteArray.empty := by unfold ChT; decide +kernel
theorem yM2 {s : ByteArray} (h : ChT s) : encs (rs s) = s.data.toList := by have h1 := yEr s s.size 0 (by omega) (by rw [List.drop_zero]; exact h); rwa [List.drop_zero] at h1
theorem yRu (a b : ByteArray) : (a ++ b).data.toList = a.data.toList ++ b.data.toList := by rw [ByteArray.data_append, Array.toList_append]
theorem yK6 {a b : ByteArray} (ha : ChT a) (hb : ChT b) : rs (a ++ b) = rs a ++ rs b ∧ ChT (a ++ b) := by
 have h : (a ++ b).data.toList.drop 0 = encs (rs a ++ rs b) := by rw [List.drop_zero, yRu, yLL, yM2 ha, yM2 hb]
 have := yJV (fun r hr => by
  rcases List.mem_append.1 hr with hr | hr
  ·exact yOZ a r hr
  ·exact yOZ b r hr) h
 refine ⟨this.1, ?_⟩; have h2 : val (a ++ b) 0 = true := this.2; unfold val at h2; rwa [List.drop_zero] at h2
/-! ### nets that fit -/
structure yAD (nd : yAc) : Prop where
 fit : yRO nd
 row : ∀ i, i < nd.rows.length → (0 ≤ (nd.rows.getD i zr).ax ∧ (nd.rows.getD i zr).ax ≤ 3) ∧ (0 ≤ (nd.rows.getD i zr).ts ∧ (nd.rows.getD i zr).ts ≤ 3)
 cmp : ∀ p, p < nd.preds.length → opP nd p = 3 → (0 ≤ (nd.preds.getD p zp).cmp ∧ (nd.preds.getD p zp).cmp ≤ 8) ∧ 0 ≤ (nd.preds.getD p zp).num
theorem yAD.rowP {nd : yAc} (h : yAD nd) {p j : Nat} (hp : p < nd.preds.length) (hj : j < yBc nd p) : yAF nd p + j < nd.rows.length := by have := h.fit.dag.rows p hp; unfold yBc at hj; unfold yAF; omega
section
variable {D : yAn} {nd : yAc} {m nx : Int} {f : FrS}
theorem yRi (hN : yAD nd) (hf : yDC D nd m nx f) {p : Nat} (hp : p < nd.preds.length) (h3 : opP nd p = 3) : yKT f p (nd.preds.getD p zp).attr (nd.preds.getD p zp).cmp = yEt D nd p m := by
 unfold yKT; by_cases ha : (nd.preds.getD p zp).attr.toList ≠ []
 ·rw [if_pos ha]; exact hf.attrs p hp h3 ha
 ·have ha' := Classical.not_not.1 ha; have hc := hN.cmp p hp h3; rw [if_neg ha]; unfold yEt yC2; rw [if_neg ha]; by_cases h0 : (nd.preds.getD p zp).cmp = 0
  ·rw [if_pos h0, h0]; split <;> rfl
  ·rw [if_neg h0, hf.hunts p hp h3 ha' h0]; show tB _ _ _ _ _ = _; cases ho : yB7 D m
   ·rw [if_neg (by decide)]; show tB _ _ _ _ true = _; rw [yIM hc.1.1 hc.1.2]; unfold trD; have e : yQ1 (nd.preds.getD p zp).cmp (yCE (nd.preds.getD p zp).num) (rs (nd.preds.getD p zp).txt) (rs (valD D m)) = yHe (nd.preds.getD p zp).cmp (rs (nd.preds.getD p zp).txt) (rs (valD D m)) (nd.preds.getD p zp).num := yLA hc.1 hc.2; rw [e]
   ·rw [if_pos rfl]; exact yP0 hc.1 hc.2
theorem yQA (hk : 0 ≤ m → (yAf D m).ev.kd = 0 ∨ (yAf D m).ev.kd = 1) (hf : yDC D nd m nx f) {ts : Int} (hts : 0 ≤ ts ∧ ts ≤ 3) (nm : ByteArray) : yFl f ts nm = trD (yAZ D ts nm m) := by
 have e1 := hf.kind; have e2 := hf.name; unfold yFl yAZ; by_cases hm : m < 0
 ·rw [if_pos hm] at e1; obtain rfl | rfl | rfl | rfl : ts = 0 ∨ ts = 1 ∨ ts = 2 ∨ ts = 3 := by omega
  all_goals simp [e1, hm, trD]
 ·rw [if_neg hm] at e1; have e2 := e2 (by omega); have hk := hk (by omega); by_cases h0 : (yAf D m).ev.kd = 0
  ·rw [if_pos h0] at e1; obtain rfl | rfl | rfl | rfl : ts = 0 ∨ ts = 1 ∨ ts = 2 ∨ ts = 3 := by omega
   all_goals simp [e1, hm, trD, h0, e2]
  ·rw [if_neg h0] at e1; obtain rfl | rfl | rfl | rfl : ts = 0 ∨ ts = 1 ∨ ts = 2 ∨ ts = 3 := by omega
   all_goals simp [e1, hm, trD, h0]
theorem yIf (hN : yAD nd) (hk : 0 ≤ m → (yAf D m).ev.kd = 0 ∨ (yAf D m).ev.kd = 1) (hf : yDC D nd m nx f) {ib : Option (List Int × List Int)} (hi : InB D nd m nx ib) (h2 : ∀ v, m < v → v < nx → ∀ p j, yCI (yBW D nd p j v)) (hlt : nx ≤ yAY D m + 1) :
  FrD D nd m f (yB7 D m) ib :=
 ⟨fun _ hp h3 => yRi hN hf hp h3, fun _ _ hp _ hj => yQA hk hf (hN.row _ (hN.rowP hp hj)).2 _, fun _ _ hp h3 hj => yPR hf hi h2 hlt hp h3 hj (hN.row _ (hN.rowP hp hj)).1⟩
end
/-! ### attributes -/
theorem yNC {a b c : List UInt8} (h1 : Op.bytesLess a b = true) (h2 : Op.bytesLess b c = true) : Op.bytesLess a c = true := by rw [bytesLess_eq, decide_eq_true_eq] at h1 h2 ⊢; exact List.lt_trans h1 h2
theorem yPD (a : List UInt8) : Op.bytesLess a a = false := by rw [bytesLess_eq, decide_eq_false_iff_not]; exact List.lt_irrefl a
theorem yRF {l : List (ByteArray × ByteArray)} (h : yD0 l = true) : ∀ (k i : Nat), i + k + 1 < l.length → Op.bytesLess (l.getD i za).1.toList (l.getD (i + k + 1) za).1.toList = true := by
 have h1 : ∀ i, i + 1 < l.length → Op.bytesLess (l.getD i za).1.toList (l.getD (i + 1) za).1.toList = true := fun i hi => by
  unfold yD0 yDm at h; rw [List.all_eq_true] at h; have := h (i + 1) (List.mem_range.2 hi); unfold atB at this; simp only [jb, Bool.or_eq_true, decide_eq_true_eq] at this; rcases this.2 with h2 | h2
  ·omega
  ·exact h2
 intro k
 induction k with
 | zero => exact fun i hi => h1 i hi
 | succ k ih => exact fun i hi => yNC (ih i (by omega)) (h1 (i + k + 1) hi)
theorem yPN {l : List (ByteArray × ByteArray)} (h : yD0 l = true) : l.Pairwise fun a b => a.1 ≠ b.1 := by rw [List.pairwise_iff_getElem]; intro i j hi hj hij e; have := yRF h (j - i - 1) i (by omega); rw [show i + (j - i - 1) + 1 = j by omega, jg, jg, jk hi, jk hj] at this; simp only [Option.getD_some] at this; rw [e, yPD] at this; cases this
theorem yHs (a : ByteArray × ByteArray) (r : List (ByteArray × ByteArray)) (nm : ByteArray) : yBC (a :: r) nm = if a.1 = nm then some a.2 else yBC r nm := by
 unfold yBC; rw [List.find?_cons]; by_cases e : a.1 = nm
 ·rw [if_pos e, decide_eq_true e]; rfl
 ·rw [if_neg e, decide_eq_false e]
theorem yHy {nm : ByteArray} : ∀ {r : List (ByteArray × ByteArray)}, (∀ b ∈ r, b.1 ≠ nm) → yBC r nm = none
 | [], _ => rfl
 | b :: r, h => by rw [yHs, if_neg (h b List.mem_cons_self)]; exact yHy fun c hc => h c (List.mem_cons_of_mem _ hc)
theorem yLr (p : yAG) : ∀ (l : List (ByteArray × ByteArray)), (l.Pairwise fun a b => a.1 ≠ b.1) → ∀ acc : Int, l.foldl (fun acc a => if a.1 = p.attr then yDD p a.2 else acc) acc = match yBC l p.attr with | none => acc | some s => yDD p s
 | [], _, acc => rfl
 | a :: r, h, acc => by
  obtain ⟨h1, h2⟩ := List.pairwise_cons.1 h; rw [List.foldl_cons, yLr p r h2, yHs]; by_cases e : a.1 = p.attr
  ·rw [if_pos e, if_pos e, yHy fun b hb hbe => h1 b hb (e.trans hbe.symm)]
  ·rw [if_neg e, if_neg e]
theorem yQs {nd : yAc} (hN : yAD nd) {k : Int} {nm : ByteArray} {ats : List (ByteArray × ByteArray)} (ha : yD0 ats = true) {p : Nat} (hp : p < nd.preds.length) (h3 : opP nd p = 3) (hat : (nd.preds.getD p zp).attr.toList ≠ []) :
  (yAr nd k nm ats).attrs.getD p 0 = match yBC ats (nd.preds.getD p zp).attr with | none => 0 | some s => trD (yHe (nd.preds.getD p zp).cmp (rs (nd.preds.getD p zp).txt) (rs s) (nd.preds.getD p zp).num) := by
 have hc := hN.cmp p hp h3; show (yCZ nd.preds.length (yFi nd ats) 0 nd.preds.length).getD p 0 = _; rw [yFX, jg, List.getElem?_map, List.getElem?_range hp]; show yFi nd ats p = _; unfold yFi; rw [if_pos ⟨h3, hat⟩]; unfold yII; rw [yLr _ _ (yPN ha)]; cases yBC ats (nd.preds.getD p zp).attr with
 | none => rfl
 | some s =>
  show yDD _ s = _; unfold yDD; rw [yIM hc.1.1 hc.1.2, yLA hc.1 hc.2]; rfl
theorem yPA {nd : yAc} {k : Int} {nm : ByteArray} {ats : List (ByteArray × ByteArray)} {p : Nat} (hp : p < nd.preds.length) (h3 : opP nd p = 3) (hat : (nd.preds.getD p zp).attr.toList = []) (h0 : (nd.preds.getD p zp).cmp ≠ 0) :
  (yAr nd k nm ats).hunts.getD p none = some ⟨(nd.preds.getD p zp).cmp, yCE (nd.preds.getD p zp).num, yCl (nd.preds.getD p zp).cmp (nd.preds.getD p zp).txt, [], false⟩ := by show (yCZ nd.preds.length (yDg nd) none nd.preds.length).getD p none = _; rw [yFX, jg, List.getElem?_map, List.getElem?_range hp]; show yDg nd p = _; unfold yDg; rw [if_pos ⟨h3, hat, h0⟩]
section
variable {D D' : yAn} {nd : yAc} {m nx : Int} {f f' : FrS}
theorem yG5 {p : Nat} (hat : (nd.preds.getD p zp).attr.toList ≠ []) : yEt D nd p m = if m < 0 then 0 else match yBC (yAf D m).ev.ats (nd.preds.getD p zp).attr with | none => 0 | some s => trD (yHe (nd.preds.getD p zp).cmp (rs (nd.preds.getD p zp).txt) (rs s) (nd.preds.getD p zp).num) := by unfold yEt yC2; rw [if_pos hat]; rfl
theorem yKS (hN : yAD nd) {k : Int} {nm : ByteArray} {ats : List (ByteArray × ByteArray)} (hk : k = if m < 0 then 0 else if (yAf D m).ev.kd = 0 then 1 else 2) (hnm : 0 ≤ m → nm = (yAf D m).ev.nm) (hats : if m < 0 then ats = [] else ats = (yAf D m).ev.ats) (ha : yD0 ats = true)
  (hf : f.kind = k ∧ f.name = nm ∧ f.child = (yAr nd k nm ats).child ∧ f.deep = (yAr nd k nm ats).deep ∧ f.attrs = (yAr nd k nm ats).attrs)
  (hh : ∀ p s, (yAr nd k nm ats).hunts.getD p none = some s → s.l = [] → s.whole = false → f.hunts.getD p none = some ⟨s.c, s.N, s.T, rs (valD D m), !yB7 D m⟩) (hnx : nx = m + 1) : yDC D nd m nx f := by
 obtain ⟨e1, e2, e3, e4, e5⟩ := hf; have hF : ∀ i, (List.replicate nd.rows.length false).getD i false = true ↔ False := fun i => by rw [jg, List.getElem?_replicate]; split <;> simp
 refine ⟨e1.trans hk, fun h => e2.trans (hnm h), by rw [e3]; exact List.length_replicate, by rw [e4]; exact List.length_replicate, fun p hp h3 hat => ?_, fun p hp h3 hat h0 => ?_, fun p j hp h3 hj => ?_, fun p j hp h3 hj => ?_⟩
 ·rw [e5, yQs hN ha hp h3 hat, yG5 hat]; by_cases hm : m < 0
  ·rw [if_pos hm] at hats ⊢; rw [hats]; rfl
  ·rw [if_neg hm] at hats ⊢; rw [hats]
 ·exact hh p _ (yPA hp h3 hat h0) rfl rfl
 ·rw [e3]; refine (hF _).trans ⟨fun h => h.elim, ?_⟩; rintro ⟨u, h1, h2, _⟩; omega
 ·rw [e4]; refine (hF _).trans ⟨fun h => h.elim, ?_⟩; rintro ⟨u, h1, h2, _⟩; omega
theorem yDC.turn (h : yDC D nd m nx f) (e : f'.kind = f.kind ∧ f'.name = f.name ∧ f'.child = f.child ∧ f'.deep = f.deep ∧ f'.attrs = f.attrs)
  (hh : ∀ p s, f.hunts.getD p none = some s → s.l = rs (valD D m) → s.whole = (!yB7 D m) → f'.hunts.getD p none = some ⟨s.c, s.N, s.T, rs (valD D' m), !yB7 D' m⟩) (hev : 0 ≤ m → (yAf D' m).ev = (yAf D m).ev)
  (hs : ∀ u, m < u → u < nx → (yAf D' u).par = (yAf D u).par ∧ ∀ p j, yBW D' nd p j u = yBW D nd p j u) : yDC D' nd m nx f' := by
 obtain ⟨e1, e2, e3, e4, e5⟩ := e; refine ⟨?_, fun h0 => ?_, by rw [e3]; exact h.cl, by rw [e4]; exact h.dl, fun p hp h3 hat => ?_, fun p hp h3 hat h0 => ?_, fun p j hp h3 hj => ?_, fun p j hp h3 hj => ?_⟩
 ·rw [e1, h.kind]; by_cases hm : m < 0
  ·rw [if_pos hm, if_pos hm]
  ·rw [if_neg hm, if_neg hm, hev (by omega)]
 ·rw [e2, h.name h0, hev h0]
 ·rw [e5, h.attrs p hp h3 hat, yG5 hat, yG5 hat]; by_cases hm : m < 0
  ·rw [if_pos hm, if_pos hm]
  ·rw [if_neg hm, if_neg hm, hev (by omega)]
 ·exact hh p _ (h.hunts p hp h3 hat h0) rfl rfl
 ·rw [e3, h.ch p j hp h3 hj]; constructor
  ·rintro ⟨u, k1, k2, k3, k4⟩; exact ⟨u, k1, k2, by rw [(hs u k1 k2).1]; exact k3, by rw [(hs u k1 k2).2]; exact k4⟩
  ·rintro ⟨u, k1, k2, k3, k4⟩; exact ⟨u, k1, k2, by rw [← (hs u k1 k2).1]; exact k3, by rw [← (hs u k1 k2).2]; exact k4⟩
 ·rw [e4, h.dp p j hp h3 hj]; constructor
  ·rintro ⟨u, k1, k2, k4⟩; exact ⟨u, k1, k2, by rw [(hs u k1 k2).2]; exact k4⟩
  ·rintro ⟨u, k1, k2, k4⟩; exact ⟨u, k1, k2, by rw [← (hs u k1 k2).2]; exact k4⟩
theorem yDG {hs : List (Option HuS)} {g : HuS → HuS} {p : Nat} {s : HuS} (h : hs.getD p none = some s) : (hs.map (Option.map g)).getD p none = some (g s) := by
 rw [jg] at h ⊢; rw [List.getElem?_map]; cases e : hs[p]? with
 | none => rw [e] at h; cases h
 | some o =>
  rw [e] at h; cases o with
  | none => cases h
  | some t =>
   simp only [Option.getD_some, Option.some.injEq] at h; subst h; rfl
theorem yDC.met (hN : yAD nd) (h : yDC D nd m nx f) {g : FrS} {nx' : Int} (hg : yDC D nd nx nx' g) (hlt : m < nx ∧ nx < nx') (hpx : (yAf D nx).par = m) (hp : ∀ u, nx < u → u < nx' → (yAf D u).par ≠ m) {here : List Int}
  (hh : ∀ p j, p < nd.preds.length → opP nd p = 3 → j < yBc nd p → here.getD (yAF nd p + j) 0 = yBW D nd p j nx) : yDC D nd m nx' (yDy here g f) := by
 have hC : ∀ i, i < nd.rows.length → ((yDy here g f).child.getD i false = true ↔ f.child.getD i false = true ∨ here.getD i 0 = 2) := fun i hi => by show (yPK here f).getD i false = true ↔ _; unfold yPK; rw [jg, List.getElem?_map, List.getElem?_range (by rw [h.cl]; exact hi)]; simp
 have hD : ∀ i, i < nd.rows.length → ((yDy here g f).deep.getD i false = true ↔ (f.deep.getD i false = true ∨ here.getD i 0 = 2) ∨ g.deep.getD i false = true) := fun i hi => by show (yP2 here g f).getD i false = true ↔ _; unfold yP2; rw [jg, List.getElem?_map, List.getElem?_range (by rw [h.dl]; exact hi)]; simp
 refine ⟨h.kind, h.name, by show (yPK here f).length = _; unfold yPK; simp [h.cl], by show (yP2 here g f).length = _; unfold yP2; simp [h.dl], h.attrs, h.hunts, fun p j hp' h3 hj => ?_, fun p j hp' h3 hj => ?_⟩
 ·rw [hC _ (hN.rowP hp' hj), h.ch p j hp' h3 hj, hh p j hp' h3 hj]; constructor
  ·rintro (⟨u, k1, k2, k3, k4⟩ | k)
   ·exact ⟨u, k1, by omega, k3, k4⟩
   ·exact ⟨nx, hlt.1, hlt.2, hpx, k⟩
  ·rintro ⟨u, k1, k2, k3, k4⟩; by_cases e1 : u < nx
   ·exact .inl ⟨u, k1, e1, k3, k4⟩
   ·by_cases e2 : u = nx
    ·subst e2; exact .inr k4
    ·exact absurd k3 (hp u (by omega) k2)
 ·rw [hD _ (hN.rowP hp' hj), h.dp p j hp' h3 hj, hg.dp p j hp' h3 hj, hh p j hp' h3 hj]; constructor
  ·rintro ((⟨u, k1, k2, k4⟩ | k) | ⟨u, k1, k2, k4⟩)
   ·exact ⟨u, k1, by omega, k4⟩
   ·exact ⟨nx, hlt.1, hlt.2, k⟩
   ·exact ⟨u, by omega, k2, k4⟩
  ·rintro ⟨u, k1, k2, k4⟩; by_cases e1 : u < nx
   ·exact .inl (.inl ⟨u, k1, e1, k4⟩)
   ·by_cases e2 : u = nx
    ·subst e2; exact .inl (.inr k4)
    ·exact .inr ⟨u, by omega, k2, k4⟩
end
structure yQw (D : yAn) (op : List Int) (nd : yAc) (fs : List FrS) : Prop where
 len : fs.length = op.length + 1
 at_ : ∀ d, d ≤ op.length → yDC D nd (yAo op d) (yAv D op d) (fs.getD d fr0)
section
variable {D D' : yAn} {op : List Int} {nd : yAc} {fs : List FrS}
theorem yHS {d : Nat} (h0 : 0 < d) (hd : d ≤ op.length) : yAo op d ∈ op := by unfold yAo; rw [if_neg (by omega)]; exact yCS (by omega)
theorem yQZ {d : Nat} (hd : d < op.length) : yAo op (d + 1) = yAv D op d := by unfold yAo yAv; rw [if_neg (by omega), if_pos hd]; rfl
theorem yBp (h : yBr D op) {d : Nat} (hd : d ≤ op.length) : -1 ≤ yAo op d ∧ yAo op d < yAv D op d ∧ yAv D op d ≤ D.nodes.length := by
 have hn : d < op.length → 0 ≤ op.getD d 0 ∧ op.getD d 0 < D.nodes.length := fun h1 => h.rng _ (yCS h1)
 by_cases h0 : d = 0
 ·subst h0; unfold yAo yAv; rw [if_pos rfl]; split
  ·rename_i h1; have := hn h1; omega
  ·omega
 ·have hm := h.rng _ (yHS (d := d) (by omega) hd); refine ⟨by omega, ?_, ?_⟩
  ·unfold yAo yAv at *
   rw [if_neg h0] at hm ⊢; split
   ·exact yE0 h.rise (by omega) (by assumption)
   ·omega
  ·unfold yAv; split
   ·rename_i h1; have := hn h1; omega
   ·omega
theorem yOO (h : yBr D op) {d : Nat} (hd : d ≤ op.length) {u : Int} (h1 : yAo op d < u) (h2 : u < yAv D op d) : 0 ≤ u ∧ u < D.nodes.length ∧ 0 ≤ (yAf D u).clo := by
 have hr := yBp h hd; refine ⟨by omega, by omega, Int.not_lt.1 fun hc => ?_⟩; have hu := (h.opn u (by omega) (by omega)).1 hc; obtain ⟨i, hi, e⟩ := List.mem_iff_getElem.1 hu; have e : op.getD i 0 = u := by rw [jg, jk hi]; exact e
 by_cases hid : i < d
 ·unfold yAo at h1; rw [if_neg (by omega)] at h1; by_cases e2 : i = d - 1
  ·subst e2; omega
  ·have := yE0 h.rise (show i < d - 1 by omega) (by omega); omega
 ·unfold yAv at h2; rw [if_pos (by omega)] at h2; by_cases e2 : i = d
  ·subst e2; omega
  ·have := yE0 h.rise (show d < i by omega) hi; omega
theorem yEq (h : yBr D op) {d : Nat} (hd : d ≤ op.length) {u : Int} (h1 : yAo op d < u) (h2 : u < yAv D op d) (p j : Nat) : yCI (yBW D nd p j u) := by obtain ⟨k1, k2, k3⟩ := yOO h hd h1 h2; obtain ⟨r1, _, r2, r3⟩ := h.rngs u k1 k2 k3; exact yMY r2 r3 nd p j (Int.le_refl _) r1
theorem yCs (h : yBr D op) (hK : yF5 D D') {d : Nat} (hd : d ≤ op.length) {u : Int} (h1 : yAo op d < u) (h2 : u < yAv D op d) : (yAf D' u).par = (yAf D u).par ∧ ∀ p j, yBW D' nd p j u = yBW D nd p j u := by obtain ⟨k1, k2, k3⟩ := yOO h hd h1 h2; obtain ⟨r1, r0, r2, r3⟩ := h.rngs u k1 k2 k3; exact ⟨by rw [hK.2 u k1 k2 k3], fun p j => yRz r2 (hK.agr k1 r0 r3) nd p j (Int.le_refl _) r1⟩
theorem yED (h : yBr D op) {d : Nat} (hd : d ≤ op.length) : yAY D (yAo op d) = (D.nodes.length : Int) - 1 := by
 by_cases h0 : d = 0
 ·subst h0; unfold yAo yAY; rw [if_pos rfl, if_pos (by decide)]
 ·have hm := yHS (d := d) (by omega) hd; rw [yCh (h.rng _ hm).1]; exact h.lst _ hm
theorem yCW (h : yBr D op) {d : Nat} (hd : d ≤ op.length) : yB7 D (yAo op d) = (decide (0 < d) || !D.closed) := by
 by_cases h0 : d = 0
 ·subst h0; unfold yAo yB7; rw [if_pos rfl, if_pos (by decide)]; simp
 ·have hm := yHS (d := d) (by omega) hd; have hr := h.rng _ hm; rw [yBQ hr.1, decide_eq_true ((h.opn _ hr.1 hr.2).2 hm), decide_eq_true (show 0 < d by omega)]; rfl
theorem yQQ (h : yBr D op) {d : Nat} (hd : d ≤ op.length) (h0 : 0 ≤ yAo op d) : (yAf D (yAo op d)).ev.kd = 0 ∨ (yAf D (yAo op d)).ev.kd = 1 := by have hr := yBp h hd; exact h.kd _ h0 (by omega)
theorem yPo (h : yBr D op) {d : Nat} (hd : d < op.length) : (yAf D (yAv D op d)).par = yAo op d := by
 unfold yAv; rw [if_pos hd, h.parO d hd]; unfold yAB yAo; rw [List.length_take, Nat.min_eq_left (by omega)]; by_cases h0 : d = 0
 ·rw [if_pos h0, if_pos h0]
 ·rw [if_neg h0, if_neg h0, jg, List.getElem?_take_of_lt (by omega), ← jg]
theorem yIx (h : yBr D op) {d : Nat} (hd : d < op.length) {v : Int} (h1 : yAv D op d < v) (h2 : v < D.nodes.length) : (yAf D v).par ≠ yAo op d := by
 have hr := yBp h (Nat.le_of_lt hd); have e : yAv D op d = op.getD d 0 := by unfold yAv; rw [if_pos hd]
 have := h.parLo _ (yCS hd) v (by omega) h2; omega
theorem ySC (hN : yAD nd) (h : yBr D op) (hf : yQw D op nd fs) {d : Nat} (hd : d ≤ op.length) {ib : Option (List Int × List Int)} (hi : InB D nd (yAo op d) (yAv D op d) ib) {p j : Nat} (hp : p < nd.preds.length) (h3 : opP nd p = 3) (hj : j < yBc nd p) (c : Int) :
  (yI0 nd.rows.length (fs.getD d fr0) ib).getD (yAF nd p + j) 0 ≤ c ↔ 0 ≤ c ∧ ∀ v, yAo op d < v → v ≤ yAY D (yAo op d) → yBW D nd p j v ≤ c := by
 have hfd := hf.at_ d hd; have hr := yH8 D nd p j; have hdp := hfd.dp p j hp h3 hj; have hpr := yBp h hd; have hl := yED h hd; have e : (yI0 nd.rows.length (fs.getD d fr0) ib).getD (yAF nd p + j) 0 = yIy (fs.getD d fr0) ib (yAF nd p + j) := by unfold yI0; rw [jg, List.getElem?_map, List.getElem?_range (hN.rowP hp hj)]; rfl
 rw [e]; unfold yIy; have hfst : (if (fs.getD d fr0).deep.getD (yAF nd p + j) false then (2 : Int) else 0) ≤ c ↔ 0 ≤ c ∧ ∀ v, yAo op d < v → v < yAv D op d → yBW D nd p j v ≤ c := by
  split
  ·rename_i hx; constructor
   ·intro hc; exact ⟨by omega, fun v _ _ => by have := hr v; omega⟩
   ·rintro ⟨_, hc⟩; obtain ⟨u, k1, k2, k4⟩ := hdp.1 hx; have := hc u k1 k2; omega
  ·rename_i hx; constructor
   ·intro hc; refine ⟨hc, fun v k1 k2 => ?_⟩; rcases yEq (nd := nd) h hd k1 k2 p j with e | e
    ·omega
    ·exact absurd (hdp.2 ⟨v, k1, k2, e⟩) hx
   ·exact fun hc => hc.1
 cases ib with
 | none =>
  have hx : yAv D op d = yAY D (yAo op d) + 1 := hi; show (if _ then (2 : Int) else 0) ≤ c ↔ _; rw [hfst]; constructor
  ·rintro ⟨k, k2⟩; exact ⟨k, fun v k3 k4 => k2 v k3 (by omega)⟩
  ·rintro ⟨k, k2⟩; exact ⟨k, fun v k3 k4 => k2 v k3 (by omega)⟩
 | some q =>
  obtain ⟨g1, g2, g3, g4, g5⟩ := hi; obtain ⟨e1, e2⟩ := g5 p j hp h3 hj; show orF [_, _, _] ≤ c ↔ _; have hr2 : 0 ≤ q.2.getD (yAF nd p + j) 0 ∧ q.2.getD (yAF nd p + j) 0 ≤ 2 := yLz e2 fun v _ _ => (hr v).2
  have hr1 := hr (yAv D op d); rw [yON (fun x hx => by
   simp only [List.mem_cons, List.not_mem_nil, or_false] at hx; rcases hx with rfl | rfl | rfl
   ·split <;> omega
   ·rw [e1]; exact hr1
   ·exact hr2)]
  constructor
  ·rintro ⟨k0, k⟩; have a1 := hfst.1 (k _ (by simp)); have a2 := k (q.1.getD (yAF nd p + j) 0) (by simp); have a3 := (e2 c).1 (k (q.2.getD (yAF nd p + j) 0) (by simp)); refine ⟨k0, fun v k3 k4 => ?_⟩; by_cases w1 : v < yAv D op d
   ·exact a1.2 v k3 w1
   ·by_cases w2 : v = yAv D op d
    ·rw [w2, ← e1]; exact a2
    ·exact a3.2 v (by omega) k4
  ·rintro ⟨k0, k⟩; refine ⟨k0, fun x hx => ?_⟩; simp only [List.mem_cons, List.not_mem_nil, or_false] at hx; rcases hx with rfl | rfl | rfl
   ·exact hfst.2 ⟨k0, fun v k3 k4 => k v k3 (by omega)⟩
   ·rw [e1]; exact k _ g1 g2
   ·exact (e2 c).2 ⟨k0, fun v k3 k4 => k v (by omega) k4⟩
theorem ySP (hN : yAD nd) (h : yBr D op) (hf : yQw D op nd fs) {d : Nat} (hd : d < op.length) {ib : Option (List Int × List Int)} (hi : InB D nd (yAo op (d + 1)) (yAv D op (d + 1)) ib) :
  InB D nd (yAo op d) (yAv D op d) (some ((yBT nd (fs.getD (d + 1) fr0) (yB7 D (yAo op (d + 1))) ib).2, yI0 nd.rows.length (fs.getD (d + 1) fr0) ib)) := by
 have hr := yBp h (Nat.le_of_lt hd); have hl := yED h (Nat.le_of_lt hd); have hr2 := yBp h (show d + 1 ≤ op.length from hd); have hl2 := yED h (show d + 1 ≤ op.length from hd); have hd1 : d + 1 ≤ op.length := hd; have hF := yIf hN (yQQ h hd1) (hf.at_ (d + 1) hd1) hi (fun v k1 k2 p j => yEq h hd1 k1 k2 p j) (by omega); have hfind := (yIY hN.fit hF).2; have e := yQZ (D := D) hd; refine ⟨hr.2.1, by omega, yPo h hd, fun v k1 k2 => yIx h hd k1 (by omega), fun p j hp h3 hj => ⟨?_, fun c => ?_⟩⟩
 ·rw [← e]; exact hfind p j hp h3 hj
 ·rw [ySC hN h hf hd1 hi hp h3 hj, hl, hl2, e]
theorem yOW (hN : yAD nd) (h : yBr D op) (hf : yQw D op nd fs) : ∀ k d, d + k = op.length → InB D nd (yAo op d) (yAv D op d) (yBg nd fs D.closed (fs.length - (d + 1))).2
 | 0, d, hd => by have hl := yED h (d := d) (by omega); rw [show fs.length - (d + 1) = 0 by have := hf.len; omega]; show yAv D op d = yAY D (yAo op d) + 1; rw [hl]; unfold yAv; rw [if_neg (by omega)]; omega
 | k + 1, d, hd => by have ih := yOW hN h hf k (d + 1) (by omega); have hlen := hf.len; have e := yD4 nd fs D.closed (show d + 1 < fs.length by omega); rw [e, ← yCW h (show d + 1 ≤ op.length by omega)]; exact ySP hN h hf (by omega) ih
theorem yQW (hN : yAD nd) (h : yBr D op) (hf : yQw D op nd fs) {d : Nat} (hd : d ≤ op.length) : FrD D nd (yAo op d) (fs.getD d fr0) (decide (0 < d) || !D.closed) (yBg nd fs D.closed (fs.length - (d + 1))).2 := by have hr := yBp h hd; have hl := yED h hd; rw [← yCW h hd]; exact yIf hN (yQQ h hd) (hf.at_ d hd) (yOW hN h hf (op.length - d) d (by omega)) (fun v k1 k2 p j => yEq h hd k1 k2 p j) (by omega)
theorem yIL (nd : yAc) (fs : List FrS) (dn : Bool) {d : Nat} (hd : d < fs.length) : ∀ k p, p + k = d → ((yBg nd fs dn (fs.length - p)).1.getD k []) = (yBT nd (fs.getD d fr0) (decide (0 < d) || !dn) (yBg nd fs dn (fs.length - (d + 1))).2).1
 | 0, p, hp => by
  obtain rfl : p = d := by omega
  rw [yD4 nd fs dn hd]; rfl
 | k + 1, p, hp => by rw [yD4 nd fs dn (show p < fs.length by omega), List.getD_cons_succ]; exact yIL nd fs dn hd k (p + 1) (by omega)
theorem yNs (hN : yAD nd) (h : yBr D op) (hf : yQw D op nd fs) {d : Nat} (hd : d ≤ op.length) {k : Nat} (hk : k < nd.preds.length) : yEN nd fs D.closed d k = exD D (xN nd k) (yAo op d) := by have hlen := hf.len; unfold yEN yCY; have e := yIL nd fs D.closed (d := d) (by omega) d 0 (by omega); rw [Nat.sub_zero] at e; rw [e]; exact (yIY hN.fit (yQW hN h hf hd)).1 k hk
end
theorem yEF {α : Type} {l : List α} {g : α → α} {i d : Nat} (hd : d < l.length) (z : α) : (l.modify i g).getD d z = if d = i then g (l.getD d z) else l.getD d z := by
 rw [jg, jg, List.getElem?_modify, jk hd]; by_cases e : d = i
 ·subst e; simp
 ·have e2 : ¬ i = d := fun h => e h.symm
  simp [e, e2]
theorem getD_map {α β : Type} {l : List α} {g : α → β} {d : Nat} (hd : d < l.length) (z : α) (y : β) : (l.map g).getD d y = g (l.getD d z) := by rw [jg, jg, List.getElem?_map, jk hd]; rfl
theorem getD_drop {α : Type} {l : List α} {d : Nat} (hd : d < l.length - 1) (z : α) : l.dropLast.getD d z = l.getD d z := by rw [jg, jg, List.getElem?_dropLast, if_pos hd]
theorem yIa {α : Type} {l t : List α} {d : Nat} (hd : d < l.length) (z : α) : (l ++ t).getD d z = l.getD d z := by rw [jg, jg, List.getElem?_append_left hd]
theorem yHb {α : Type} {l : List α} (x z : α) : (l ++ [x]).getD l.length z = x := by rw [jg, List.getElem?_append_right (jr _), Nat.sub_self]; rfl
def yAk (S : NdS) (c : Bool) : yAn := ⟨S.nodes, c⟩
structure yCV (nd : yAc) (es : List EvD) (i : Nat) (s : CkS) (fs : List FrS) : Prop where
 ok : yBr (yAk (yAg es i) s.dn) (yAg es i).op
 num : s.num = (yAg es i).nodes.length
 os : (yAg es i).op = s.os.map (·.1)
 root : (yAg es i).op ≠ [] → 0 ∈ (yAg es i).op
 chs : ∀ k : Int, 0 ≤ k → k < (yAg es i).nodes.length → ChT (ndG (yAg es i).nodes k).val
 frs : yQw (yAk (yAg es i) s.dn) (yAg es i).op nd fs
theorem yHW : rs ⟨#[]⟩ = [] := by have := (yK6 (a := ⟨#[]⟩) (b := ⟨#[]⟩) yDN yDN).1; have e : ((⟨#[]⟩ : ByteArray) ++ ⟨#[]⟩) = ⟨#[]⟩ := rfl; rw [e] at this; have := congrArg List.length this; rw [jp] at this; exact List.length_eq_zero_iff.1 (by omega)
theorem yCV.start {nd : yAc} (hN : yAD nd) (es : List EvD) : yCV nd es 0 ck0 [yAr nd 0 ByteArray.empty []] := by
 refine ⟨ySm false, rfl, rfl, fun h => absurd rfl h, fun k h0 h1 => absurd h1 (by show ¬ k < ((0 : Nat) : Int); omega), ⟨rfl, fun d hd => ?_⟩⟩; obtain rfl : d = 0 := by simpa [yAg] using hd
 exact yKS hN (k := 0) (nm := ByteArray.empty) (ats := []) rfl (fun h => absurd h (by show ¬ (0 : Int) ≤ -1; decide)) rfl rfl ⟨rfl, rfl, rfl, rfl, rfl⟩ (fun p s hs h1 h2 => by show (yAr nd 0 ByteArray.empty []).hunts.getD p none = _; rw [hs]; obtain ⟨c, N, T, l, wh⟩ := s; simp only at h1 h2; subst h1 h2; have e : rs (valD (yAk (yAg es 0) ck0.dn) (yAo (yAg es 0).op 0)) = [] := yHW; have e2 : yB7 (yAk (yAg es 0) ck0.dn) (yAo (yAg es 0).op 0) = true := rfl; rw [e, e2]; rfl) rfl
section
variable {nd : yAc} {es : List EvD} {i : Nat} {s : CkS} {fs : List FrS} {e : EvD}
theorem yBY (he : es[i]? = some e) : yAg es (i + 1) = yBJ (yAg es i) i e := by show yBJ (yAg es i) i (es.getD i ze) = _; rw [jg, he]; rfl
theorem yIE (h : yCV nd es i s fs) : (yAg es i).op.length = s.os.length := by rw [h.os, List.length_map]
theorem yPl {op : List Int} (h : op ≠ []) : yAo op op.length = yAB op := by have : 0 < op.length := List.length_pos_iff.2 h; unfold yAo yAB; rw [if_neg (by omega)]
theorem yLJ {D D' : yAn} {op : List Int} (h : yBr D op) (hroot : op ≠ [] → 0 ∈ op) (hchs : ∀ k : Int, 0 ≤ k → k < D.nodes.length → ChT (yAf D k).val) {tx : ByteArray} (ht : ChT tx) (hl : D'.nodes.length = D.nodes.length + 1) (h0 : op = [] → D.nodes.length = 0 ∧ (yAf D' 0).val = tx)
  (hO : ∀ k ∈ op, (yAf D' k).val = (yAf D k).val ++ tx) {d : Nat} (hd : d ≤ op.length) : rs (valD D' (yAo op d)) = rs (valD D (yAo op d)) ++ rs tx := by
 have hin : ∀ k ∈ op, rs (yAf D' k).val = rs (yAf D k).val ++ rs tx := fun k hk => by have := h.rng k hk; rw [hO k hk, (yK6 (hchs k this.1 this.2) ht).1]
 by_cases hd0 : d = 0
 ·subst hd0; unfold yAo; rw [if_pos rfl]; unfold valD; rw [if_pos (show (-1 : Int) < 0 by decide), if_pos (show (-1 : Int) < 0 by decide), if_neg (show ¬ D'.nodes.length = 0 by omega)]; by_cases hop : op = []
  ·obtain ⟨k1, k2⟩ := h0 hop; rw [if_pos k1]; show rs (yAf D' 0).val = _; rw [k2, show rs ByteArray.empty = [] from yHW, List.nil_append]
  ·have hz := hroot hop; have := h.rng 0 hz; rw [if_neg (by omega)]; exact hin 0 hz
 ·have hm := yHS (d := d) (by omega) hd; have hr := h.rng _ hm; rw [yCQ hr.1, yCQ hr.1]; exact hin _ hm
theorem yRp (hN : yAD nd) (h : yCV nd es i s fs) (he : es[i]? = some e) (hn : yAI s e = true) (hk : e.kd = 0) : yCV nd es (i + 1) (stp s e) (yAA nd (stp s e).dn fs e).1 ∧ (yAA nd (stp s e).dn fs e).2 = none := by
 unfold yAI at hn; rw [if_pos hk] at hn; simp only [jb, Bool.or_eq_true, yDe, decide_eq_true_eq, Bool.not_eq_true'] at hn; obtain ⟨hdn, ⟨⟨⟨⟨hnum, hdep⟩, htx⟩, hnm⟩, hats⟩, hfst⟩ := hn; have es' : stp s e = ⟨s.os ++ [(e.num, e.dep, e.nm)], s.num + 1, false, s.dn⟩ := by unfold stp; rw [if_pos hk]
 have ef : yAA nd (stp s e).dn fs e = (fs ++ [yAr nd 1 e.nm e.ats], none) := by unfold yAA; rw [if_pos hk]
 have en : yAg es (i + 1) = ⟨yBK e.num e.tx (yAg es i).op ((yAg es i).nodes ++ [yBF e i (yAg es i).op]), (yAg es i).op ++ [e.num]⟩ := by rw [yBY he]; unfold yBJ; rw [if_neg (by omega), if_pos hk]
 obtain ⟨h1, h2, h3, h4, h5, h6⟩ := h; have hlo := yIE ⟨h1, h2, h3, h4, h5, h6⟩; rw [ef, es']; obtain ⟨S, hS⟩ := je (yAg es i); rw [hS] at h1 h2 h3 h4 h5 h6 en hlo; have hnN : e.num = (yAk S s.dn).nodes.length := by rw [hnum, h2]; rfl
 have hlen : (yBK e.num e.tx S.op (S.nodes ++ [yBF e i S.op])).length = S.nodes.length + 1 := by rw [yDI, jp]; rfl
 obtain ⟨D', hD'⟩ := je (yAk ⟨yBK e.num e.tx S.op (S.nodes ++ [yBF e i S.op]), S.op ++ [e.num]⟩ s.dn); have hl' : D'.nodes.length = (yAk S s.dn).nodes.length + 1 := by rw [← hD']; exact hlen
 have hat : ∀ k : Int, 0 ≤ k → k ≤ (yAk S s.dn).nodes.length → yAf D' k = if k = (yAk S s.dn).nodes.length then yBF e i S.op else if k ∈ S.op then yCy e.num e.tx (yAf (yAk S s.dn) k) else yAf (yAk S s.dn) k := fun k k0 k1 => by rw [← hD']; exact yNX h1 hnN k0 k1
 have hatN : yAf D' (yAk S s.dn).nodes.length = yBF e i S.op := by rw [hat _ (by omega) (Int.le_refl _), if_pos rfl]
 have hatO : ∀ k : Int, 0 ≤ k → k < (yAk S s.dn).nodes.length → yAf D' k = if k ∈ S.op then yCy e.num e.tx (yAf (yAk S s.dn) k) else yAf (yAk S s.dn) k := fun k k0 k1 => by rw [hat k k0 (by omega), if_neg (by omega)]
 obtain ⟨hok, hK⟩ := yJ4 (D := yAk S s.dn) (D' := D') (op := S.op) h1 hnN (.inl hk) (op' := S.op ++ [e.num]) (c := -1) hl' (by rw [hatN]; rfl) hatO (.inl ⟨rfl, by decide, hk⟩); have hcl : D'.closed = s.dn := by rw [← hD']; rfl
 have hroot0 : S.op = [] → S.nodes.length = 0 := fun h => by
  have : s.os.length = 0 := by rw [← hlo, h]; rfl
  have : s.num = 0 := by rcases hfst with hf | hf <;> omega
  omega
 have hval : ∀ d, d ≤ S.op.length → rs (valD D' (yAo S.op d)) = rs (valD (yAk S s.dn) (yAo S.op d)) := fun d hd => by
  have := yLJ (D' := D') h1 h4 h5 (tx := e.tx) (by rw [htx]; exact yDN) hl' (fun hop => by
   have := hroot0 hop; refine ⟨this, ?_⟩; have hz : ((yAk S s.dn).nodes.length : Int) = 0 := by show ((S.nodes.length : Nat) : Int) = 0; omega
   rw [hz] at hatN; rw [hatN]; rfl) (fun k hk2 => by have := h1.rng k hk2; rw [hatO k this.1 this.2, if_pos hk2]; rfl) hd
  rw [this, htx, yHW, List.append_nil]
 refine ⟨⟨?_, ?_, ?_, fun _ => ?_, fun k k0 k1 => ?_, ⟨?_, fun d hd => ?_⟩⟩, rfl⟩
 ·rw [en]; show yBr (yAk ⟨_, _⟩ s.dn) (S.op ++ [e.num]); rw [hD']; exact hok
 ·rw [en]; show s.num + 1 = ((yBK e.num e.tx S.op (S.nodes ++ [yBF e i S.op])).length : Int)
  rw [hlen, h2]; rfl
 ·rw [en]; show S.op ++ [e.num] = (s.os ++ [(e.num, e.dep, e.nm)]).map (·.1); rw [List.map_append, ← h3]; rfl
 ·rw [en]; show (0 : Int) ∈ S.op ++ [e.num]
  by_cases hop : S.op = []
  ·have := hroot0 hop; rw [hnum, h2, this]; simp
  ·exact List.mem_append_left _ (h4 hop)
 ·rw [en] at k1 ⊢; have k1 : k < ((yBK e.num e.tx S.op (S.nodes ++ [yBF e i S.op])).length : Int) := k1; rw [hlen] at k1; show ChT (ndG (yBK e.num e.tx S.op (S.nodes ++ [yBF e i S.op])) k).val; have e1 : ndG (yBK e.num e.tx S.op (S.nodes ++ [yBF e i S.op])) k = yAf D' k := by rw [← hD']; rfl
  have kle : k ≤ (yAk S s.dn).nodes.length := by show k ≤ (S.nodes.length : Int); omega
  rw [e1, hat k k0 kle]; by_cases e2 : k = (yAk S s.dn).nodes.length
  ·rw [if_pos e2]; show ChT e.tx; rw [htx]; exact yDN
  ·rw [if_neg e2]; have hc := h5 k k0 (by have : k ≠ (S.nodes.length : Int) := e2; omega); split
   ·exact (yK6 hc (by rw [htx]; exact yDN)).2
   ·exact hc
 ·rw [en]; show (fs ++ [yAr nd 1 e.nm e.ats]).length = (S.op ++ [e.num]).length + 1; rw [jp, jp, h6.len]; rfl
 ·rw [en] at hd ⊢; have hd : d ≤ (S.op ++ [e.num]).length := hd; rw [jp, List.length_singleton] at hd; show yDC (yAk ⟨_, _⟩ s.dn) nd (yAo (S.op ++ [e.num]) d) (yAv (yAk ⟨_, _⟩ s.dn) (S.op ++ [e.num]) d) ((fs ++ [yAr nd 1 e.nm e.ats]).getD d fr0); rw [hD']; by_cases hdl : d ≤ S.op.length
  ·have e1 : yAo (S.op ++ [e.num]) d = yAo S.op d := by
    unfold yAo; split
    ·rfl
    ·exact yIa (by omega) _
   have e2 : yAv D' (S.op ++ [e.num]) d = yAv (yAk S s.dn) S.op d := by
    unfold yAv; rw [jp, List.length_singleton, if_pos (by omega)]; by_cases e3 : d < S.op.length
    ·rw [if_pos e3, yIa e3]
    ·obtain rfl : d = S.op.length := by omega
     rw [if_neg e3, yHb, hnN]
   rw [e1, e2, yIa (by rw [h6.len]; omega)]; have hpo := yCW (D := D') (op := S.op ++ [e.num]) hok (d := d) (by rw [jp]; omega); rw [e1, hcl] at hpo; have hpo2 : yB7 D' (yAo S.op d) = yB7 (yAk S s.dn) (yAo S.op d) := hpo.trans (yCW h1 hdl).symm; refine (h6.at_ d hdl).turn ⟨rfl, rfl, rfl, rfl, rfl⟩ (fun p t ht hl hw => ?_) (fun h0 => ?_) (fun u k1 k2 => yCs h1 hK hdl k1 k2)
   ·rw [hval d hdl, hpo2, ← hl, ← hw]; exact ht
   ·have hr := yBp h1 hdl; rw [hatO _ h0 (by omega)]; split <;> rfl
  ·obtain rfl : d = S.op.length + 1 := by omega
   have e1 : yAo (S.op ++ [e.num]) (S.op.length + 1) = (yAk S s.dn).nodes.length := by unfold yAo; rw [if_neg (by omega), Nat.add_sub_cancel, yHb, hnN]
   have e2 : yAv D' (S.op ++ [e.num]) (S.op.length + 1) = ((yAk S s.dn).nodes.length : Int) + 1 := by unfold yAv; rw [jp, List.length_singleton, if_neg (by omega), hl']; rfl
   rw [e1, e2, ← h6.len, yHb]; have hneg : ¬ (((yAk S s.dn).nodes.length : Nat) : Int) < 0 := by omega
   refine yKS hN (k := 1) (nm := e.nm) (ats := e.ats) ?_ (fun _ => by rw [hatN]; rfl) (by rw [if_neg hneg, hatN]; rfl) hats ⟨rfl, rfl, rfl, rfl, rfl⟩ (fun p t ht hl hw => ?_) rfl
   ·rw [if_neg hneg, hatN]; show (1 : Int) = if e.kd = 0 then 1 else 2
    rw [if_pos hk]
   ·rw [ht]; obtain ⟨c, N, T, l, wh⟩ := t; simp only at hl hw; subst hl hw; have a1 : rs (valD D' (((yAk S s.dn).nodes.length : Nat) : Int)) = [] := by
     rw [yCQ (by omega), hatN]; show rs e.tx = []
     rw [htx, yHW]
    have a2 : yB7 D' (((yAk S s.dn).nodes.length : Nat) : Int) = true := by rw [yBQ (by omega), hatN]; rfl
    rw [a1, a2]; rfl
end
theorem yHq {D : yAn} {op : List Int} {nd : yAc} (hN : yAD nd) (h : yBr D op) {m nx : Int} {f : FrS} (h0 : 0 ≤ m) (h1 : m < D.nodes.length) (hc : 0 ≤ (yAf D m).clo) (hf : yDC D nd m nx f) (hx : nx = (yAf D m).last + 1) :
  (∀ p, p < nd.preds.length → (yBT nd f false none).1.getD p 0 = exD D (xN nd p) m) ∧ ∀ p j, p < nd.preds.length → opP nd p = 3 → j < yBc nd p → (yBT nd f false none).2.getD (yAF nd p + j) 0 = yBW D nd p j m := by
 obtain ⟨r1, _, r2, r3⟩ := h.rngs m h0 h1 hc; have ho : yB7 D m = false := by rw [yBQ h0, decide_eq_false_iff_not]; omega
 have hF := yIf hN (fun _ => h.kd m h0 h1) hf (ib := none) (by show nx = yAY D m + 1; rw [yCh h0]; exact hx) (fun v k1 k2 p j => yMY r2 r3 nd p j (by omega) (by omega)) (by rw [yCh h0]; omega); rw [ho] at hF; exact yIY hN.fit hF
section
variable {nd : yAc} {es : List EvD} {i : Nat} {s : CkS} {fs : List FrS} {e : EvD}
theorem run_text (hN : yAD nd) (h : yCV nd es i s fs) (he : es[i]? = some e) (hn : yAI s e = true) (hk : e.kd = 1) : yCV nd es (i + 1) (stp s e) (yAA nd (stp s e).dn fs e).1 ∧ ∃ l, (yAA nd (stp s e).dn fs e).2 = some l ∧ ∀ p, p < nd.preds.length → l.getD p 0 = exD (yAk (yAg es (i + 1)) (stp s e).dn) (xN nd p) e.num := by
 unfold yAI at hn; rw [if_neg (by omega), if_pos hk] at hn; simp only [jb, yCR, decide_eq_true_eq, Bool.not_eq_true'] at hn; obtain ⟨hdn, ⟨⟨⟨⟨⟨⟨hnum, hdep⟩, hos⟩, _⟩, hne⟩, htxt⟩, hnm⟩, hal⟩ := hn; have hats : e.ats = [] := List.length_eq_zero_iff.1 hal; have es' : stp s e = ⟨s.os, s.num + 1, true, s.dn⟩ := by unfold stp; rw [if_neg (by omega), if_pos hk]
 have ef : yAA nd (stp s e).dn fs e = ((yAm nd s.dn (fs.map (yAK e.tx)) (yAK e.tx (yAr nd 2 ByteArray.empty []))).1, some (yAm nd s.dn (fs.map (yAK e.tx)) (yAK e.tx (yAr nd 2 ByteArray.empty []))).2) := by rw [es']; unfold yAA; rw [if_neg (by omega), if_pos hk]
 have en : yAg es (i + 1) = ⟨(yBK e.num e.tx (yAg es i).op ((yAg es i).nodes ++ [yBF e i (yAg es i).op])).modify e.num.toNat (yAP i), (yAg es i).op⟩ := by rw [yBY he]; unfold yBJ; rw [if_neg (by omega), if_neg (by omega)]
 have hlo := yIE h; obtain ⟨h1, h2, h3, h4, h5, h6⟩ := h; rw [ef, es']; obtain ⟨S, hS⟩ := je (yAg es i); rw [hS] at h1 h2 h3 h4 h5 h6 hlo en; have hnN : e.num = (yAk S s.dn).nodes.length := by rw [hnum, h2]; rfl
 have hlen0 : (yBK e.num e.tx S.op (S.nodes ++ [yBF e i S.op])).length = S.nodes.length + 1 := by rw [yDI, jp]; rfl
 have hlen : ((yBK e.num e.tx S.op (S.nodes ++ [yBF e i S.op])).modify e.num.toNat (yAP i)).length = S.nodes.length + 1 := by rw [List.length_modify, hlen0]
 obtain ⟨D', hD'⟩ := je (yAk ⟨(yBK e.num e.tx S.op (S.nodes ++ [yBF e i S.op])).modify e.num.toNat (yAP i), S.op⟩ s.dn); have hl' : D'.nodes.length = (yAk S s.dn).nodes.length + 1 := by rw [← hD']; exact hlen
 have hNN : (((yAk S s.dn).nodes.length : Nat) : Int) = (S.nodes.length : Int) := rfl; have hat : ∀ k : Int, 0 ≤ k → k ≤ (yAk S s.dn).nodes.length → yAf D' k = if k = (yAk S s.dn).nodes.length then yAP i (yBF e i S.op) else if k ∈ S.op then yCy e.num e.tx (yAf (yAk S s.dn) k) else yAf (yAk S s.dn) k := fun k k0 k1 => by
  have e1 : yAf D' k = ndG ((yBK e.num e.tx S.op (S.nodes ++ [yBF e i S.op])).modify e.num.toNat (yAP i)) k := by rw [← hD']; rfl
  have e9 : ndG (yBK e.num e.tx S.op (S.nodes ++ [yBF e i S.op])) k = if k = (yAk S s.dn).nodes.length then yBF e i S.op else if k ∈ S.op then yCy e.num e.tx (yAf (yAk S s.dn) k) else yAf (yAk S s.dn) k := yNX h1 hnN k0 k1
  rw [e1, yFu (by omega) (by rw [hlen0]; omega) k0, e9]; by_cases e2 : k = (yAk S s.dn).nodes.length
  ·rw [if_pos (by omega), if_pos e2, if_pos e2]
  ·rw [if_neg (by omega), if_neg e2, if_neg e2]
 have hatN : yAf D' (yAk S s.dn).nodes.length = yAP i (yBF e i S.op) := by rw [hat _ (by omega) (Int.le_refl _), if_pos rfl]
 have hatO : ∀ k : Int, 0 ≤ k → k < (yAk S s.dn).nodes.length → yAf D' k = if k ∈ S.op then yCy e.num e.tx (yAf (yAk S s.dn) k) else yAf (yAk S s.dn) k := fun k k0 k1 => by rw [hat k k0 (by omega), if_neg (by omega)]
 obtain ⟨hok, hK⟩ := yJ4 (D := yAk S s.dn) (D' := D') (op := S.op) h1 hnN (.inr hk) (op' := S.op) (c := i) hl' (by rw [hatN]; rfl) hatO (.inr ⟨rfl, by omega⟩); have hcl : D'.closed = s.dn := by rw [← hD']; rfl
 have hop : S.op ≠ [] := fun hx => by rw [hx] at hlo; simp at hlo; omega
 have hctx : ChT e.tx := by unfold yCe at htxt; rw [jb] at htxt; have := htxt.2; unfold val at this; rwa [List.drop_zero] at this
 have hval : ∀ d, d ≤ S.op.length → rs (valD D' (yAo S.op d)) = rs (valD (yAk S s.dn) (yAo S.op d)) ++ rs e.tx := fun d hd =>
  yLJ (D' := D') h1 h4 h5 hctx hl' (fun hx => absurd hx hop) (fun k hk2 => by have := h1.rng k hk2; rw [hatO k this.1 this.2, if_pos hk2]; rfl) hd
 have hneg : ¬ (((yAk S s.dn).nodes.length : Nat) : Int) < 0 := by omega
 have hF : yDC D' nd (yAk S s.dn).nodes.length (((yAk S s.dn).nodes.length : Int) + 1) (yBt (yAK e.tx (yAr nd 2 ByteArray.empty []))) := by
  refine yKS hN (k := 2) (nm := ByteArray.empty) (ats := []) ?_ (fun _ => by rw [hatN]; exact hnm.symm) (by rw [if_neg hneg, hatN]; exact hats.symm) rfl ⟨rfl, rfl, rfl, rfl, rfl⟩ (fun p t ht hl hw => ?_) rfl
  ·rw [if_neg hneg, hatN]; show (2 : Int) = if e.kd = 0 then 1 else 2
   rw [if_neg (by omega)]
  ·have a3 := yDG (g := yDB) (yDG (g := yFd e.tx) ht); have a1 : rs (valD D' (((yAk S s.dn).nodes.length : Nat) : Int)) = rs e.tx := by rw [yCQ (by omega), hatN]; rfl
   have a2 : yB7 D' (((yAk S s.dn).nodes.length : Nat) : Int) = false := by rw [yBQ (by omega), hatN, decide_eq_false_iff_not]; show ¬ ((i : Nat) : Int) < 0; omega
   rw [a1, a2]; refine a3.trans ?_; show some (⟨t.c, t.N, t.T, t.l ++ rs e.tx, true⟩ : HuS) = _; rw [hl, List.nil_append]; rfl
 have hlastN : (yAf D' (yAk S s.dn).nodes.length).last = (yAk S s.dn).nodes.length := by rw [hatN]; exact hnN
 obtain ⟨hfnd1, hfnd2⟩ := yHq hN hok (m := (yAk S s.dn).nodes.length) (by omega) (by omega) (by rw [hatN]; show (0 : Int) ≤ ((i : Nat) : Int); omega) hF (by rw [hlastN]); have hfl : (fs.map (yAK e.tx)).length = S.op.length + 1 := by rw [List.length_map, h6.len]
 refine ⟨⟨?_, ?_, by rw [en]; exact h3, by rw [en]; exact h4, fun k k0 k1 => ?_, ⟨?_, fun d hd => ?_⟩⟩, _, rfl, fun p hp => ?_⟩
 ·rw [en]; show yBr (yAk ⟨_, _⟩ s.dn) S.op; rw [hD']; exact hok
 ·rw [en]; show s.num + 1 = (((yBK e.num e.tx S.op (S.nodes ++ [yBF e i S.op])).modify e.num.toNat (yAP i)).length : Int)
  rw [hlen, h2]; rfl
 ·rw [en] at k1 ⊢; have k1 : k < (((yBK e.num e.tx S.op (S.nodes ++ [yBF e i S.op])).modify e.num.toNat (yAP i)).length : Int) := k1; rw [hlen] at k1; have e1 : ndG ((yBK e.num e.tx S.op (S.nodes ++ [yBF e i S.op])).modify e.num.toNat (yAP i)) k = yAf D' k := by rw [← hD']; rfl
  show ChT (ndG ((yBK e.num e.tx S.op (S.nodes ++ [yBF e i S.op])).modify e.num.toNat (yAP i)) k).val; rw [e1, hat k k0 (by omega)]; by_cases e2 : k = (yAk S s.dn).nodes.length
  ·rw [if_pos e2]; exact hctx
  ·rw [if_neg e2]; have hc := h5 k k0 (by omega); split
   ·exact (yK6 hc hctx).2
   ·exact hc
 ·rw [en]; show (yAm nd s.dn (fs.map (yAK e.tx)) _).1.length = S.op.length + 1; rw [yDw, hfl]
 ·rw [en] at hd ⊢; have hd : d ≤ S.op.length := hd; show yDC (yAk ⟨_, _⟩ s.dn) nd (yAo S.op d) (yAv (yAk ⟨_, _⟩ s.dn) S.op d) ((yAm nd s.dn (fs.map (yAK e.tx)) (yAK e.tx (yAr nd 2 ByteArray.empty []))).1.getD d fr0); rw [hD']; have hfr : (yAm nd s.dn (fs.map (yAK e.tx)) (yAK e.tx (yAr nd 2 ByteArray.empty []))).1 = yDE (yDy (yBT nd (yBt (yAK e.tx (yAr nd 2 ByteArray.empty []))) false none).2 (yBt (yAK e.tx (yAr nd 2 ByteArray.empty [])))) (fs.map (yAK e.tx)) := by unfold yAm; rw [if_neg (by rw [hdn]; decide)]
  rw [hfr]; unfold yDE; rw [yEF (by rw [hfl]; omega), getD_map (by rw [h6.len]; omega) fr0, hfl, Nat.add_sub_cancel]; have hpo2 : yB7 D' (yAo S.op d) = yB7 (yAk S s.dn) (yAo S.op d) := by have := yCW (D := D') hok hd; rw [hcl] at this; exact this.trans (yCW h1 hd).symm
  have hT : yDC D' nd (yAo S.op d) (yAv (yAk S s.dn) S.op d) (yAK e.tx (fs.getD d fr0)) := by
   refine (h6.at_ d hd).turn ⟨rfl, rfl, rfl, rfl, rfl⟩ (fun p t ht hl hw => ?_) (fun h0 => ?_) (fun u k1 k2 => yCs h1 hK hd k1 k2)
   ·refine (yDG (g := yFd e.tx) ht).trans ?_; rw [hval d hd, hpo2, ← hl, ← hw]; rfl
   ·have hr := yBp h1 hd; rw [hatO _ h0 (by omega)]; split <;> rfl
  by_cases hdl : d = S.op.length
  ·rw [if_pos hdl]; have e1 : yAv (yAk S s.dn) S.op d = (yAk S s.dn).nodes.length := by unfold yAv; rw [if_neg (by omega)]
   have e2 : yAv D' S.op d = ((yAk S s.dn).nodes.length : Int) + 1 := by unfold yAv; rw [if_neg (by omega), hl']; rfl
   have hr := yBp h1 hd; rw [e1] at hT hr; rw [e2]; refine hT.met hN hF ⟨hr.2.1, by omega⟩ ?_ (fun u k1 k2 => by omega) hfnd2; rw [hatN, hdl, yPl hop]; rfl
  ·rw [if_neg hdl]; have e2 : yAv D' S.op d = yAv (yAk S s.dn) S.op d := by unfold yAv; rw [if_pos (by omega), if_pos (by omega)]
   rw [e2]; exact hT
 ·rw [en]; show (yBT nd (yBt (yAK e.tx (yAr nd 2 ByteArray.empty []))) false none).1.getD p 0 = exD (yAk ⟨_, _⟩ s.dn) (xN nd p) e.num; rw [hD', hnN]; exact hfnd1 p hp
theorem yPx (hN : yAD nd) (h : yCV nd es i s fs) (he : es[i]? = some e) (hn : yAI s e = true) (hk : e.kd = 2) : yCV nd es (i + 1) (stp s e) (yAA nd (stp s e).dn fs e).1 ∧ ∃ l, (yAA nd (stp s e).dn fs e).2 = some l ∧ ∀ p, p < nd.preds.length → l.getD p 0 = exD (yAk (yAg es (i + 1)) (stp s e).dn) (xN nd p) e.num := by
 unfold yAI at hn; rw [if_neg (by omega), if_neg (by omega), if_pos hk] at hn; simp only [jb, yFr, decide_eq_true_eq, Bool.not_eq_true'] at hn; obtain ⟨hdn, hos, ⟨⟨⟨⟨hnum, _⟩, _⟩, htx⟩, hal⟩⟩ := hn; obtain ⟨dn, hdn'⟩ : ∃ dn, decide (s.os.length = 1) = dn := ⟨_, rfl⟩
 have es' : stp s e = ⟨s.os.dropLast, s.num, false, dn⟩ := by unfold stp; rw [if_neg (by omega), if_neg (by omega), hdn']
 have ef : yAA nd (stp s e).dn fs e = ((yAm nd dn fs.dropLast (fs.getD (fs.length - 1) fr0)).1, some (yAm nd dn fs.dropLast (fs.getD (fs.length - 1) fr0)).2) := by rw [es']; unfold yAA; rw [if_neg (by omega), if_neg (by omega)]
 have en : yAg es (i + 1) = ⟨(yAg es i).nodes.modify e.num.toNat (yAP i), (yAg es i).op.dropLast⟩ := by rw [yBY he]; unfold yBJ; rw [if_pos hk]
 have hlo := yIE h; obtain ⟨h1, h2, h3, h4, h5, h6⟩ := h; rw [ef, es']; obtain ⟨S, hS⟩ := je (yAg es i); rw [hS] at h1 h2 h3 h4 h5 h6 hlo en; have hop : S.op ≠ [] := fun hx => by rw [hx] at hlo; simp at hlo; omega
 have hpm := yGR hop; have hpr := h1.rng _ hpm; have hNN : (((yAk S s.dn).nodes.length : Nat) : Int) = (S.nodes.length : Int) := rfl; have hnp : e.num = yAB S.op := by rw [hnum]; unfold yAB; rw [if_neg (by omega), hlo, h3, getD_map (by omega) zo]
 have hlen : (S.nodes.modify e.num.toNat (yAP i)).length = S.nodes.length := List.length_modify ..; obtain ⟨D', hD'⟩ := je (yAk ⟨S.nodes.modify e.num.toNat (yAP i), S.op.dropLast⟩ dn); have hl' : D'.nodes.length = (yAk S s.dn).nodes.length := by rw [← hD']; exact hlen
 have hat : ∀ k : Int, 0 ≤ k → yAf D' k = if k = yAB S.op then yAP i (yAf (yAk S s.dn) k) else yAf (yAk S s.dn) k := fun k k0 => by
  have e1 : yAf D' k = ndG (S.nodes.modify e.num.toNat (yAP i)) k := by rw [← hD']; rfl
  rw [e1, yFu (by omega) (by omega) k0, hnp]; rfl
 have hatN : yAf D' (yAB S.op) = yAP i (yAf (yAk S s.dn) (yAB S.op)) := by rw [hat _ hpr.1, if_pos rfl]
 obtain ⟨hok, hK⟩ := yMK (D := yAk S s.dn) (D' := D') (op := S.op) h1 hop (i := i) hl' hatN (fun k k0 _ hk2 => by rw [hat k k0, if_neg hk2]); have hcl : D'.closed = dn := by rw [← hD']; rfl
 have hmix : ∀ k : Int, 0 ≤ k → (yAf D' k).val = (yAf (yAk S s.dn) k).val ∧ (yAf D' k).ev = (yAf (yAk S s.dn) k).ev ∧ (yAf D' k).par = (yAf (yAk S s.dn) k).par ∧ (yAf D' k).last = (yAf (yAk S s.dn) k).last := fun k k0 => by rw [hat k k0]; split <;> exact ⟨rfl, rfl, rfl, rfl⟩
 have hval : ∀ k, valD D' k = valD (yAk S s.dn) k := fun k => by
  by_cases hk0 : k < 0
  ·unfold valD; rw [if_pos hk0, if_pos hk0, hl']; have := (hmix 0 (by omega)).1; have this : (D'.nodes.getD 0 zn).val = ((yAk S s.dn).nodes.getD 0 zn).val := this; rw [this]
  ·rw [yCQ (by omega), yCQ (by omega)]; exact (hmix k (by omega)).1
 have hopl : 0 < S.op.length := List.length_pos_iff.2 hop; have htop := yPl hop; have hfl : fs.length - 1 = S.op.length := by rw [h6.len]; rfl
 have hnx : yAv (yAk S s.dn) S.op S.op.length = (yAk S s.dn).nodes.length := by unfold yAv; rw [if_neg (by omega)]
 have hF : yDC D' nd (yAB S.op) (yAk S s.dn).nodes.length (yBt (fs.getD (fs.length - 1) fr0)) := by
  have h7 := h6.at_ S.op.length (jr _); have hsb := fun u k1 k2 => yCs (nd := nd) h1 hK (jr S.op.length) (u := u) k1 k2
  rw [htop, hnx] at h7 hsb; rw [hfl]; refine h7.turn ⟨rfl, rfl, rfl, rfl, rfl⟩ (fun p t ht hl hw => ?_) (fun h0 => (hmix _ h0).2.1) hsb; refine (yDG (g := yDB) ht).trans ?_; have a2 : yB7 D' (yAB S.op) = false := by rw [yBQ hpr.1, hatN, decide_eq_false_iff_not]; show ¬ ((i : Nat) : Int) < 0; omega
  rw [a2, hval, ← hl]; rfl
 have hlastN : (yAf D' (yAB S.op)).last = ((yAk S s.dn).nodes.length : Int) - 1 := by rw [(hmix _ hpr.1).2.2.2]; exact h1.lst _ hpm
 obtain ⟨hfnd1, hfnd2⟩ := yHq hN hok (m := yAB S.op) hpr.1 (by omega) (by rw [hatN]; show (0 : Int) ≤ ((i : Nat) : Int); omega) hF (by rw [hlastN]; omega); have hdl : (S.op.dropLast).length = S.op.length - 1 := List.length_dropLast; have hb : (if dn = true then yEB yBt fs.dropLast else fs.dropLast).length = S.op.length := by
  split
  ·rw [yFB, List.length_dropLast, hfl]
  ·rw [List.length_dropLast, hfl]
 refine ⟨⟨?_, ?_, ?_, fun hx => ?_, fun k k0 k1 => ?_, ⟨?_, fun d hd => ?_⟩⟩, _, rfl, fun p hp => ?_⟩
 ·rw [en]; show yBr (yAk ⟨_, _⟩ dn) S.op.dropLast; rw [hD']; exact hok
 ·rw [en]; show s.num = ((S.nodes.modify e.num.toNat (yAP i)).length : Int)
  rw [hlen, h2]
 ·rw [en]; show S.op.dropLast = s.os.dropLast.map (·.1); rw [h3, List.map_dropLast]
 ·rw [en] at hx ⊢; show (0 : Int) ∈ S.op.dropLast; have hx : S.op.dropLast ≠ [] := hx; have hz := h4 hop; obtain ⟨j, hj, hje⟩ := List.mem_iff_getElem.1 hz; have hx2 : 0 < S.op.dropLast.length := List.length_pos_iff.2 hx; have hj0 : j = 0 := by
   refine Nat.eq_zero_of_not_pos fun hp => ?_
   have := yE0 h1.rise hp hj; have e1 : S.op.getD j 0 = 0 := by rw [jg, jk hj]; exact hje
   have := h1.rng _ (yCS (show 0 < S.op.length by omega)); omega
  subst hj0; refine List.mem_iff_getElem.2 ⟨0, hx2, ?_⟩; rw [List.getElem_dropLast]; exact hje
 ·rw [en] at k1 ⊢; have k1 : k < ((S.nodes.modify e.num.toNat (yAP i)).length : Int) := k1; rw [hlen] at k1; have e1 : ndG (S.nodes.modify e.num.toNat (yAP i)) k = yAf D' k := by rw [← hD']; rfl
  show ChT (ndG (S.nodes.modify e.num.toNat (yAP i)) k).val; rw [e1, (hmix k k0).1]; exact h5 k k0 k1
 ·rw [en]; show (yAm nd dn fs.dropLast _).1.length = S.op.dropLast.length + 1; rw [yDw, List.length_dropLast, hdl, hfl]; omega
 ·rw [en] at hd ⊢; have hd : d ≤ S.op.dropLast.length := hd; rw [hdl] at hd; show yDC (yAk ⟨_, _⟩ dn) nd (yAo S.op.dropLast d) (yAv (yAk ⟨_, _⟩ dn) S.op.dropLast d) ((yAm nd dn fs.dropLast (fs.getD (fs.length - 1) fr0)).1.getD d fr0); rw [hD']; have e1 : yAo S.op.dropLast d = yAo S.op d := by
   unfold yAo; split
   ·rfl
   ·exact getD_drop (by omega) _
  have hd' : d ≤ S.op.length := by omega
  have hpo : yB7 D' (yAo S.op d) = (decide (0 < d) || !dn) := by have := yCW (D := D') hok (d := d) (by rw [hdl]; exact hd); rw [e1, hcl] at this; exact this
  have hpo1 : yB7 (yAk S s.dn) (yAo S.op d) = true := by rw [yCW h1 hd', show (yAk S s.dn).closed = s.dn from rfl, hdn]; simp
  unfold yAm yDE; rw [yEF (by rw [hb]; omega), hb]; have hT : yDC D' nd (yAo S.op d) (yAv (yAk S s.dn) S.op d) ((if dn = true then yEB yBt fs.dropLast else fs.dropLast).getD d fr0) := by
   have hdf : fs.dropLast.getD d fr0 = fs.getD d fr0 := getD_drop (by rw [hfl]; omega) _; cases hdnv : dn with
   | true =>
    rw [if_pos rfl]; have hone : S.op.length = 1 := by rw [hdnv, decide_eq_true_eq] at hdn'; omega
    obtain rfl : d = 0 := by omega
    unfold yEB; rw [yEF (by rw [List.length_dropLast, hfl]; omega), if_pos rfl, hdf]; refine (h6.at_ 0 (by omega)).turn ⟨rfl, rfl, rfl, rfl, rfl⟩ (fun p t ht hl hw => ?_) (fun h0 => (hmix _ h0).2.1) (fun u k1 k2 => yCs h1 hK (by omega) k1 k2); refine (yDG (g := yDB) ht).trans ?_; rw [hpo, hval, ← hl, hdnv]; rfl
   | false =>
    rw [if_neg (by decide), hdf]; refine (h6.at_ d hd').turn ⟨rfl, rfl, rfl, rfl, rfl⟩ (fun p t ht hl hw => ?_) (fun h0 => (hmix _ h0).2.1) (fun u k1 k2 => yCs h1 hK hd' k1 k2); rw [hpo, hval, ← hl, hdnv]; have hw : t.whole = (!true) := by rw [hw, hpo1]
    rw [ht]; obtain ⟨c, N, T, l, wh⟩ := t; simp only at hw; subst hw; simp
  rw [e1]; by_cases hdl2 : d = S.op.length - 1
  ·rw [if_pos hdl2]; have e2 : yAv D' S.op.dropLast d = (yAk S s.dn).nodes.length := by unfold yAv; rw [if_neg (by rw [hdl]; omega), hl']
   have e3 : yAv (yAk S s.dn) S.op d = yAB S.op := by unfold yAv yAB; rw [if_pos (by omega), if_neg (by omega), hdl2]
   have hr := yBp h1 hd'; have hpar := yPo h1 (show d < S.op.length by omega); have hbeh := fun v k1 k2 => yIx h1 (show d < S.op.length by omega) (v := v) k1 k2
   rw [e3] at hT hr hpar hbeh; rw [e2]; refine hT.met hN hF ⟨hr.2.1, hpr.2⟩ ?_ (fun u k1 k2 => ?_) hfnd2
   ·rw [(hmix _ hpr.1).2.2.1]; exact hpar
   ·rw [(hmix u (by omega)).2.2.1]; exact hbeh u k1 k2
  ·rw [if_neg hdl2]; have e2 : yAv D' S.op.dropLast d = yAv (yAk S s.dn) S.op d := by unfold yAv; rw [if_pos (by rw [hdl]; omega), if_pos (by omega)]; exact getD_drop (by omega) _
   rw [e2]; exact hT
 ·rw [en]; show (yBT nd (yBt (fs.getD (fs.length - 1) fr0)) false none).1.getD p 0 = exD (yAk ⟨_, _⟩ dn) (xN nd p) e.num; rw [hD', hnp]; exact hfnd1 p hp
end
end Go.Proofs.YtkhejkfjhddobaaGreatDoor
namespace Gim
open Go Go.RowKit
mutual
theorem yL1 {st : Cst} : ∀ {x : Ex} {k0 r0 : Nat}, yCP st x k0 r0 → ∀ k, k0 ≤ k → k < k0 + pcX x → ∀ p, st.preds[k]? = some p → p.op = 3 → (r0 : Int) ≤ p.first ∧ p.first + p.count ≤ r0 + rcX x
 | .mk op args sts nm cmp txt num, k0, r0, h, k, h1, h2, p, hp, h3 => by
  unfold yCP at h; unfold pcX at h2; unfold rcX; by_cases ho : op = 3
  ·rw [if_pos ho] at h h2 ⊢; obtain rfl : k = k0 := by omega
   rw [h.1] at hp; injection hp with hp; subst hp; exact ⟨Int.le_refl _, by show (r0 : Int) + (sts.length : Int) ≤ r0 + sts.length; omega⟩
  ·rw [if_neg ho] at h h2 ⊢; by_cases hk : k = k0
   ·subst hk; rw [h.1] at hp; injection hp with hp; subst hp; exact absurd h3 ho
   ·exact yDQ h.2 k (by omega) (by omega) p hp h3
theorem yDQ {st : Cst} : ∀ {l : List Ex} {k0 r0 : Nat}, yA7 st l k0 r0 → ∀ k, k0 ≤ k → k < k0 + yAN l → ∀ p, st.preds[k]? = some p → p.op = 3 → (r0 : Int) ≤ p.first ∧ p.first + p.count ≤ r0 + yAV l
 | [], k0, r0, _, k, h1, h2, _, _, _ => by unfold yAN at h2; omega
 | x :: l, k0, r0, h, k, h1, h2, p, hp, h3 => by
  unfold yA7 at h; unfold yAN at h2; unfold yAV; by_cases hk : k < k0 + pcX x
  ·have := yL1 h.1 k h1 hk p hp h3; omega
  ·have := yDQ h.2 k (by omega) (by omega) p hp h3; omega
end
mutual
theorem yPW {st : Cst} : ∀ {x : Ex} {k0 r0 : Nat}, yCP st x k0 r0 → ∀ k k', k0 ≤ k → k < k' → k' < k0 + pcX x → ∀ p p', st.preds[k]? = some p → st.preds[k']? = some p' → p.op = 3 → p'.op = 3 → p.first + p.count ≤ p'.first
 | .mk op args sts nm cmp txt num, k0, r0, h, k, k', h1, h12, h2, p, p', hp, hp', h3, h3' => by
  unfold yCP at h; unfold pcX at h2; by_cases ho : op = 3
  ·rw [if_pos ho] at h2; omega
  ·rw [if_neg ho] at h h2; by_cases hk : k = k0
   ·subst hk; rw [h.1] at hp; injection hp with hp; subst hp; exact absurd h3 ho
   ·exact yFD h.2 k k' (by omega) h12 (by omega) p p' hp hp' h3 h3'
theorem yFD {st : Cst} : ∀ {l : List Ex} {k0 r0 : Nat}, yA7 st l k0 r0 → ∀ k k', k0 ≤ k → k < k' → k' < k0 + yAN l → ∀ p p', st.preds[k]? = some p → st.preds[k']? = some p' → p.op = 3 → p'.op = 3 → p.first + p.count ≤ p'.first
 | [], k0, r0, _, k, k', h1, h12, h2, _, _, _, _, _, _ => by unfold yAN at h2; omega
 | x :: l, k0, r0, h, k, k', h1, h12, h2, p, p', hp, hp', h3, h3' => by
  unfold yA7 at h; unfold yAN at h2; by_cases hk' : k' < k0 + pcX x
  ·exact yPW h.1 k k' h1 h12 hk' p p' hp hp' h3 h3'
  ·by_cases hk : k < k0 + pcX x
   ·have a := yL1 h.1 k h1 hk p hp h3; have b := yDQ h.2 k' (by omega) (by omega) p' hp' h3'; omega
   ·exact yFD h.2 k k' (by omega) h12 (by omega) p p' hp hp' h3 h3'
end
mutual
theorem yRG {st : Cst} : ∀ {x : Ex} {k0 r0 : Nat}, gdX x = true → yCP st x k0 r0 → ∀ k, k0 ≤ k → k < k0 + pcX x → ∀ p, st.preds[k]? = some p → p.op = 2 → p.args.length = 1
 | .mk op args sts nm cmp txt num, k0, r0, hg, h, k, h1, h2, p, hp, h3 => by
  unfold yCP at h; unfold pcX at h2; unfold gdX at hg; by_cases ho : op = 3
  ·rw [if_pos ho] at h h2; obtain rfl : k = k0 := by omega
   rw [h.1] at hp; injection hp with hp; subst hp; have h3 : op = 2 := h3; omega
  ·rw [if_neg ho] at h h2 hg; simp only [jb] at hg; by_cases hk : k = k0
   ·subst hk; rw [h.1] at hp; injection hp with hp; subst hp; have h3 : op = 2 := h3; have hl := hg.2.2.2.2.2.1; unfold lnB at hl; rw [if_neg (by omega), if_pos h3, decide_eq_true_eq] at hl; show (yBx args (k + 1)).length = 1; rw [yJN, hl]
   ·exact yGY hg.2.2.2.2.2.2 h.2 k (by omega) (by omega) p hp h3
theorem yGY {st : Cst} : ∀ {l : List Ex} {k0 r0 : Nat}, yAQ l = true → yA7 st l k0 r0 → ∀ k, k0 ≤ k → k < k0 + yAN l → ∀ p, st.preds[k]? = some p → p.op = 2 → p.args.length = 1
 | [], k0, r0, _, _, k, h1, h2, _, _, _ => by unfold yAN at h2; omega
 | x :: l, k0, r0, hg, h, k, h1, h2, p, hp, h3 => by
  unfold yA7 at h; unfold yAN at h2; unfold yAQ at hg; rw [jb] at hg; by_cases hk : k < k0 + pcX x
  ·exact yRG hg.1 h.1 k h1 hk p hp h3
  ·exact yGY hg.2 h.2 k (by omega) (by omega) p hp h3
end
def ySz (r : yCK) : Prop := (0 ≤ r.ax ∧ r.ax ≤ 3) ∧ (0 ≤ r.ts ∧ r.ts ≤ 3)
theorem ySJ {t : St} (h : gdT t = true) : ySz (yCx t) := by
 cases t
 unfold gdT at h; rw [jb, decide_eq_true_eq] at h; exact ⟨⟨h.1.1, h.1.2.1⟩, h.1.2.2.1, h.1.2.2.2⟩
theorem yJW : ∀ {l : List St} {t : St}, yBk l = true → t ∈ l → gdT t = true
 | x :: r, t, h, hm => by
  unfold yBk at h; rw [jb] at h; rcases List.mem_cons.1 hm with rfl | hm
  ·exact h.1
  ·exact yJW h.2 hm
theorem yHt {st : Cst} {ts : List St} (h : ∀ r ∈ st.rows, ySz r) (hg : yBk ts = true) : ∀ r ∈ (yAh st ts).rows, ySz r := fun r hr => by
 have hr : r ∈ st.rows ++ ts.map yCx := hr; rw [List.mem_append, List.mem_map] at hr; rcases hr with hr | ⟨t, ht, rfl⟩
 ·exact h r hr
 ·exact ySJ (yJW hg ht)
def yGh (st : Cst) : Prop := ∀ r ∈ st.rows, ySz r
mutual
theorem yO2 : ∀ (x : Ex) (st : Cst), yGh st → gdX x = true → yGh (cX x st)
 | .mk op args sts nm cmp txt num, st, h, hg => by
  unfold gdX at hg; unfold cX; by_cases ho : op = 3
  ·rw [if_pos ho] at hg ⊢; simp only [jb] at hg; exact yHt h hg.2.1.2
  ·rw [if_neg ho] at hg ⊢; simp only [jb] at hg; exact yM9 args st.preds.length (addPred st op) h hg.2.2.2.2.2.2
theorem yM9 : ∀ (l : List Ex) (k : Nat) (st : Cst), yGh st → yAQ l = true → yGh (cXL l k st)
 | [], k, st, h, _ => by unfold cXL; exact h
 | x :: l, k, st, h, hg => by unfold yAQ at hg; rw [jb] at hg; unfold cXL; exact yM9 l k (addArg (cX x st) k st.preds.length) (yO2 x st h hg.1) hg.2
end
theorem yKk (i : Nat) : ∀ (l : List Ex) (st : Cst), yGh st → yAQ l = true → yGh (yA5 i l st)
 | [], st, h, _ => by unfold yA5; exact h
 | x :: l, st, h, hg => by
  unfold yAQ at hg; rw [jb] at hg; unfold yA5; refine yKk i l (addRow (cX x st) i st.preds.length) (fun r hr => ?_) hg.2; have h1 := yO2 x st h hg.1; have hr : r ∈ (cX x st).rows.modify i fun r => { r with ps := r.ps ++ [(st.preds.length : Int)] } := hr
  obtain ⟨j, hj, e⟩ := List.mem_iff_getElem.1 hr; rw [List.getElem_modify] at e; rw [List.length_modify] at hj; have h2 := h1 _ (List.getElem_mem hj); split at e
  ·subst e; exact h2
  ·subst e; exact h2
theorem yKo {ts : List St} : ∀ (f i : Nat) (st : Cst), Stg ts i st → yGh st → yGh (yDp f i st)
 | 0, i, st, _, h => by unfold yDp; exact h
 | f + 1, i, st, hs, h => by
  unfold yDp; split
  ·rename_i hi; refine yKo f (i + 1) _ (yLm hs hi) (yKk i _ st h ?_); rw [jg, jk (by rw [hs.wl]; exact hi)]; exact hs.good _ (List.getElem_mem _)
  ·exact h
end Gim
namespace Go.Proofs.YtkhejkfjhddobaaGreatDoor
open Go.RowKit Gim
theorem yRo {ts : List Gim.St} (hok : okP ts = true) (hl : yJk (comp ts)) : yAD (comp ts) := by
 have hg : yBk ts = true := by unfold okP gdP at hok; simp only [jb] at hok; exact hok.1.2
 have hno := yIm (yF6 hok) hl; have hst := yDv hg; have hgetP : ∀ p, p < (comp ts).preds.length → (yAe ts).preds[p]? = some ((comp ts).preds.getD p zp) := fun p hp => yAi (l := (comp ts).preds) hp zp
 refine ⟨⟨yGp hg, hno.op, fun p hp h2 => ?_, fun p p' h12 hp' h3 h3' => ?_⟩, fun i hi => ?_, fun p hp h3 => ?_⟩
 ·obtain ⟨i, h1, h4, h5, _⟩ := yCD hg hp; have hiw : i < (yAe ts).wh.length := by rw [hst.wl]; exact h1
  obtain ⟨rw0, _, _, g3⟩ := hst.row i h1; have hgd : yAQ ((yAe ts).wh.getD i []) = true := by rw [jg, jk hiw]; exact hst.good _ (List.getElem_mem _)
  rw [yCN hiw] at h5; exact yGY hgd g3 p h4 h5 _ (hgetP p hp) h2
 ·have hp : p < (comp ts).preds.length := by omega
  obtain ⟨i, h1, h4, h5, _⟩ := yCD hg hp; obtain ⟨i', h1', h4', h5', _⟩ := yCD hg hp'; have hiw : i < (yAe ts).wh.length := by rw [hst.wl]; exact h1
  have hiw' : i' < (yAe ts).wh.length := by rw [hst.wl]; exact h1'
  obtain ⟨_, _, _, g3⟩ := hst.row i h1; obtain ⟨_, _, _, g3'⟩ := hst.row i' h1'; have e5 := h5; have e5' := h5'; rw [yCN hiw] at e5; rw [yCN hiw'] at e5'; have a := yDQ g3 p h4 e5 _ (hgetP p hp) h3; have b := yDQ g3' p' h4' e5' _ (hgetP p' hp') h3'; have h0 := hno.some p hp h3; have h0' := hno.some p' hp' h3'; have key : ((comp ts).preds.getD p zp).first + ((comp ts).preds.getD p zp).count ≤ ((comp ts).preds.getD p' zp).first := by
   by_cases hii : i = i'
   ·subst hii; exact yFD g3 p p' h4 h12 e5' _ _ (hgetP p hp) (hgetP p' hp') h3 h3'
   ·have hlt : i < i' := by refine Nat.lt_of_le_of_ne (Nat.le_of_not_lt fun hgt => ?_) hii; have := yBN (wh := (yAe ts).wh) (show i' + 1 ≤ i from hgt); omega
    have hr := yEb (L0 := ts.length) (wh := (yAe ts).wh) (show i + 1 ≤ i' from hlt); rw [yGa hiw] at hr; omega
  unfold yAF yBc; omega
 ·have hr : yGh (yAe ts) := yKo _ 0 _ (ySW hg) (yHt (fun r hr => by cases hr) hg); have : (comp ts).rows.getD i zr ∈ (yAe ts).rows := List.mem_of_getElem? (yAi (l := (comp ts).rows) hi zr); exact hr _ this
 ·have := hno.cmp p hp h3; exact ⟨⟨this.1, this.2.1⟩, this.2.2.1⟩
end Go.Proofs.YtkhejkfjhddobaaGreatDoor
