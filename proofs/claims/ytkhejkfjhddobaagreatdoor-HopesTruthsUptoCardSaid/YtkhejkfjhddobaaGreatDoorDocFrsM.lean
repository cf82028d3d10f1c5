/- The open nodes of a Hopes stay the document's, event by event. Plain. -/
import Derived.Test.YtkhejkfjhddobaaGreatDoorDocDM
import Derived.Test.YtkhejkfjhddobaaGreatDoorHEncM
import Derived.Sort.Walk0
set_option linter.unusedSimpArgs false
namespace Go.Proofs.YtkhejkfjhddobaaGreatDoor
open Go.RowKit Gim
/-! ### texts of characters -/
def ChT (s : ByteArray) : Prop := Lib.validD s.data.toList = true
theorem chT_empty : ChT ByteArray.empty := by unfold ChT; decide +kernel
theorem chT_encs {s : ByteArray} (h : ChT s) : encs (rs s) = s.data.toList := by
 have h1 := valid_reads s s.size 0 (by omega) (by rw [List.drop_zero]; exact h)
 rwa [List.drop_zero] at h1
theorem app_list (a b : ByteArray) : (a ++ b).data.toList = a.data.toList ++ b.data.toList := by
 rw [ByteArray.data_append, Array.toList_append]
theorem rs_app {a b : ByteArray} (ha : ChT a) (hb : ChT b) : rs (a ++ b) = rs a ++ rs b ∧ ChT (a ++ b) := by
 have h : (a ++ b).data.toList.drop 0 = encs (rs a ++ rs b) := by rw [List.drop_zero, app_list, encs_append, chT_encs ha, chT_encs hb]
 have := read_encs (fun r hr => by
  rcases List.mem_append.1 hr with hr | hr
  ·exact rs_ch a r hr
  ·exact rs_ch b r hr) h
 refine ⟨this.1, ?_⟩
 have h2 : val (a ++ b) 0 = true := this.2
 unfold val at h2
 rwa [List.drop_zero] at h2
/-! ### nets that fit -/
structure NetFit2 (nd : NetD) : Prop where
 fit : NetFit nd
 row : ∀ i, i < nd.rows.length → (0 ≤ (nd.rows.getD i zr).ax ∧ (nd.rows.getD i zr).ax ≤ 3) ∧ (0 ≤ (nd.rows.getD i zr).ts ∧ (nd.rows.getD i zr).ts ≤ 3)
 cmp : ∀ p, p < nd.preds.length → opP nd p = 3 → (0 ≤ (nd.preds.getD p zp).cmp ∧ (nd.preds.getD p zp).cmp ≤ 8) ∧ 0 ≤ (nd.preds.getD p zp).num
theorem NetFit2.rowP {nd : NetD} (h : NetFit2 nd) {p j : Nat} (hp : p < nd.preds.length) (hj : j < cntP nd p) : fstP nd p + j < nd.rows.length := by
 have := h.fit.dag.rows p hp
 unfold cntP at hj
 unfold fstP
 omega
section
variable {D : DocD} {nd : NetD} {m nx : Int} {f : FrS}
theorem node_cmp (hN : NetFit2 nd) (hf : NodF D nd m nx f) {p : Nat} (hp : p < nd.preds.length) (h3 : opP nd p = 3) : cmpF f p (nd.preds.getD p zp).attr (nd.preds.getD p zp).cmp = endP D nd p m := by
 unfold cmpF
 by_cases ha : (nd.preds.getD p zp).attr.toList ≠ []
 ·rw [if_pos ha]
  exact hf.attrs p hp h3 ha
 ·have ha' := Classical.not_not.1 ha
  have hc := hN.cmp p hp h3
  rw [if_neg ha]
  unfold endP cmpD
  rw [if_neg ha]
  by_cases h0 : (nd.preds.getD p zp).cmp = 0
  ·rw [if_pos h0, h0]
   split <;> rfl
  ·rw [if_neg h0, hf.hunts p hp h3 ha' h0]
   show tB _ _ _ _ _ = _
   cases ho : opnD D m
   ·rw [if_neg (by decide)]
    show tB _ _ _ _ true = _
    rw [whole_want hc.1.1 hc.1.2]
    unfold trD
    have e : wantB (nd.preds.getD p zp).cmp (numN (nd.preds.getD p zp).num) (rs (nd.preds.getD p zp).txt) (rs (valD D m)) = cmpW (nd.preds.getD p zp).cmp (rs (nd.preds.getD p zp).txt) (rs (valD D m)) (nd.preds.getD p zp).num := want_cmp hc.1 hc.2
    rw [e]
   ·rw [if_pos rfl]
    exact came_told hc.1 hc.2
theorem node_test (hk : 0 ≤ m → (ndAt D m).ev.kd = 0 ∨ (ndAt D m).ev.kd = 1) (hf : NodF D nd m nx f) {ts : Int} (hts : 0 ≤ ts ∧ ts ≤ 3) (nm : ByteArray) : testF f ts nm = trD (meetD D ts nm m) := by
 have e1 := hf.kind
 have e2 := hf.name
 unfold testF meetD
 by_cases hm : m < 0
 ·rw [if_pos hm] at e1
  obtain rfl | rfl | rfl | rfl : ts = 0 ∨ ts = 1 ∨ ts = 2 ∨ ts = 3 := by omega
  all_goals simp [e1, hm, trD]
 ·rw [if_neg hm] at e1
  have e2 := e2 (by omega)
  have hk := hk (by omega)
  by_cases h0 : (ndAt D m).ev.kd = 0
  ·rw [if_pos h0] at e1
   obtain rfl | rfl | rfl | rfl : ts = 0 ∨ ts = 1 ∨ ts = 2 ∨ ts = 3 := by omega
   all_goals simp [e1, hm, trD, h0, e2]
  ·rw [if_neg h0] at e1
   obtain rfl | rfl | rfl | rfl : ts = 0 ∨ ts = 1 ∨ ts = 2 ∨ ts = 3 := by omega
   all_goals simp [e1, hm, trD, h0]
theorem node_frD (hN : NetFit2 nd) (hk : 0 ≤ m → (ndAt D m).ev.kd = 0 ∨ (ndAt D m).ev.kd = 1) (hf : NodF D nd m nx f) {ib : Option (List Int × List Int)} (hi : InB D nd m nx ib) (h2 : ∀ v, m < v → v < nx → ∀ p j, Two2 (herD D nd p j v)) (hlt : nx ≤ lastD D m + 1) :
  FrD D nd m f (opnD D m) ib :=
 ⟨fun _ hp h3 => node_cmp hN hf hp h3, fun _ _ hp _ hj => node_test hk hf (hN.row _ (hN.rowP hp hj)).2 _, fun _ _ hp h3 hj => along_ref hf hi h2 hlt hp h3 hj (hN.row _ (hN.rowP hp hj)).1⟩
end
/-! ### attributes -/
theorem less_trans {a b c : List UInt8} (h1 : Op.bytesLess a b = true) (h2 : Op.bytesLess b c = true) : Op.bytesLess a c = true := by
 rw [bytesLess_eq, decide_eq_true_eq] at h1 h2 ⊢
 exact List.lt_trans h1 h2
theorem less_self (a : List UInt8) : Op.bytesLess a a = false := by
 rw [bytesLess_eq, decide_eq_false_iff_not]
 exact List.lt_irrefl a
theorem ats_rise {l : List (ByteArray × ByteArray)} (h : atsB l = true) : ∀ (k i : Nat), i + k + 1 < l.length → Op.bytesLess (l.getD i za).1.toList (l.getD (i + k + 1) za).1.toList = true := by
 have h1 : ∀ i, i + 1 < l.length → Op.bytesLess (l.getD i za).1.toList (l.getD (i + 1) za).1.toList = true := fun i hi => by
  unfold atsB atsTo at h
  rw [List.all_eq_true] at h
  have := h (i + 1) (List.mem_range.2 hi)
  unfold atB at this
  simp only [jb, Bool.or_eq_true, decide_eq_true_eq] at this
  rcases this.2 with h2 | h2
  ·omega
  ·exact h2
 intro k
 induction k with
 | zero => exact fun i hi => h1 i hi
 | succ k ih => exact fun i hi => less_trans (ih i (by omega)) (h1 (i + k + 1) hi)
theorem ats_apart {l : List (ByteArray × ByteArray)} (h : atsB l = true) : l.Pairwise fun a b => a.1 ≠ b.1 := by
 rw [List.pairwise_iff_getElem]
 intro i j hi hj hij e
 have := ats_rise h (j - i - 1) i (by omega)
 rw [show i + (j - i - 1) + 1 = j by omega, jg, jg, jk hi, jk hj] at this
 simp only [Option.getD_some] at this
 rw [e, less_self] at this
 cases this
theorem attrOf_cons (a : ByteArray × ByteArray) (r : List (ByteArray × ByteArray)) (nm : ByteArray) : attrOf (a :: r) nm = if a.1 = nm then some a.2 else attrOf r nm := by
 unfold attrOf
 rw [List.find?_cons]
 by_cases e : a.1 = nm
 ·rw [if_pos e, decide_eq_true e]
  rfl
 ·rw [if_neg e, decide_eq_false e]
theorem attrOf_none {nm : ByteArray} : ∀ {r : List (ByteArray × ByteArray)}, (∀ b ∈ r, b.1 ≠ nm) → attrOf r nm = none
 | [], _ => rfl
 | b :: r, h => by
  rw [attrOf_cons, if_neg (h b List.mem_cons_self)]
  exact attrOf_none fun c hc => h c (List.mem_cons_of_mem _ hc)
theorem ask_fold (p : PredD) : ∀ (l : List (ByteArray × ByteArray)), (l.Pairwise fun a b => a.1 ≠ b.1) → ∀ acc : Int, l.foldl (fun acc a => if a.1 = p.attr then wholeF p a.2 else acc) acc = match attrOf l p.attr with | none => acc | some s => wholeF p s
 | [], _, acc => rfl
 | a :: r, h, acc => by
  obtain ⟨h1, h2⟩ := List.pairwise_cons.1 h
  rw [List.foldl_cons, ask_fold p r h2, attrOf_cons]
  by_cases e : a.1 = p.attr
  ·rw [if_pos e, if_pos e, attrOf_none fun b hb hbe => h1 b hb (e.trans hbe.symm)]
  ·rw [if_neg e, if_neg e]
theorem attr_open {nd : NetD} (hN : NetFit2 nd) {k : Int} {nm : ByteArray} {ats : List (ByteArray × ByteArray)} (ha : atsB ats = true) {p : Nat} (hp : p < nd.preds.length) (h3 : opP nd p = 3) (hat : (nd.preds.getD p zp).attr.toList ≠ []) :
  (openF nd k nm ats).attrs.getD p 0 = match attrOf ats (nd.preds.getD p zp).attr with | none => 0 | some s => trD (cmpW (nd.preds.getD p zp).cmp (rs (nd.preds.getD p zp).txt) (rs s) (nd.preds.getD p zp).num) := by
 have hc := hN.cmp p hp h3
 show (preL nd.preds.length (attrG nd ats) 0 nd.preds.length).getD p 0 = _
 rw [preL_all, jg, List.getElem?_map, List.getElem?_range hp]
 show attrG nd ats p = _
 unfold attrG
 rw [if_pos ⟨h3, hat⟩]
 unfold askA
 rw [ask_fold _ _ (ats_apart ha)]
 cases attrOf ats (nd.preds.getD p zp).attr with
 | none => rfl
 | some s =>
  show wholeF _ s = _
  unfold wholeF
  rw [whole_want hc.1.1 hc.1.2, want_cmp hc.1 hc.2]
  rfl
theorem hunt_open {nd : NetD} {k : Int} {nm : ByteArray} {ats : List (ByteArray × ByteArray)} {p : Nat} (hp : p < nd.preds.length) (h3 : opP nd p = 3) (hat : (nd.preds.getD p zp).attr.toList = []) (h0 : (nd.preds.getD p zp).cmp ≠ 0) :
  (openF nd k nm ats).hunts.getD p none = some ⟨(nd.preds.getD p zp).cmp, numN (nd.preds.getD p zp).num, askedT (nd.preds.getD p zp).cmp (nd.preds.getD p zp).txt, [], false⟩ := by
 show (preL nd.preds.length (huntG nd) none nd.preds.length).getD p none = _
 rw [preL_all, jg, List.getElem?_map, List.getElem?_range hp]
 show huntG nd p = _
 unfold huntG
 rw [if_pos ⟨h3, hat, h0⟩]
section
variable {D D' : DocD} {nd : NetD} {m nx : Int} {f f' : FrS}
theorem endP_attr {p : Nat} (hat : (nd.preds.getD p zp).attr.toList ≠ []) : endP D nd p m = if m < 0 then 0 else match attrOf (ndAt D m).ev.ats (nd.preds.getD p zp).attr with | none => 0 | some s => trD (cmpW (nd.preds.getD p zp).cmp (rs (nd.preds.getD p zp).txt) (rs s) (nd.preds.getD p zp).num) := by
 unfold endP cmpD
 rw [if_pos hat]
 rfl
theorem node_mk (hN : NetFit2 nd) {k : Int} {nm : ByteArray} {ats : List (ByteArray × ByteArray)} (hk : k = if m < 0 then 0 else if (ndAt D m).ev.kd = 0 then 1 else 2) (hnm : 0 ≤ m → nm = (ndAt D m).ev.nm) (hats : if m < 0 then ats = [] else ats = (ndAt D m).ev.ats) (ha : atsB ats = true)
  (hf : f.kind = k ∧ f.name = nm ∧ f.child = (openF nd k nm ats).child ∧ f.deep = (openF nd k nm ats).deep ∧ f.attrs = (openF nd k nm ats).attrs)
  (hh : ∀ p s, (openF nd k nm ats).hunts.getD p none = some s → s.l = [] → s.whole = false → f.hunts.getD p none = some ⟨s.c, s.N, s.T, rs (valD D m), !opnD D m⟩) (hnx : nx = m + 1) : NodF D nd m nx f := by
 obtain ⟨e1, e2, e3, e4, e5⟩ := hf
 have hF : ∀ i, (List.replicate nd.rows.length false).getD i false = true ↔ False := fun i => by
  rw [jg, List.getElem?_replicate]
  split <;> simp
 refine ⟨e1.trans hk, fun h => e2.trans (hnm h), by rw [e3]; exact List.length_replicate, by rw [e4]; exact List.length_replicate, fun p hp h3 hat => ?_, fun p hp h3 hat h0 => ?_, fun p j hp h3 hj => ?_, fun p j hp h3 hj => ?_⟩
 ·rw [e5, attr_open hN ha hp h3 hat, endP_attr hat]
  by_cases hm : m < 0
  ·rw [if_pos hm] at hats ⊢
   rw [hats]
   rfl
  ·rw [if_neg hm] at hats ⊢
   rw [hats]
 ·exact hh p _ (hunt_open hp h3 hat h0) rfl rfl
 ·rw [e3]
  refine (hF _).trans ⟨fun h => h.elim, ?_⟩
  rintro ⟨u, h1, h2, _⟩
  omega
 ·rw [e4]
  refine (hF _).trans ⟨fun h => h.elim, ?_⟩
  rintro ⟨u, h1, h2, _⟩
  omega
theorem NodF.turn (h : NodF D nd m nx f) (e : f'.kind = f.kind ∧ f'.name = f.name ∧ f'.child = f.child ∧ f'.deep = f.deep ∧ f'.attrs = f.attrs)
  (hh : ∀ p s, f.hunts.getD p none = some s → s.l = rs (valD D m) → s.whole = (!opnD D m) → f'.hunts.getD p none = some ⟨s.c, s.N, s.T, rs (valD D' m), !opnD D' m⟩) (hev : 0 ≤ m → (ndAt D' m).ev = (ndAt D m).ev)
  (hs : ∀ u, m < u → u < nx → (ndAt D' u).par = (ndAt D u).par ∧ ∀ p j, herD D' nd p j u = herD D nd p j u) : NodF D' nd m nx f' := by
 obtain ⟨e1, e2, e3, e4, e5⟩ := e
 refine ⟨?_, fun h0 => ?_, by rw [e3]; exact h.cl, by rw [e4]; exact h.dl, fun p hp h3 hat => ?_, fun p hp h3 hat h0 => ?_, fun p j hp h3 hj => ?_, fun p j hp h3 hj => ?_⟩
 ·rw [e1, h.kind]
  by_cases hm : m < 0
  ·rw [if_pos hm, if_pos hm]
  ·rw [if_neg hm, if_neg hm, hev (by omega)]
 ·rw [e2, h.name h0, hev h0]
 ·rw [e5, h.attrs p hp h3 hat, endP_attr hat, endP_attr hat]
  by_cases hm : m < 0
  ·rw [if_pos hm, if_pos hm]
  ·rw [if_neg hm, if_neg hm, hev (by omega)]
 ·exact hh p _ (h.hunts p hp h3 hat h0) rfl rfl
 ·rw [e3, h.ch p j hp h3 hj]
  constructor
  ·rintro ⟨u, k1, k2, k3, k4⟩
   exact ⟨u, k1, k2, by rw [(hs u k1 k2).1]; exact k3, by rw [(hs u k1 k2).2]; exact k4⟩
  ·rintro ⟨u, k1, k2, k3, k4⟩
   exact ⟨u, k1, k2, by rw [← (hs u k1 k2).1]; exact k3, by rw [← (hs u k1 k2).2]; exact k4⟩
 ·rw [e4, h.dp p j hp h3 hj]
  constructor
  ·rintro ⟨u, k1, k2, k4⟩
   exact ⟨u, k1, k2, by rw [(hs u k1 k2).2]; exact k4⟩
  ·rintro ⟨u, k1, k2, k4⟩
   exact ⟨u, k1, k2, by rw [← (hs u k1 k2).2]; exact k4⟩
theorem hunts_map {hs : List (Option HuS)} {g : HuS → HuS} {p : Nat} {s : HuS} (h : hs.getD p none = some s) : (hs.map (Option.map g)).getD p none = some (g s) := by
 rw [jg] at h ⊢
 rw [List.getElem?_map]
 cases e : hs[p]? with
 | none => rw [e] at h; cases h
 | some o =>
  rw [e] at h
  cases o with
  | none => cases h
  | some t =>
   simp only [Option.getD_some, Option.some.injEq] at h
   subst h
   rfl
theorem NodF.met (hN : NetFit2 nd) (h : NodF D nd m nx f) {g : FrS} {nx' : Int} (hg : NodF D nd nx nx' g) (hlt : m < nx ∧ nx < nx') (hpx : (ndAt D nx).par = m) (hp : ∀ u, nx < u → u < nx' → (ndAt D u).par ≠ m) {here : List Int}
  (hh : ∀ p j, p < nd.preds.length → opP nd p = 3 → j < cntP nd p → here.getD (fstP nd p + j) 0 = herD D nd p j nx) : NodF D nd m nx' (metFr here g f) := by
 have hC : ∀ i, i < nd.rows.length → ((metFr here g f).child.getD i false = true ↔ f.child.getD i false = true ∨ here.getD i 0 = 2) := fun i hi => by
  show (metC here f).getD i false = true ↔ _
  unfold metC
  rw [jg, List.getElem?_map, List.getElem?_range (by rw [h.cl]; exact hi)]
  simp
 have hD : ∀ i, i < nd.rows.length → ((metFr here g f).deep.getD i false = true ↔ (f.deep.getD i false = true ∨ here.getD i 0 = 2) ∨ g.deep.getD i false = true) := fun i hi => by
  show (metD here g f).getD i false = true ↔ _
  unfold metD
  rw [jg, List.getElem?_map, List.getElem?_range (by rw [h.dl]; exact hi)]
  simp
 refine ⟨h.kind, h.name, by show (metC here f).length = _; unfold metC; simp [h.cl], by show (metD here g f).length = _; unfold metD; simp [h.dl], h.attrs, h.hunts, fun p j hp' h3 hj => ?_, fun p j hp' h3 hj => ?_⟩
 ·rw [hC _ (hN.rowP hp' hj), h.ch p j hp' h3 hj, hh p j hp' h3 hj]
  constructor
  ·rintro (⟨u, k1, k2, k3, k4⟩ | k)
   ·exact ⟨u, k1, by omega, k3, k4⟩
   ·exact ⟨nx, hlt.1, hlt.2, hpx, k⟩
  ·rintro ⟨u, k1, k2, k3, k4⟩
   by_cases e1 : u < nx
   ·exact .inl ⟨u, k1, e1, k3, k4⟩
   ·by_cases e2 : u = nx
    ·subst e2
     exact .inr k4
    ·exact absurd k3 (hp u (by omega) k2)
 ·rw [hD _ (hN.rowP hp' hj), h.dp p j hp' h3 hj, hg.dp p j hp' h3 hj, hh p j hp' h3 hj]
  constructor
  ·rintro ((⟨u, k1, k2, k4⟩ | k) | ⟨u, k1, k2, k4⟩)
   ·exact ⟨u, k1, by omega, k4⟩
   ·exact ⟨nx, hlt.1, hlt.2, k⟩
   ·exact ⟨u, by omega, k2, k4⟩
  ·rintro ⟨u, k1, k2, k4⟩
   by_cases e1 : u < nx
   ·exact .inl (.inl ⟨u, k1, e1, k4⟩)
   ·by_cases e2 : u = nx
    ·subst e2
     exact .inl (.inr k4)
    ·exact .inr ⟨u, by omega, k2, k4⟩
end
structure FrsD (D : DocD) (op : List Int) (nd : NetD) (fs : List FrS) : Prop where
 len : fs.length = op.length + 1
 at_ : ∀ d, d ≤ op.length → NodF D nd (pthAt op d) (nxtAt D op d) (fs.getD d fr0)
section
variable {D D' : DocD} {op : List Int} {nd : NetD} {fs : List FrS}
theorem pth_mem {d : Nat} (h0 : 0 < d) (hd : d ≤ op.length) : pthAt op d ∈ op := by
 unfold pthAt
 rw [if_neg (by omega)]
 exact mem_getD (by omega)
theorem pth_succ {d : Nat} (hd : d < op.length) : pthAt op (d + 1) = nxtAt D op d := by
 unfold pthAt nxtAt
 rw [if_neg (by omega), if_pos hd]
 rfl
theorem pth_range (h : DocOk D op) {d : Nat} (hd : d ≤ op.length) : -1 ≤ pthAt op d ∧ pthAt op d < nxtAt D op d ∧ nxtAt D op d ≤ D.nodes.length := by
 have hn : d < op.length → 0 ≤ op.getD d 0 ∧ op.getD d 0 < D.nodes.length := fun h1 => h.rng _ (mem_getD h1)
 by_cases h0 : d = 0
 ·subst h0
  unfold pthAt nxtAt
  rw [if_pos rfl]
  split
  ·rename_i h1
   have := hn h1
   omega
  ·omega
 ·have hm := h.rng _ (pth_mem (d := d) (by omega) hd)
  refine ⟨by omega, ?_, ?_⟩
  ·unfold pthAt nxtAt at *
   rw [if_neg h0] at hm ⊢
   split
   ·exact rise_lt h.rise (by omega) (by assumption)
   ·omega
  ·unfold nxtAt
   split
   ·rename_i h1
    have := hn h1
    omega
   ·omega
theorem between (h : DocOk D op) {d : Nat} (hd : d ≤ op.length) {u : Int} (h1 : pthAt op d < u) (h2 : u < nxtAt D op d) : 0 ≤ u ∧ u < D.nodes.length ∧ 0 ≤ (ndAt D u).clo := by
 have hr := pth_range h hd
 refine ⟨by omega, by omega, Int.not_lt.1 fun hc => ?_⟩
 have hu := (h.opn u (by omega) (by omega)).1 hc
 obtain ⟨i, hi, e⟩ := List.mem_iff_getElem.1 hu
 have e : op.getD i 0 = u := by rw [jg, jk hi]; exact e
 by_cases hid : i < d
 ·unfold pthAt at h1
  rw [if_neg (by omega)] at h1
  by_cases e2 : i = d - 1
  ·subst e2
   omega
  ·have := rise_lt h.rise (show i < d - 1 by omega) (by omega)
   omega
 ·unfold nxtAt at h2
  rw [if_pos (by omega)] at h2
  by_cases e2 : i = d
  ·subst e2
   omega
  ·have := rise_lt h.rise (show d < i by omega) hi
   omega
theorem two_between (h : DocOk D op) {d : Nat} (hd : d ≤ op.length) {u : Int} (h1 : pthAt op d < u) (h2 : u < nxtAt D op d) (p j : Nat) : Two2 (herD D nd p j u) := by
 obtain ⟨k1, k2, k3⟩ := between h hd h1 h2
 obtain ⟨r1, _, r2, r3⟩ := h.rngs u k1 k2 k3
 exact herD_two r2 r3 nd p j (Int.le_refl _) r1
theorem stay_between (h : DocOk D op) (hK : KeepD D D') {d : Nat} (hd : d ≤ op.length) {u : Int} (h1 : pthAt op d < u) (h2 : u < nxtAt D op d) : (ndAt D' u).par = (ndAt D u).par ∧ ∀ p j, herD D' nd p j u = herD D nd p j u := by
 obtain ⟨k1, k2, k3⟩ := between h hd h1 h2
 obtain ⟨r1, r0, r2, r3⟩ := h.rngs u k1 k2 k3
 exact ⟨by rw [hK.2 u k1 k2 k3], fun p j => herD_agr r2 (hK.agr k1 r0 r3) nd p j (Int.le_refl _) r1⟩
theorem pth_last (h : DocOk D op) {d : Nat} (hd : d ≤ op.length) : lastD D (pthAt op d) = (D.nodes.length : Int) - 1 := by
 by_cases h0 : d = 0
 ·subst h0
  unfold pthAt lastD
  rw [if_pos rfl, if_pos (by decide)]
 ·have hm := pth_mem (d := d) (by omega) hd
  rw [lastD_pos (h.rng _ hm).1]
  exact h.lst _ hm
theorem pth_open (h : DocOk D op) {d : Nat} (hd : d ≤ op.length) : opnD D (pthAt op d) = (decide (0 < d) || !D.closed) := by
 by_cases h0 : d = 0
 ·subst h0
  unfold pthAt opnD
  rw [if_pos rfl, if_pos (by decide)]
  simp
 ·have hm := pth_mem (d := d) (by omega) hd
  have hr := h.rng _ hm
  rw [opnD_pos hr.1, decide_eq_true ((h.opn _ hr.1 hr.2).2 hm), decide_eq_true (show 0 < d by omega)]
  rfl
theorem pth_kd (h : DocOk D op) {d : Nat} (hd : d ≤ op.length) (h0 : 0 ≤ pthAt op d) : (ndAt D (pthAt op d)).ev.kd = 0 ∨ (ndAt D (pthAt op d)).ev.kd = 1 := by
 have hr := pth_range h hd
 exact h.kd _ h0 (by omega)
theorem nxt_par (h : DocOk D op) {d : Nat} (hd : d < op.length) : (ndAt D (nxtAt D op d)).par = pthAt op d := by
 unfold nxtAt
 rw [if_pos hd, h.parO d hd]
 unfold parOf pthAt
 rw [List.length_take, Nat.min_eq_left (by omega)]
 by_cases h0 : d = 0
 ·rw [if_pos h0, if_pos h0]
 ·rw [if_neg h0, if_neg h0, jg, List.getElem?_take_of_lt (by omega), ← jg]
theorem behind_par (h : DocOk D op) {d : Nat} (hd : d < op.length) {v : Int} (h1 : nxtAt D op d < v) (h2 : v < D.nodes.length) : (ndAt D v).par ≠ pthAt op d := by
 have hr := pth_range h (Nat.le_of_lt hd)
 have e : nxtAt D op d = op.getD d 0 := by unfold nxtAt; rw [if_pos hd]
 have := h.parLo _ (mem_getD hd) v (by omega) h2
 omega
theorem all_ref (hN : NetFit2 nd) (h : DocOk D op) (hf : FrsD D op nd fs) {d : Nat} (hd : d ≤ op.length) {ib : Option (List Int × List Int)} (hi : InB D nd (pthAt op d) (nxtAt D op d) ib) {p j : Nat} (hp : p < nd.preds.length) (h3 : opP nd p = 3) (hj : j < cntP nd p) (c : Int) :
  (allsF nd.rows.length (fs.getD d fr0) ib).getD (fstP nd p + j) 0 ≤ c ↔ 0 ≤ c ∧ ∀ v, pthAt op d < v → v ≤ lastD D (pthAt op d) → herD D nd p j v ≤ c := by
 have hfd := hf.at_ d hd
 have hr := herD_range D nd p j
 have hdp := hfd.dp p j hp h3 hj
 have hpr := pth_range h hd
 have hl := pth_last h hd
 have e : (allsF nd.rows.length (fs.getD d fr0) ib).getD (fstP nd p + j) 0 = allF (fs.getD d fr0) ib (fstP nd p + j) := by
  unfold allsF
  rw [jg, List.getElem?_map, List.getElem?_range (hN.rowP hp hj)]
  rfl
 rw [e]
 unfold allF
 have hfst : (if (fs.getD d fr0).deep.getD (fstP nd p + j) false then (2 : Int) else 0) ≤ c ↔ 0 ≤ c ∧ ∀ v, pthAt op d < v → v < nxtAt D op d → herD D nd p j v ≤ c := by
  split
  ·rename_i hx
   constructor
   ·intro hc
    exact ⟨by omega, fun v _ _ => by have := hr v; omega⟩
   ·rintro ⟨_, hc⟩
    obtain ⟨u, k1, k2, k4⟩ := hdp.1 hx
    have := hc u k1 k2
    omega
  ·rename_i hx
   constructor
   ·intro hc
    refine ⟨hc, fun v k1 k2 => ?_⟩
    rcases two_between (nd := nd) h hd k1 k2 p j with e | e
    ·omega
    ·exact absurd (hdp.2 ⟨v, k1, k2, e⟩) hx
   ·exact fun hc => hc.1
 cases ib with
 | none =>
  have hx : nxtAt D op d = lastD D (pthAt op d) + 1 := hi
  show (if _ then (2 : Int) else 0) ≤ c ↔ _
  rw [hfst]
  constructor
  ·rintro ⟨k, k2⟩
   exact ⟨k, fun v k3 k4 => k2 v k3 (by omega)⟩
  ·rintro ⟨k, k2⟩
   exact ⟨k, fun v k3 k4 => k2 v k3 (by omega)⟩
 | some q =>
  obtain ⟨g1, g2, g3, g4, g5⟩ := hi
  obtain ⟨e1, e2⟩ := g5 p j hp h3 hj
  show orF [_, _, _] ≤ c ↔ _
  have hr2 : 0 ≤ q.2.getD (fstP nd p + j) 0 ∧ q.2.getD (fstP nd p + j) 0 ≤ 2 := le_range e2 fun v _ _ => (hr v).2
  have hr1 := hr (nxtAt D op d)
  rw [orF_le' (fun x hx => by
   simp only [List.mem_cons, List.not_mem_nil, or_false] at hx
   rcases hx with rfl | rfl | rfl
   ·split <;> omega
   ·rw [e1]; exact hr1
   ·exact hr2)]
  constructor
  ·rintro ⟨k0, k⟩
   have a1 := hfst.1 (k _ (by simp))
   have a2 := k (q.1.getD (fstP nd p + j) 0) (by simp)
   have a3 := (e2 c).1 (k (q.2.getD (fstP nd p + j) 0) (by simp))
   refine ⟨k0, fun v k3 k4 => ?_⟩
   by_cases w1 : v < nxtAt D op d
   ·exact a1.2 v k3 w1
   ·by_cases w2 : v = nxtAt D op d
    ·rw [w2, ← e1]; exact a2
    ·exact a3.2 v (by omega) k4
  ·rintro ⟨k0, k⟩
   refine ⟨k0, fun x hx => ?_⟩
   simp only [List.mem_cons, List.not_mem_nil, or_false] at hx
   rcases hx with rfl | rfl | rfl
   ·exact hfst.2 ⟨k0, fun v k3 k4 => k v k3 (by omega)⟩
   ·rw [e1]; exact k _ g1 g2
   ·exact (e2 c).2 ⟨k0, fun v k3 k4 => k v (by omega) k4⟩
theorem in_next (hN : NetFit2 nd) (h : DocOk D op) (hf : FrsD D op nd fs) {d : Nat} (hd : d < op.length) {ib : Option (List Int × List Int)} (hi : InB D nd (pthAt op (d + 1)) (nxtAt D op (d + 1)) ib) :
  InB D nd (pthAt op d) (nxtAt D op d) (some ((findF nd (fs.getD (d + 1) fr0) (opnD D (pthAt op (d + 1))) ib).2, allsF nd.rows.length (fs.getD (d + 1) fr0) ib)) := by
 have hr := pth_range h (Nat.le_of_lt hd)
 have hl := pth_last h (Nat.le_of_lt hd)
 have hr2 := pth_range h (show d + 1 ≤ op.length from hd)
 have hl2 := pth_last h (show d + 1 ≤ op.length from hd)
 have hd1 : d + 1 ≤ op.length := hd
 have hF := node_frD hN (pth_kd h hd1) (hf.at_ (d + 1) hd1) hi (fun v k1 k2 p j => two_between h hd1 k1 k2 p j) (by omega)
 have hfind := (find_ref hN.fit hF).2
 have e := pth_succ (D := D) hd
 refine ⟨hr.2.1, by omega, nxt_par h hd, fun v k1 k2 => behind_par h hd k1 (by omega), fun p j hp h3 hj => ⟨?_, fun c => ?_⟩⟩
 ·rw [← e]
  exact hfind p j hp h3 hj
 ·rw [all_ref hN h hf hd1 hi hp h3 hj, hl, hl2, e]
theorem know_in (hN : NetFit2 nd) (h : DocOk D op) (hf : FrsD D op nd fs) : ∀ k d, d + k = op.length → InB D nd (pthAt op d) (nxtAt D op d) (knowS nd fs D.closed (fs.length - (d + 1))).2
 | 0, d, hd => by
  have hl := pth_last h (d := d) (by omega)
  rw [show fs.length - (d + 1) = 0 by have := hf.len; omega]
  show nxtAt D op d = lastD D (pthAt op d) + 1
  rw [hl]
  unfold nxtAt
  rw [if_neg (by omega)]
  omega
 | k + 1, d, hd => by
  have ih := know_in hN h hf k (d + 1) (by omega)
  have hlen := hf.len
  have e := knowS_next nd fs D.closed (show d + 1 < fs.length by omega)
  rw [e, ← pth_open h (show d + 1 ≤ op.length by omega)]
  exact in_next hN h hf (by omega) ih
theorem know_frD (hN : NetFit2 nd) (h : DocOk D op) (hf : FrsD D op nd fs) {d : Nat} (hd : d ≤ op.length) : FrD D nd (pthAt op d) (fs.getD d fr0) (decide (0 < d) || !D.closed) (knowS nd fs D.closed (fs.length - (d + 1))).2 := by
 have hr := pth_range h hd
 have hl := pth_last h hd
 rw [← pth_open h hd]
 exact node_frD hN (pth_kd h hd) (hf.at_ d hd) (know_in hN h hf (op.length - d) d (by omega)) (fun v k1 k2 p j => two_between h hd k1 k2 p j) (by omega)
theorem knowS_getD (nd : NetD) (fs : List FrS) (dn : Bool) {d : Nat} (hd : d < fs.length) : ∀ k p, p + k = d → ((knowS nd fs dn (fs.length - p)).1.getD k []) = (findF nd (fs.getD d fr0) (decide (0 < d) || !dn) (knowS nd fs dn (fs.length - (d + 1))).2).1
 | 0, p, hp => by
  obtain rfl : p = d := by omega
  rw [knowS_next nd fs dn hd]
  rfl
 | k + 1, p, hp => by
  rw [knowS_next nd fs dn (show p < fs.length by omega), List.getD_cons_succ]
  exact knowS_getD nd fs dn hd k (p + 1) (by omega)
theorem know_truth (hN : NetFit2 nd) (h : DocOk D op) (hf : FrsD D op nd fs) {d : Nat} (hd : d ≤ op.length) {k : Nat} (hk : k < nd.preds.length) : truthF nd fs D.closed d k = exD D (xN nd k) (pthAt op d) := by
 have hlen := hf.len
 unfold truthF knowF
 have e := knowS_getD nd fs D.closed (d := d) (by omega) d 0 (by omega)
 rw [Nat.sub_zero] at e
 rw [e]
 exact (find_ref hN.fit (know_frD hN h hf hd)).1 k hk
end
theorem getD_modify {α : Type} {l : List α} {g : α → α} {i d : Nat} (hd : d < l.length) (z : α) : (l.modify i g).getD d z = if d = i then g (l.getD d z) else l.getD d z := by
 rw [jg, jg, List.getElem?_modify, jk hd]
 by_cases e : d = i
 ·subst e
  simp
 ·have e2 : ¬ i = d := fun h => e h.symm
  simp [e, e2]
theorem getD_map {α β : Type} {l : List α} {g : α → β} {d : Nat} (hd : d < l.length) (z : α) (y : β) : (l.map g).getD d y = g (l.getD d z) := by
 rw [jg, jg, List.getElem?_map, jk hd]
 rfl
theorem getD_drop {α : Type} {l : List α} {d : Nat} (hd : d < l.length - 1) (z : α) : l.dropLast.getD d z = l.getD d z := by
 rw [jg, jg, List.getElem?_dropLast, if_pos hd]
theorem getD_app {α : Type} {l t : List α} {d : Nat} (hd : d < l.length) (z : α) : (l ++ t).getD d z = l.getD d z := by
 rw [jg, jg, List.getElem?_append_left hd]
theorem getD_app1 {α : Type} {l : List α} (x z : α) : (l ++ [x]).getD l.length z = x := by
 rw [jg, List.getElem?_append_right (jr _), Nat.sub_self]
 rfl
def docS (S : NdS) (c : Bool) : DocD := ⟨S.nodes, c⟩
structure RunD (nd : NetD) (es : List EvD) (i : Nat) (s : CkS) (fs : List FrS) : Prop where
 ok : DocOk (docS (ndsN es i) s.dn) (ndsN es i).op
 num : s.num = (ndsN es i).nodes.length
 os : (ndsN es i).op = s.os.map (·.1)
 root : (ndsN es i).op ≠ [] → 0 ∈ (ndsN es i).op
 chs : ∀ k : Int, 0 ≤ k → k < (ndsN es i).nodes.length → ChT (ndG (ndsN es i).nodes k).val
 frs : FrsD (docS (ndsN es i) s.dn) (ndsN es i).op nd fs
theorem rs_none : rs ⟨#[]⟩ = [] := by
 have := (rs_app (a := ⟨#[]⟩) (b := ⟨#[]⟩) chT_empty chT_empty).1
 have e : ((⟨#[]⟩ : ByteArray) ++ ⟨#[]⟩) = ⟨#[]⟩ := rfl
 rw [e] at this
 have := congrArg List.length this
 rw [jp] at this
 exact List.length_eq_zero_iff.1 (by omega)
theorem RunD.start {nd : NetD} (hN : NetFit2 nd) (es : List EvD) : RunD nd es 0 ck0 [openF nd 0 ByteArray.empty []] := by
 refine ⟨docOk_0 false, rfl, rfl, fun h => absurd rfl h, fun k h0 h1 => absurd h1 (by show ¬ k < ((0 : Nat) : Int); omega), ⟨rfl, fun d hd => ?_⟩⟩
 obtain rfl : d = 0 := by simpa [ndsN] using hd
 exact node_mk hN (k := 0) (nm := ByteArray.empty) (ats := []) rfl (fun h => absurd h (by show ¬ (0 : Int) ≤ -1; decide)) rfl rfl ⟨rfl, rfl, rfl, rfl, rfl⟩ (fun p s hs h1 h2 => by
  show (openF nd 0 ByteArray.empty []).hunts.getD p none = _
  rw [hs]
  obtain ⟨c, N, T, l, wh⟩ := s
  simp only at h1 h2
  subst h1 h2
  have e : rs (valD (docS (ndsN es 0) ck0.dn) (pthAt (ndsN es 0).op 0)) = [] := rs_none
  have e2 : opnD (docS (ndsN es 0) ck0.dn) (pthAt (ndsN es 0).op 0) = true := rfl
  rw [e, e2]
  rfl) rfl
section
variable {nd : NetD} {es : List EvD} {i : Nat} {s : CkS} {fs : List FrS} {e : EvD}
theorem ndsN_next (he : es[i]? = some e) : ndsN es (i + 1) = ndStep (ndsN es i) i e := by
 show ndStep (ndsN es i) i (es.getD i ze) = _
 rw [jg, he]
 rfl
theorem op_len (h : RunD nd es i s fs) : (ndsN es i).op.length = s.os.length := by rw [h.os, List.length_map]
theorem pth_top {op : List Int} (h : op ≠ []) : pthAt op op.length = parOf op := by
 have : 0 < op.length := List.length_pos_iff.2 h
 unfold pthAt parOf
 rw [if_neg (by omega)]
theorem val_path {D D' : DocD} {op : List Int} (h : DocOk D op) (hroot : op ≠ [] → 0 ∈ op) (hchs : ∀ k : Int, 0 ≤ k → k < D.nodes.length → ChT (ndAt D k).val) {tx : ByteArray} (ht : ChT tx) (hl : D'.nodes.length = D.nodes.length + 1) (h0 : op = [] → D.nodes.length = 0 ∧ (ndAt D' 0).val = tx)
  (hO : ∀ k ∈ op, (ndAt D' k).val = (ndAt D k).val ++ tx) {d : Nat} (hd : d ≤ op.length) : rs (valD D' (pthAt op d)) = rs (valD D (pthAt op d)) ++ rs tx := by
 have hin : ∀ k ∈ op, rs (ndAt D' k).val = rs (ndAt D k).val ++ rs tx := fun k hk => by
  have := h.rng k hk
  rw [hO k hk, (rs_app (hchs k this.1 this.2) ht).1]
 by_cases hd0 : d = 0
 ·subst hd0
  unfold pthAt
  rw [if_pos rfl]
  unfold valD
  rw [if_pos (show (-1 : Int) < 0 by decide), if_pos (show (-1 : Int) < 0 by decide), if_neg (show ¬ D'.nodes.length = 0 by omega)]
  by_cases hop : op = []
  ·obtain ⟨k1, k2⟩ := h0 hop
   rw [if_pos k1]
   show rs (ndAt D' 0).val = _
   rw [k2, show rs ByteArray.empty = [] from rs_none, List.nil_append]
  ·have hz := hroot hop
   have := h.rng 0 hz
   rw [if_neg (by omega)]
   exact hin 0 hz
 ·have hm := pth_mem (d := d) (by omega) hd
  have hr := h.rng _ hm
  rw [valD_pos hr.1, valD_pos hr.1]
  exact hin _ hm
theorem run_open (hN : NetFit2 nd) (h : RunD nd es i s fs) (he : es[i]? = some e) (hn : nxtB s e = true) (hk : e.kd = 0) : RunD nd es (i + 1) (stp s e) (takeFs nd (stp s e).dn fs e).1 ∧ (takeFs nd (stp s e).dn fs e).2 = none := by
 unfold nxtB at hn
 rw [if_pos hk] at hn
 simp only [jb, Bool.or_eq_true, opnB, decide_eq_true_eq, Bool.not_eq_true'] at hn
 obtain ⟨hdn, ⟨⟨⟨⟨hnum, hdep⟩, htx⟩, hnm⟩, hats⟩, hfst⟩ := hn
 have es' : stp s e = ⟨s.os ++ [(e.num, e.dep, e.nm)], s.num + 1, false, s.dn⟩ := by unfold stp; rw [if_pos hk]
 have ef : takeFs nd (stp s e).dn fs e = (fs ++ [openF nd 1 e.nm e.ats], none) := by unfold takeFs; rw [if_pos hk]
 have en : ndsN es (i + 1) = ⟨addV e.num e.tx (ndsN es i).op ((ndsN es i).nodes ++ [newN e i (ndsN es i).op]), (ndsN es i).op ++ [e.num]⟩ := by
  rw [ndsN_next he]
  unfold ndStep
  rw [if_neg (by omega), if_pos hk]
 obtain ⟨h1, h2, h3, h4, h5, h6⟩ := h
 have hlo := op_len ⟨h1, h2, h3, h4, h5, h6⟩
 rw [ef, es']
 obtain ⟨S, hS⟩ := je (ndsN es i)
 rw [hS] at h1 h2 h3 h4 h5 h6 en hlo
 have hnN : e.num = (docS S s.dn).nodes.length := by rw [hnum, h2]; rfl
 have hlen : (addV e.num e.tx S.op (S.nodes ++ [newN e i S.op])).length = S.nodes.length + 1 := by rw [addV_len, jp]; rfl
 obtain ⟨D', hD'⟩ := je (docS ⟨addV e.num e.tx S.op (S.nodes ++ [newN e i S.op]), S.op ++ [e.num]⟩ s.dn)
 have hl' : D'.nodes.length = (docS S s.dn).nodes.length + 1 := by rw [← hD']; exact hlen
 have hat : ∀ k : Int, 0 ≤ k → k ≤ (docS S s.dn).nodes.length → ndAt D' k = if k = (docS S s.dn).nodes.length then newN e i S.op else if k ∈ S.op then addTo e.num e.tx (ndAt (docS S s.dn) k) else ndAt (docS S s.dn) k := fun k k0 k1 => by
  rw [← hD']
  exact new_at h1 hnN k0 k1
 have hatN : ndAt D' (docS S s.dn).nodes.length = newN e i S.op := by rw [hat _ (by omega) (Int.le_refl _), if_pos rfl]
 have hatO : ∀ k : Int, 0 ≤ k → k < (docS S s.dn).nodes.length → ndAt D' k = if k ∈ S.op then addTo e.num e.tx (ndAt (docS S s.dn) k) else ndAt (docS S s.dn) k := fun k k0 k1 => by rw [hat k k0 (by omega), if_neg (by omega)]
 obtain ⟨hok, hK⟩ := docOk_new (D := docS S s.dn) (D' := D') (op := S.op) h1 hnN (.inl hk) (op' := S.op ++ [e.num]) (c := -1) hl' (by rw [hatN]; rfl) hatO (.inl ⟨rfl, by decide, hk⟩)
 have hcl : D'.closed = s.dn := by rw [← hD']; rfl
 have hroot0 : S.op = [] → S.nodes.length = 0 := fun h => by
  have : s.os.length = 0 := by rw [← hlo, h]; rfl
  have : s.num = 0 := by rcases hfst with hf | hf <;> omega
  omega
 have hval : ∀ d, d ≤ S.op.length → rs (valD D' (pthAt S.op d)) = rs (valD (docS S s.dn) (pthAt S.op d)) := fun d hd => by
  have := val_path (D' := D') h1 h4 h5 (tx := e.tx) (by rw [htx]; exact chT_empty) hl' (fun hop => by
   have := hroot0 hop
   refine ⟨this, ?_⟩
   have hz : ((docS S s.dn).nodes.length : Int) = 0 := by show ((S.nodes.length : Nat) : Int) = 0; omega
   rw [hz] at hatN
   rw [hatN]
   rfl) (fun k hk2 => by
   have := h1.rng k hk2
   rw [hatO k this.1 this.2, if_pos hk2]
   rfl) hd
  rw [this, htx, rs_none, List.append_nil]
 refine ⟨⟨?_, ?_, ?_, fun _ => ?_, fun k k0 k1 => ?_, ⟨?_, fun d hd => ?_⟩⟩, rfl⟩
 ·rw [en]
  show DocOk (docS ⟨_, _⟩ s.dn) (S.op ++ [e.num])
  rw [hD']
  exact hok
 ·rw [en]
  show s.num + 1 = ((addV e.num e.tx S.op (S.nodes ++ [newN e i S.op])).length : Int)
  rw [hlen, h2]
  rfl
 ·rw [en]
  show S.op ++ [e.num] = (s.os ++ [(e.num, e.dep, e.nm)]).map (·.1)
  rw [List.map_append, ← h3]
  rfl
 ·rw [en]
  show (0 : Int) ∈ S.op ++ [e.num]
  by_cases hop : S.op = []
  ·have := hroot0 hop
   rw [hnum, h2, this]
   simp
  ·exact List.mem_append_left _ (h4 hop)
 ·rw [en] at k1 ⊢
  have k1 : k < ((addV e.num e.tx S.op (S.nodes ++ [newN e i S.op])).length : Int) := k1
  rw [hlen] at k1
  show ChT (ndG (addV e.num e.tx S.op (S.nodes ++ [newN e i S.op])) k).val
  have e1 : ndG (addV e.num e.tx S.op (S.nodes ++ [newN e i S.op])) k = ndAt D' k := by rw [← hD']; rfl
  have kle : k ≤ (docS S s.dn).nodes.length := by show k ≤ (S.nodes.length : Int); omega
  rw [e1, hat k k0 kle]
  by_cases e2 : k = (docS S s.dn).nodes.length
  ·rw [if_pos e2]
   show ChT e.tx
   rw [htx]
   exact chT_empty
  ·rw [if_neg e2]
   have hc := h5 k k0 (by have : k ≠ (S.nodes.length : Int) := e2; omega)
   split
   ·exact (rs_app hc (by rw [htx]; exact chT_empty)).2
   ·exact hc
 ·rw [en]
  show (fs ++ [openF nd 1 e.nm e.ats]).length = (S.op ++ [e.num]).length + 1
  rw [jp, jp, h6.len]
  rfl
 ·rw [en] at hd ⊢
  have hd : d ≤ (S.op ++ [e.num]).length := hd
  rw [jp, List.length_singleton] at hd
  show NodF (docS ⟨_, _⟩ s.dn) nd (pthAt (S.op ++ [e.num]) d) (nxtAt (docS ⟨_, _⟩ s.dn) (S.op ++ [e.num]) d) ((fs ++ [openF nd 1 e.nm e.ats]).getD d fr0)
  rw [hD']
  by_cases hdl : d ≤ S.op.length
  ·have e1 : pthAt (S.op ++ [e.num]) d = pthAt S.op d := by
    unfold pthAt
    split
    ·rfl
    ·exact getD_app (by omega) _
   have e2 : nxtAt D' (S.op ++ [e.num]) d = nxtAt (docS S s.dn) S.op d := by
    unfold nxtAt
    rw [jp, List.length_singleton, if_pos (by omega)]
    by_cases e3 : d < S.op.length
    ·rw [if_pos e3, getD_app e3]
    ·obtain rfl : d = S.op.length := by omega
     rw [if_neg e3, getD_app1, hnN]
   rw [e1, e2, getD_app (by rw [h6.len]; omega)]
   have hpo := pth_open (D := D') (op := S.op ++ [e.num]) hok (d := d) (by rw [jp]; omega)
   rw [e1, hcl] at hpo
   have hpo2 : opnD D' (pthAt S.op d) = opnD (docS S s.dn) (pthAt S.op d) := hpo.trans (pth_open h1 hdl).symm
   refine (h6.at_ d hdl).turn ⟨rfl, rfl, rfl, rfl, rfl⟩ (fun p t ht hl hw => ?_) (fun h0 => ?_) (fun u k1 k2 => stay_between h1 hK hdl k1 k2)
   ·rw [hval d hdl, hpo2, ← hl, ← hw]
    exact ht
   ·have hr := pth_range h1 hdl
    rw [hatO _ h0 (by omega)]
    split <;> rfl
  ·obtain rfl : d = S.op.length + 1 := by omega
   have e1 : pthAt (S.op ++ [e.num]) (S.op.length + 1) = (docS S s.dn).nodes.length := by
    unfold pthAt
    rw [if_neg (by omega), Nat.add_sub_cancel, getD_app1, hnN]
   have e2 : nxtAt D' (S.op ++ [e.num]) (S.op.length + 1) = ((docS S s.dn).nodes.length : Int) + 1 := by
    unfold nxtAt
    rw [jp, List.length_singleton, if_neg (by omega), hl']
    rfl
   rw [e1, e2, ← h6.len, getD_app1]
   have hneg : ¬ (((docS S s.dn).nodes.length : Nat) : Int) < 0 := by omega
   refine node_mk hN (k := 1) (nm := e.nm) (ats := e.ats) ?_ (fun _ => by rw [hatN]; rfl) (by rw [if_neg hneg, hatN]; rfl) hats ⟨rfl, rfl, rfl, rfl, rfl⟩ (fun p t ht hl hw => ?_) rfl
   ·rw [if_neg hneg, hatN]
    show (1 : Int) = if e.kd = 0 then 1 else 2
    rw [if_pos hk]
   ·rw [ht]
    obtain ⟨c, N, T, l, wh⟩ := t
    simp only at hl hw
    subst hl hw
    have a1 : rs (valD D' (((docS S s.dn).nodes.length : Nat) : Int)) = [] := by
     rw [valD_pos (by omega), hatN]
     show rs e.tx = []
     rw [htx, rs_none]
    have a2 : opnD D' (((docS S s.dn).nodes.length : Nat) : Int) = true := by
     rw [opnD_pos (by omega), hatN]
     rfl
    rw [a1, a2]
    rfl
end
theorem closed_find {D : DocD} {op : List Int} {nd : NetD} (hN : NetFit2 nd) (h : DocOk D op) {m nx : Int} {f : FrS} (h0 : 0 ≤ m) (h1 : m < D.nodes.length) (hc : 0 ≤ (ndAt D m).clo) (hf : NodF D nd m nx f) (hx : nx = (ndAt D m).last + 1) :
  (∀ p, p < nd.preds.length → (findF nd f false none).1.getD p 0 = exD D (xN nd p) m) ∧ ∀ p j, p < nd.preds.length → opP nd p = 3 → j < cntP nd p → (findF nd f false none).2.getD (fstP nd p + j) 0 = herD D nd p j m := by
 obtain ⟨r1, _, r2, r3⟩ := h.rngs m h0 h1 hc
 have ho : opnD D m = false := by rw [opnD_pos h0, decide_eq_false_iff_not]; omega
 have hF := node_frD hN (fun _ => h.kd m h0 h1) hf (ib := none) (by show nx = lastD D m + 1; rw [lastD_pos h0]; exact hx) (fun v k1 k2 p j => herD_two r2 r3 nd p j (by omega) (by omega)) (by rw [lastD_pos h0]; omega)
 rw [ho] at hF
 exact find_ref hN.fit hF
section
variable {nd : NetD} {es : List EvD} {i : Nat} {s : CkS} {fs : List FrS} {e : EvD}
theorem run_text (hN : NetFit2 nd) (h : RunD nd es i s fs) (he : es[i]? = some e) (hn : nxtB s e = true) (hk : e.kd = 1) : RunD nd es (i + 1) (stp s e) (takeFs nd (stp s e).dn fs e).1 ∧ ∃ l, (takeFs nd (stp s e).dn fs e).2 = some l ∧ ∀ p, p < nd.preds.length → l.getD p 0 = exD (docS (ndsN es (i + 1)) (stp s e).dn) (xN nd p) e.num := by
 unfold nxtB at hn
 rw [if_neg (by omega), if_pos hk] at hn
 simp only [jb, txtB, decide_eq_true_eq, Bool.not_eq_true'] at hn
 obtain ⟨hdn, ⟨⟨⟨⟨⟨⟨hnum, hdep⟩, hos⟩, _⟩, hne⟩, htxt⟩, hnm⟩, hal⟩ := hn
 have hats : e.ats = [] := List.length_eq_zero_iff.1 hal
 have es' : stp s e = ⟨s.os, s.num + 1, true, s.dn⟩ := by unfold stp; rw [if_neg (by omega), if_pos hk]
 have ef : takeFs nd (stp s e).dn fs e = ((leaveFs nd s.dn (fs.map (addFr e.tx)) (addFr e.tx (openF nd 2 ByteArray.empty []))).1, some (leaveFs nd s.dn (fs.map (addFr e.tx)) (addFr e.tx (openF nd 2 ByteArray.empty []))).2) := by
  rw [es']
  unfold takeFs
  rw [if_neg (by omega), if_pos hk]
 have en : ndsN es (i + 1) = ⟨(addV e.num e.tx (ndsN es i).op ((ndsN es i).nodes ++ [newN e i (ndsN es i).op])).modify e.num.toNat (shutN i), (ndsN es i).op⟩ := by
  rw [ndsN_next he]
  unfold ndStep
  rw [if_neg (by omega), if_neg (by omega)]
 have hlo := op_len h
 obtain ⟨h1, h2, h3, h4, h5, h6⟩ := h
 rw [ef, es']
 obtain ⟨S, hS⟩ := je (ndsN es i)
 rw [hS] at h1 h2 h3 h4 h5 h6 hlo en
 have hnN : e.num = (docS S s.dn).nodes.length := by rw [hnum, h2]; rfl
 have hlen0 : (addV e.num e.tx S.op (S.nodes ++ [newN e i S.op])).length = S.nodes.length + 1 := by rw [addV_len, jp]; rfl
 have hlen : ((addV e.num e.tx S.op (S.nodes ++ [newN e i S.op])).modify e.num.toNat (shutN i)).length = S.nodes.length + 1 := by rw [List.length_modify, hlen0]
 obtain ⟨D', hD'⟩ := je (docS ⟨(addV e.num e.tx S.op (S.nodes ++ [newN e i S.op])).modify e.num.toNat (shutN i), S.op⟩ s.dn)
 have hl' : D'.nodes.length = (docS S s.dn).nodes.length + 1 := by rw [← hD']; exact hlen
 have hNN : (((docS S s.dn).nodes.length : Nat) : Int) = (S.nodes.length : Int) := rfl
 have hat : ∀ k : Int, 0 ≤ k → k ≤ (docS S s.dn).nodes.length → ndAt D' k = if k = (docS S s.dn).nodes.length then shutN i (newN e i S.op) else if k ∈ S.op then addTo e.num e.tx (ndAt (docS S s.dn) k) else ndAt (docS S s.dn) k := fun k k0 k1 => by
  have e1 : ndAt D' k = ndG ((addV e.num e.tx S.op (S.nodes ++ [newN e i S.op])).modify e.num.toNat (shutN i)) k := by rw [← hD']; rfl
  have e9 : ndG (addV e.num e.tx S.op (S.nodes ++ [newN e i S.op])) k = if k = (docS S s.dn).nodes.length then newN e i S.op else if k ∈ S.op then addTo e.num e.tx (ndAt (docS S s.dn) k) else ndAt (docS S s.dn) k := new_at h1 hnN k0 k1
  rw [e1, ndG_modify (by omega) (by rw [hlen0]; omega) k0, e9]
  by_cases e2 : k = (docS S s.dn).nodes.length
  ·rw [if_pos (by omega), if_pos e2, if_pos e2]
  ·rw [if_neg (by omega), if_neg e2, if_neg e2]
 have hatN : ndAt D' (docS S s.dn).nodes.length = shutN i (newN e i S.op) := by rw [hat _ (by omega) (Int.le_refl _), if_pos rfl]
 have hatO : ∀ k : Int, 0 ≤ k → k < (docS S s.dn).nodes.length → ndAt D' k = if k ∈ S.op then addTo e.num e.tx (ndAt (docS S s.dn) k) else ndAt (docS S s.dn) k := fun k k0 k1 => by rw [hat k k0 (by omega), if_neg (by omega)]
 obtain ⟨hok, hK⟩ := docOk_new (D := docS S s.dn) (D' := D') (op := S.op) h1 hnN (.inr hk) (op' := S.op) (c := i) hl' (by rw [hatN]; rfl) hatO (.inr ⟨rfl, by omega⟩)
 have hcl : D'.closed = s.dn := by rw [← hD']; rfl
 have hop : S.op ≠ [] := fun hx => by rw [hx] at hlo; simp at hlo; omega
 have hctx : ChT e.tx := by
  unfold textsB at htxt
  rw [jb] at htxt
  have := htxt.2
  unfold val at this
  rwa [List.drop_zero] at this
 have hval : ∀ d, d ≤ S.op.length → rs (valD D' (pthAt S.op d)) = rs (valD (docS S s.dn) (pthAt S.op d)) ++ rs e.tx := fun d hd =>
  val_path (D' := D') h1 h4 h5 hctx hl' (fun hx => absurd hx hop) (fun k hk2 => by
   have := h1.rng k hk2
   rw [hatO k this.1 this.2, if_pos hk2]
   rfl) hd
 have hneg : ¬ (((docS S s.dn).nodes.length : Nat) : Int) < 0 := by omega
 have hF : NodF D' nd (docS S s.dn).nodes.length (((docS S s.dn).nodes.length : Int) + 1) (shutFr (addFr e.tx (openF nd 2 ByteArray.empty []))) := by
  refine node_mk hN (k := 2) (nm := ByteArray.empty) (ats := []) ?_ (fun _ => by rw [hatN]; exact hnm.symm) (by rw [if_neg hneg, hatN]; exact hats.symm) rfl ⟨rfl, rfl, rfl, rfl, rfl⟩ (fun p t ht hl hw => ?_) rfl
  ·rw [if_neg hneg, hatN]
   show (2 : Int) = if e.kd = 0 then 1 else 2
   rw [if_neg (by omega)]
  ·have a3 := hunts_map (g := shutHu) (hunts_map (g := addHu e.tx) ht)
   have a1 : rs (valD D' (((docS S s.dn).nodes.length : Nat) : Int)) = rs e.tx := by
    rw [valD_pos (by omega), hatN]
    rfl
   have a2 : opnD D' (((docS S s.dn).nodes.length : Nat) : Int) = false := by
    rw [opnD_pos (by omega), hatN, decide_eq_false_iff_not]
    show ¬ ((i : Nat) : Int) < 0
    omega
   rw [a1, a2]
   refine a3.trans ?_
   show some (⟨t.c, t.N, t.T, t.l ++ rs e.tx, true⟩ : HuS) = _
   rw [hl, List.nil_append]
   rfl
 have hlastN : (ndAt D' (docS S s.dn).nodes.length).last = (docS S s.dn).nodes.length := by rw [hatN]; exact hnN
 obtain ⟨hfnd1, hfnd2⟩ := closed_find hN hok (m := (docS S s.dn).nodes.length) (by omega) (by omega) (by rw [hatN]; show (0 : Int) ≤ ((i : Nat) : Int); omega) hF (by rw [hlastN])
 have hfl : (fs.map (addFr e.tx)).length = S.op.length + 1 := by rw [List.length_map, h6.len]
 refine ⟨⟨?_, ?_, by rw [en]; exact h3, by rw [en]; exact h4, fun k k0 k1 => ?_, ⟨?_, fun d hd => ?_⟩⟩, _, rfl, fun p hp => ?_⟩
 ·rw [en]
  show DocOk (docS ⟨_, _⟩ s.dn) S.op
  rw [hD']
  exact hok
 ·rw [en]
  show s.num + 1 = (((addV e.num e.tx S.op (S.nodes ++ [newN e i S.op])).modify e.num.toNat (shutN i)).length : Int)
  rw [hlen, h2]
  rfl
 ·rw [en] at k1 ⊢
  have k1 : k < (((addV e.num e.tx S.op (S.nodes ++ [newN e i S.op])).modify e.num.toNat (shutN i)).length : Int) := k1
  rw [hlen] at k1
  have e1 : ndG ((addV e.num e.tx S.op (S.nodes ++ [newN e i S.op])).modify e.num.toNat (shutN i)) k = ndAt D' k := by rw [← hD']; rfl
  show ChT (ndG ((addV e.num e.tx S.op (S.nodes ++ [newN e i S.op])).modify e.num.toNat (shutN i)) k).val
  rw [e1, hat k k0 (by omega)]
  by_cases e2 : k = (docS S s.dn).nodes.length
  ·rw [if_pos e2]
   exact hctx
  ·rw [if_neg e2]
   have hc := h5 k k0 (by omega)
   split
   ·exact (rs_app hc hctx).2
   ·exact hc
 ·rw [en]
  show (leaveFs nd s.dn (fs.map (addFr e.tx)) _).1.length = S.op.length + 1
  rw [leaveFs_len, hfl]
 ·rw [en] at hd ⊢
  have hd : d ≤ S.op.length := hd
  show NodF (docS ⟨_, _⟩ s.dn) nd (pthAt S.op d) (nxtAt (docS ⟨_, _⟩ s.dn) S.op d) ((leaveFs nd s.dn (fs.map (addFr e.tx)) (addFr e.tx (openF nd 2 ByteArray.empty []))).1.getD d fr0)
  rw [hD']
  have hfr : (leaveFs nd s.dn (fs.map (addFr e.tx)) (addFr e.tx (openF nd 2 ByteArray.empty []))).1 = onLast (metFr (findF nd (shutFr (addFr e.tx (openF nd 2 ByteArray.empty []))) false none).2 (shutFr (addFr e.tx (openF nd 2 ByteArray.empty [])))) (fs.map (addFr e.tx)) := by
   unfold leaveFs
   rw [if_neg (by rw [hdn]; decide)]
  rw [hfr]
  unfold onLast
  rw [getD_modify (by rw [hfl]; omega), getD_map (by rw [h6.len]; omega) fr0, hfl, Nat.add_sub_cancel]
  have hpo2 : opnD D' (pthAt S.op d) = opnD (docS S s.dn) (pthAt S.op d) := by
   have := pth_open (D := D') hok hd
   rw [hcl] at this
   exact this.trans (pth_open h1 hd).symm
  have hT : NodF D' nd (pthAt S.op d) (nxtAt (docS S s.dn) S.op d) (addFr e.tx (fs.getD d fr0)) := by
   refine (h6.at_ d hd).turn ⟨rfl, rfl, rfl, rfl, rfl⟩ (fun p t ht hl hw => ?_) (fun h0 => ?_) (fun u k1 k2 => stay_between h1 hK hd k1 k2)
   ·refine (hunts_map (g := addHu e.tx) ht).trans ?_
    rw [hval d hd, hpo2, ← hl, ← hw]
    rfl
   ·have hr := pth_range h1 hd
    rw [hatO _ h0 (by omega)]
    split <;> rfl
  by_cases hdl : d = S.op.length
  ·rw [if_pos hdl]
   have e1 : nxtAt (docS S s.dn) S.op d = (docS S s.dn).nodes.length := by unfold nxtAt; rw [if_neg (by omega)]
   have e2 : nxtAt D' S.op d = ((docS S s.dn).nodes.length : Int) + 1 := by unfold nxtAt; rw [if_neg (by omega), hl']; rfl
   have hr := pth_range h1 hd
   rw [e1] at hT hr
   rw [e2]
   refine hT.met hN hF ⟨hr.2.1, by omega⟩ ?_ (fun u k1 k2 => by omega) hfnd2
   rw [hatN, hdl, pth_top hop]
   rfl
  ·rw [if_neg hdl]
   have e2 : nxtAt D' S.op d = nxtAt (docS S s.dn) S.op d := by unfold nxtAt; rw [if_pos (by omega), if_pos (by omega)]
   rw [e2]
   exact hT
 ·rw [en]
  show (findF nd (shutFr (addFr e.tx (openF nd 2 ByteArray.empty []))) false none).1.getD p 0 = exD (docS ⟨_, _⟩ s.dn) (xN nd p) e.num
  rw [hD', hnN]
  exact hfnd1 p hp
theorem run_close (hN : NetFit2 nd) (h : RunD nd es i s fs) (he : es[i]? = some e) (hn : nxtB s e = true) (hk : e.kd = 2) : RunD nd es (i + 1) (stp s e) (takeFs nd (stp s e).dn fs e).1 ∧ ∃ l, (takeFs nd (stp s e).dn fs e).2 = some l ∧ ∀ p, p < nd.preds.length → l.getD p 0 = exD (docS (ndsN es (i + 1)) (stp s e).dn) (xN nd p) e.num := by
 unfold nxtB at hn
 rw [if_neg (by omega), if_neg (by omega), if_pos hk] at hn
 simp only [jb, clsB, decide_eq_true_eq, Bool.not_eq_true'] at hn
 obtain ⟨hdn, hos, ⟨⟨⟨⟨hnum, _⟩, _⟩, htx⟩, hal⟩⟩ := hn
 obtain ⟨dn, hdn'⟩ : ∃ dn, decide (s.os.length = 1) = dn := ⟨_, rfl⟩
 have es' : stp s e = ⟨s.os.dropLast, s.num, false, dn⟩ := by unfold stp; rw [if_neg (by omega), if_neg (by omega), hdn']
 have ef : takeFs nd (stp s e).dn fs e = ((leaveFs nd dn fs.dropLast (fs.getD (fs.length - 1) fr0)).1, some (leaveFs nd dn fs.dropLast (fs.getD (fs.length - 1) fr0)).2) := by
  rw [es']
  unfold takeFs
  rw [if_neg (by omega), if_neg (by omega)]
 have en : ndsN es (i + 1) = ⟨(ndsN es i).nodes.modify e.num.toNat (shutN i), (ndsN es i).op.dropLast⟩ := by
  rw [ndsN_next he]
  unfold ndStep
  rw [if_pos hk]
 have hlo := op_len h
 obtain ⟨h1, h2, h3, h4, h5, h6⟩ := h
 rw [ef, es']
 obtain ⟨S, hS⟩ := je (ndsN es i)
 rw [hS] at h1 h2 h3 h4 h5 h6 hlo en
 have hop : S.op ≠ [] := fun hx => by rw [hx] at hlo; simp at hlo; omega
 have hpm := parOf_mem hop
 have hpr := h1.rng _ hpm
 have hNN : (((docS S s.dn).nodes.length : Nat) : Int) = (S.nodes.length : Int) := rfl
 have hnp : e.num = parOf S.op := by
  rw [hnum]
  unfold parOf
  rw [if_neg (by omega), hlo, h3, getD_map (by omega) zo]
 have hlen : (S.nodes.modify e.num.toNat (shutN i)).length = S.nodes.length := List.length_modify ..
 obtain ⟨D', hD'⟩ := je (docS ⟨S.nodes.modify e.num.toNat (shutN i), S.op.dropLast⟩ dn)
 have hl' : D'.nodes.length = (docS S s.dn).nodes.length := by rw [← hD']; exact hlen
 have hat : ∀ k : Int, 0 ≤ k → ndAt D' k = if k = parOf S.op then shutN i (ndAt (docS S s.dn) k) else ndAt (docS S s.dn) k := fun k k0 => by
  have e1 : ndAt D' k = ndG (S.nodes.modify e.num.toNat (shutN i)) k := by rw [← hD']; rfl
  rw [e1, ndG_modify (by omega) (by omega) k0, hnp]
  rfl
 have hatN : ndAt D' (parOf S.op) = shutN i (ndAt (docS S s.dn) (parOf S.op)) := by rw [hat _ hpr.1, if_pos rfl]
 obtain ⟨hok, hK⟩ := docOk_close (D := docS S s.dn) (D' := D') (op := S.op) h1 hop (i := i) hl' hatN (fun k k0 _ hk2 => by rw [hat k k0, if_neg hk2])
 have hcl : D'.closed = dn := by rw [← hD']; rfl
 have hmix : ∀ k : Int, 0 ≤ k → (ndAt D' k).val = (ndAt (docS S s.dn) k).val ∧ (ndAt D' k).ev = (ndAt (docS S s.dn) k).ev ∧ (ndAt D' k).par = (ndAt (docS S s.dn) k).par ∧ (ndAt D' k).last = (ndAt (docS S s.dn) k).last := fun k k0 => by
  rw [hat k k0]
  split <;> exact ⟨rfl, rfl, rfl, rfl⟩
 have hval : ∀ k, valD D' k = valD (docS S s.dn) k := fun k => by
  by_cases hk0 : k < 0
  ·unfold valD
   rw [if_pos hk0, if_pos hk0, hl']
   have := (hmix 0 (by omega)).1
   have this : (D'.nodes.getD 0 zn).val = ((docS S s.dn).nodes.getD 0 zn).val := this
   rw [this]
  ·rw [valD_pos (by omega), valD_pos (by omega)]
   exact (hmix k (by omega)).1
 have hopl : 0 < S.op.length := List.length_pos_iff.2 hop
 have htop := pth_top hop
 have hfl : fs.length - 1 = S.op.length := by rw [h6.len]; rfl
 have hnx : nxtAt (docS S s.dn) S.op S.op.length = (docS S s.dn).nodes.length := by unfold nxtAt; rw [if_neg (by omega)]
 have hF : NodF D' nd (parOf S.op) (docS S s.dn).nodes.length (shutFr (fs.getD (fs.length - 1) fr0)) := by
  have h7 := h6.at_ S.op.length (jr _)
  have hsb := fun u k1 k2 => stay_between (nd := nd) h1 hK (jr S.op.length) (u := u) k1 k2
  rw [htop, hnx] at h7 hsb
  rw [hfl]
  refine h7.turn ⟨rfl, rfl, rfl, rfl, rfl⟩ (fun p t ht hl hw => ?_) (fun h0 => (hmix _ h0).2.1) hsb
  refine (hunts_map (g := shutHu) ht).trans ?_
  have a2 : opnD D' (parOf S.op) = false := by
   rw [opnD_pos hpr.1, hatN, decide_eq_false_iff_not]
   show ¬ ((i : Nat) : Int) < 0
   omega
  rw [a2, hval, ← hl]
  rfl
 have hlastN : (ndAt D' (parOf S.op)).last = ((docS S s.dn).nodes.length : Int) - 1 := by rw [(hmix _ hpr.1).2.2.2]; exact h1.lst _ hpm
 obtain ⟨hfnd1, hfnd2⟩ := closed_find hN hok (m := parOf S.op) hpr.1 (by omega) (by rw [hatN]; show (0 : Int) ≤ ((i : Nat) : Int); omega) hF (by rw [hlastN]; omega)
 have hdl : (S.op.dropLast).length = S.op.length - 1 := List.length_dropLast
 have hb : (if dn = true then onHead shutFr fs.dropLast else fs.dropLast).length = S.op.length := by
  split
  ·rw [onHead_len, List.length_dropLast, hfl]
  ·rw [List.length_dropLast, hfl]
 refine ⟨⟨?_, ?_, ?_, fun hx => ?_, fun k k0 k1 => ?_, ⟨?_, fun d hd => ?_⟩⟩, _, rfl, fun p hp => ?_⟩
 ·rw [en]
  show DocOk (docS ⟨_, _⟩ dn) S.op.dropLast
  rw [hD']
  exact hok
 ·rw [en]
  show s.num = ((S.nodes.modify e.num.toNat (shutN i)).length : Int)
  rw [hlen, h2]
 ·rw [en]
  show S.op.dropLast = s.os.dropLast.map (·.1)
  rw [h3, List.map_dropLast]
 ·rw [en] at hx ⊢
  show (0 : Int) ∈ S.op.dropLast
  have hx : S.op.dropLast ≠ [] := hx
  have hz := h4 hop
  obtain ⟨j, hj, hje⟩ := List.mem_iff_getElem.1 hz
  have hx2 : 0 < S.op.dropLast.length := List.length_pos_iff.2 hx
  have hj0 : j = 0 := by
   refine Nat.eq_zero_of_not_pos fun hp => ?_
   have := rise_lt h1.rise hp hj
   have e1 : S.op.getD j 0 = 0 := by rw [jg, jk hj]; exact hje
   have := h1.rng _ (mem_getD (show 0 < S.op.length by omega))
   omega
  subst hj0
  refine List.mem_iff_getElem.2 ⟨0, hx2, ?_⟩
  rw [List.getElem_dropLast]
  exact hje
 ·rw [en] at k1 ⊢
  have k1 : k < ((S.nodes.modify e.num.toNat (shutN i)).length : Int) := k1
  rw [hlen] at k1
  have e1 : ndG (S.nodes.modify e.num.toNat (shutN i)) k = ndAt D' k := by rw [← hD']; rfl
  show ChT (ndG (S.nodes.modify e.num.toNat (shutN i)) k).val
  rw [e1, (hmix k k0).1]
  exact h5 k k0 k1
 ·rw [en]
  show (leaveFs nd dn fs.dropLast _).1.length = S.op.dropLast.length + 1
  rw [leaveFs_len, List.length_dropLast, hdl, hfl]
  omega
 ·rw [en] at hd ⊢
  have hd : d ≤ S.op.dropLast.length := hd
  rw [hdl] at hd
  show NodF (docS ⟨_, _⟩ dn) nd (pthAt S.op.dropLast d) (nxtAt (docS ⟨_, _⟩ dn) S.op.dropLast d) ((leaveFs nd dn fs.dropLast (fs.getD (fs.length - 1) fr0)).1.getD d fr0)
  rw [hD']
  have e1 : pthAt S.op.dropLast d = pthAt S.op d := by
   unfold pthAt
   split
   ·rfl
   ·exact getD_drop (by omega) _
  have hd' : d ≤ S.op.length := by omega
  have hpo : opnD D' (pthAt S.op d) = (decide (0 < d) || !dn) := by
   have := pth_open (D := D') hok (d := d) (by rw [hdl]; exact hd)
   rw [e1, hcl] at this
   exact this
  have hpo1 : opnD (docS S s.dn) (pthAt S.op d) = true := by
   rw [pth_open h1 hd', show (docS S s.dn).closed = s.dn from rfl, hdn]
   simp
  unfold leaveFs onLast
  rw [getD_modify (by rw [hb]; omega), hb]
  have hT : NodF D' nd (pthAt S.op d) (nxtAt (docS S s.dn) S.op d) ((if dn = true then onHead shutFr fs.dropLast else fs.dropLast).getD d fr0) := by
   have hdf : fs.dropLast.getD d fr0 = fs.getD d fr0 := getD_drop (by rw [hfl]; omega) _
   cases hdnv : dn with
   | true =>
    rw [if_pos rfl]
    have hone : S.op.length = 1 := by rw [hdnv, decide_eq_true_eq] at hdn'; omega
    obtain rfl : d = 0 := by omega
    unfold onHead
    rw [getD_modify (by rw [List.length_dropLast, hfl]; omega), if_pos rfl, hdf]
    refine (h6.at_ 0 (by omega)).turn ⟨rfl, rfl, rfl, rfl, rfl⟩ (fun p t ht hl hw => ?_) (fun h0 => (hmix _ h0).2.1) (fun u k1 k2 => stay_between h1 hK (by omega) k1 k2)
    refine (hunts_map (g := shutHu) ht).trans ?_
    rw [hpo, hval, ← hl, hdnv]
    rfl
   | false =>
    rw [if_neg (by decide), hdf]
    refine (h6.at_ d hd').turn ⟨rfl, rfl, rfl, rfl, rfl⟩ (fun p t ht hl hw => ?_) (fun h0 => (hmix _ h0).2.1) (fun u k1 k2 => stay_between h1 hK hd' k1 k2)
    rw [hpo, hval, ← hl, hdnv]
    have hw : t.whole = (!true) := by rw [hw, hpo1]
    rw [ht]
    obtain ⟨c, N, T, l, wh⟩ := t
    simp only at hw
    subst hw
    simp
  rw [e1]
  by_cases hdl2 : d = S.op.length - 1
  ·rw [if_pos hdl2]
   have e2 : nxtAt D' S.op.dropLast d = (docS S s.dn).nodes.length := by unfold nxtAt; rw [if_neg (by rw [hdl]; omega), hl']
   have e3 : nxtAt (docS S s.dn) S.op d = parOf S.op := by
    unfold nxtAt parOf
    rw [if_pos (by omega), if_neg (by omega), hdl2]
   have hr := pth_range h1 hd'
   have hpar := nxt_par h1 (show d < S.op.length by omega)
   have hbeh := fun v k1 k2 => behind_par h1 (show d < S.op.length by omega) (v := v) k1 k2
   rw [e3] at hT hr hpar hbeh
   rw [e2]
   refine hT.met hN hF ⟨hr.2.1, hpr.2⟩ ?_ (fun u k1 k2 => ?_) hfnd2
   ·rw [(hmix _ hpr.1).2.2.1]
    exact hpar
   ·rw [(hmix u (by omega)).2.2.1]
    exact hbeh u k1 k2
  ·rw [if_neg hdl2]
   have e2 : nxtAt D' S.op.dropLast d = nxtAt (docS S s.dn) S.op d := by
    unfold nxtAt
    rw [if_pos (by rw [hdl]; omega), if_pos (by omega)]
    exact getD_drop (by omega) _
   rw [e2]
   exact hT
 ·rw [en]
  show (findF nd (shutFr (fs.getD (fs.length - 1) fr0)) false none).1.getD p 0 = exD (docS ⟨_, _⟩ dn) (xN nd p) e.num
  rw [hD', hnp]
  exact hfnd1 p hp
end
end Go.Proofs.YtkhejkfjhddobaaGreatDoor
namespace Gim
open Go Go.RowKit
mutual
theorem layX_op3 {st : Cst} : ∀ {x : Ex} {k0 r0 : Nat}, LayX st x k0 r0 → ∀ k, k0 ≤ k → k < k0 + pcX x → ∀ p, st.preds[k]? = some p → p.op = 3 → (r0 : Int) ≤ p.first ∧ p.first + p.count ≤ r0 + rcX x
 | .mk op args sts nm cmp txt num, k0, r0, h, k, h1, h2, p, hp, h3 => by
  unfold LayX at h
  unfold pcX at h2
  unfold rcX
  by_cases ho : op = 3
  ·rw [if_pos ho] at h h2 ⊢
   obtain rfl : k = k0 := by omega
   rw [h.1] at hp
   injection hp with hp
   subst hp
   exact ⟨Int.le_refl _, by show (r0 : Int) + (sts.length : Int) ≤ r0 + sts.length; omega⟩
  ·rw [if_neg ho] at h h2 ⊢
   by_cases hk : k = k0
   ·subst hk
    rw [h.1] at hp
    injection hp with hp
    subst hp
    exact absurd h3 ho
   ·exact layXL_op3 h.2 k (by omega) (by omega) p hp h3
theorem layXL_op3 {st : Cst} : ∀ {l : List Ex} {k0 r0 : Nat}, LayXL st l k0 r0 → ∀ k, k0 ≤ k → k < k0 + pcXL l → ∀ p, st.preds[k]? = some p → p.op = 3 → (r0 : Int) ≤ p.first ∧ p.first + p.count ≤ r0 + rcXL l
 | [], k0, r0, _, k, h1, h2, _, _, _ => by
  unfold pcXL at h2
  omega
 | x :: l, k0, r0, h, k, h1, h2, p, hp, h3 => by
  unfold LayXL at h
  unfold pcXL at h2
  unfold rcXL
  by_cases hk : k < k0 + pcX x
  ·have := layX_op3 h.1 k h1 hk p hp h3
   omega
  ·have := layXL_op3 h.2 k (by omega) (by omega) p hp h3
   omega
end
mutual
theorem layX_mono {st : Cst} : ∀ {x : Ex} {k0 r0 : Nat}, LayX st x k0 r0 → ∀ k k', k0 ≤ k → k < k' → k' < k0 + pcX x → ∀ p p', st.preds[k]? = some p → st.preds[k']? = some p' → p.op = 3 → p'.op = 3 → p.first + p.count ≤ p'.first
 | .mk op args sts nm cmp txt num, k0, r0, h, k, k', h1, h12, h2, p, p', hp, hp', h3, h3' => by
  unfold LayX at h
  unfold pcX at h2
  by_cases ho : op = 3
  ·rw [if_pos ho] at h2
   omega
  ·rw [if_neg ho] at h h2
   by_cases hk : k = k0
   ·subst hk
    rw [h.1] at hp
    injection hp with hp
    subst hp
    exact absurd h3 ho
   ·exact layXL_mono h.2 k k' (by omega) h12 (by omega) p p' hp hp' h3 h3'
theorem layXL_mono {st : Cst} : ∀ {l : List Ex} {k0 r0 : Nat}, LayXL st l k0 r0 → ∀ k k', k0 ≤ k → k < k' → k' < k0 + pcXL l → ∀ p p', st.preds[k]? = some p → st.preds[k']? = some p' → p.op = 3 → p'.op = 3 → p.first + p.count ≤ p'.first
 | [], k0, r0, _, k, k', h1, h12, h2, _, _, _, _, _, _ => by
  unfold pcXL at h2
  omega
 | x :: l, k0, r0, h, k, k', h1, h12, h2, p, p', hp, hp', h3, h3' => by
  unfold LayXL at h
  unfold pcXL at h2
  by_cases hk' : k' < k0 + pcX x
  ·exact layX_mono h.1 k k' h1 h12 hk' p p' hp hp' h3 h3'
  ·by_cases hk : k < k0 + pcX x
   ·have a := layX_op3 h.1 k h1 hk p hp h3
    have b := layXL_op3 h.2 k' (by omega) (by omega) p' hp' h3'
    omega
   ·exact layXL_mono h.2 k k' (by omega) h12 (by omega) p p' hp hp' h3 h3'
end
mutual
theorem layX_one {st : Cst} : ∀ {x : Ex} {k0 r0 : Nat}, gdX x = true → LayX st x k0 r0 → ∀ k, k0 ≤ k → k < k0 + pcX x → ∀ p, st.preds[k]? = some p → p.op = 2 → p.args.length = 1
 | .mk op args sts nm cmp txt num, k0, r0, hg, h, k, h1, h2, p, hp, h3 => by
  unfold LayX at h
  unfold pcX at h2
  unfold gdX at hg
  by_cases ho : op = 3
  ·rw [if_pos ho] at h h2
   obtain rfl : k = k0 := by omega
   rw [h.1] at hp
   injection hp with hp
   subst hp
   have h3 : op = 2 := h3
   omega
  ·rw [if_neg ho] at h h2 hg
   simp only [jb] at hg
   by_cases hk : k = k0
   ·subst hk
    rw [h.1] at hp
    injection hp with hp
    subst hp
    have h3 : op = 2 := h3
    have hl := hg.2.2.2.2.2.1
    unfold lnB at hl
    rw [if_neg (by omega), if_pos h3, decide_eq_true_eq] at hl
    show (argsN args (k + 1)).length = 1
    rw [argsN_len, hl]
   ·exact layXL_one hg.2.2.2.2.2.2 h.2 k (by omega) (by omega) p hp h3
theorem layXL_one {st : Cst} : ∀ {l : List Ex} {k0 r0 : Nat}, gdXL l = true → LayXL st l k0 r0 → ∀ k, k0 ≤ k → k < k0 + pcXL l → ∀ p, st.preds[k]? = some p → p.op = 2 → p.args.length = 1
 | [], k0, r0, _, _, k, h1, h2, _, _, _ => by
  unfold pcXL at h2
  omega
 | x :: l, k0, r0, hg, h, k, h1, h2, p, hp, h3 => by
  unfold LayXL at h
  unfold pcXL at h2
  unfold gdXL at hg
  rw [jb] at hg
  by_cases hk : k < k0 + pcX x
  ·exact layX_one hg.1 h.1 k h1 hk p hp h3
  ·exact layXL_one hg.2 h.2 k (by omega) (by omega) p hp h3
end
def RowB (r : RowD) : Prop := (0 ≤ r.ax ∧ r.ax ≤ 3) ∧ (0 ≤ r.ts ∧ r.ts ≤ 3)
theorem gdT_row {t : St} (h : gdT t = true) : RowB (rowOf t) := by
 cases t
 unfold gdT at h
 rw [jb, decide_eq_true_eq] at h
 exact ⟨⟨h.1.1, h.1.2.1⟩, h.1.2.2.1, h.1.2.2.2⟩
theorem gdTL_memN : ∀ {l : List St} {t : St}, gdTL l = true → t ∈ l → gdT t = true
 | x :: r, t, h, hm => by
  unfold gdTL at h
  rw [jb] at h
  rcases List.mem_cons.1 hm with rfl | hm
  ·exact h.1
  ·exact gdTL_memN h.2 hm
theorem rows_stepsC {st : Cst} {ts : List St} (h : ∀ r ∈ st.rows, RowB r) (hg : gdTL ts = true) : ∀ r ∈ (stepsC st ts).rows, RowB r := fun r hr => by
 have hr : r ∈ st.rows ++ ts.map rowOf := hr
 rw [List.mem_append, List.mem_map] at hr
 rcases hr with hr | ⟨t, ht, rfl⟩
 ·exact h r hr
 ·exact gdT_row (gdTL_memN hg ht)
def RowsB (st : Cst) : Prop := ∀ r ∈ st.rows, RowB r
mutual
theorem rows_cX : ∀ (x : Ex) (st : Cst), RowsB st → gdX x = true → RowsB (cX x st)
 | .mk op args sts nm cmp txt num, st, h, hg => by
  unfold gdX at hg
  unfold cX
  by_cases ho : op = 3
  ·rw [if_pos ho] at hg ⊢
   simp only [jb] at hg
   exact rows_stepsC h hg.2.1.2
  ·rw [if_neg ho] at hg ⊢
   simp only [jb] at hg
   exact rows_cXL args st.preds.length (addPred st op) h hg.2.2.2.2.2.2
theorem rows_cXL : ∀ (l : List Ex) (k : Nat) (st : Cst), RowsB st → gdXL l = true → RowsB (cXL l k st)
 | [], k, st, h, _ => by
  unfold cXL
  exact h
 | x :: l, k, st, h, hg => by
  unfold gdXL at hg
  rw [jb] at hg
  unfold cXL
  exact rows_cXL l k (addArg (cX x st) k st.preds.length) (rows_cX x st h hg.1) hg.2
end
theorem rows_cRow (i : Nat) : ∀ (l : List Ex) (st : Cst), RowsB st → gdXL l = true → RowsB (cRow i l st)
 | [], st, h, _ => by
  unfold cRow
  exact h
 | x :: l, st, h, hg => by
  unfold gdXL at hg
  rw [jb] at hg
  unfold cRow
  refine rows_cRow i l (addRow (cX x st) i st.preds.length) (fun r hr => ?_) hg.2
  have h1 := rows_cX x st h hg.1
  have hr : r ∈ (cX x st).rows.modify i fun r => { r with ps := r.ps ++ [(st.preds.length : Int)] } := hr
  obtain ⟨j, hj, e⟩ := List.mem_iff_getElem.1 hr
  rw [List.getElem_modify] at e
  rw [List.length_modify] at hj
  have h2 := h1 _ (List.getElem_mem hj)
  split at e
  ·subst e
   exact h2
  ·subst e
   exact h2
theorem rows_cAll {ts : List St} : ∀ (f i : Nat) (st : Cst), Stg ts i st → RowsB st → RowsB (cAll f i st)
 | 0, i, st, _, h => by
  unfold cAll
  exact h
 | f + 1, i, st, hs, h => by
  unfold cAll
  split
  ·rename_i hi
   refine rows_cAll f (i + 1) _ (stg_next hs hi) (rows_cRow i _ st h ?_)
   rw [jg, jk (by rw [hs.wl]; exact hi)]
   exact hs.good _ (List.getElem_mem _)
  ·exact h
end Gim
namespace Go.Proofs.YtkhejkfjhddobaaGreatDoor
open Go.RowKit Gim
theorem comp_fit {ts : List Gim.St} (hok : okP ts = true) (hl : NLim (comp ts)) : NetFit2 (comp ts) := by
 have hg : gdTL ts = true := by
  unfold okP gdP at hok
  simp only [jb] at hok
  exact hok.1.2
 have hno := netOk_of (netPath_comp hok) hl
 have hst := stg_end hg
 have hgetP : ∀ p, p < (comp ts).preds.length → (endC ts).preds[p]? = some ((comp ts).preds.getD p zp) := fun p hp => get_getD (l := (comp ts).preds) hp zp
 refine ⟨⟨comp_dag hg, hno.op, fun p hp h2 => ?_, fun p p' h12 hp' h3 h3' => ?_⟩, fun i hi => ?_, fun p hp h3 => ?_⟩
 ·obtain ⟨i, h1, h4, h5, _⟩ := pred_lies hg hp
  have hiw : i < (endC ts).wh.length := by rw [hst.wl]; exact h1
  obtain ⟨rw0, _, _, g3⟩ := hst.row i h1
  have hgd : gdXL ((endC ts).wh.getD i []) = true := by
   rw [jg, jk hiw]
   exact hst.good _ (List.getElem_mem _)
  rw [pN_succ hiw] at h5
  exact layXL_one hgd g3 p h4 h5 _ (hgetP p hp) h2
 ·have hp : p < (comp ts).preds.length := by omega
  obtain ⟨i, h1, h4, h5, _⟩ := pred_lies hg hp
  obtain ⟨i', h1', h4', h5', _⟩ := pred_lies hg hp'
  have hiw : i < (endC ts).wh.length := by rw [hst.wl]; exact h1
  have hiw' : i' < (endC ts).wh.length := by rw [hst.wl]; exact h1'
  obtain ⟨_, _, _, g3⟩ := hst.row i h1
  obtain ⟨_, _, _, g3'⟩ := hst.row i' h1'
  have e5 := h5
  have e5' := h5'
  rw [pN_succ hiw] at e5
  rw [pN_succ hiw'] at e5'
  have a := layXL_op3 g3 p h4 e5 _ (hgetP p hp) h3
  have b := layXL_op3 g3' p' h4' e5' _ (hgetP p' hp') h3'
  have h0 := hno.some p hp h3
  have h0' := hno.some p' hp' h3'
  have key : ((comp ts).preds.getD p zp).first + ((comp ts).preds.getD p zp).count ≤ ((comp ts).preds.getD p' zp).first := by
   by_cases hii : i = i'
   ·subst hii
    exact layXL_mono g3 p p' h4 h12 e5' _ _ (hgetP p hp) (hgetP p' hp') h3 h3'
   ·have hlt : i < i' := by
     refine Nat.lt_of_le_of_ne (Nat.le_of_not_lt fun hgt => ?_) hii
     have := pN_mono (wh := (endC ts).wh) (show i' + 1 ≤ i from hgt)
     omega
    have hr := rN_mono (L0 := ts.length) (wh := (endC ts).wh) (show i + 1 ≤ i' from hlt)
    rw [rN_succ hiw] at hr
    omega
  unfold fstP cntP
  omega
 ·have hr : RowsB (endC ts) := rows_cAll _ 0 _ (stg_0 hg) (rows_stepsC (fun r hr => by cases hr) hg)
  have : (comp ts).rows.getD i zr ∈ (endC ts).rows := List.mem_of_getElem? (get_getD (l := (comp ts).rows) hi zr)
  exact hr _ this
 ·have := hno.cmp p hp h3
  exact ⟨⟨this.1, this.2.1⟩, this.2.2.1⟩
end Go.Proofs.YtkhejkfjhddobaaGreatDoor
