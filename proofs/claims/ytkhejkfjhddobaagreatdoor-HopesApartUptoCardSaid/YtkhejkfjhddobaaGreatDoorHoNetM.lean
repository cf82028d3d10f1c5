/- What Compile makes never leads hopes astray. -/
import Derived.Test.YtkhejkfjhddobaaGreatDoorHoOpenM
set_option maxRecDepth 100000
set_option maxHeartbeats 32000000
set_option linter.unusedSimpArgs false
namespace Gim
open Go Go.RowKit
structure yKa (P R : Nat) (p : yAG) : Prop where
 op : 0 ≤ p.op ∧ p.op ≤ 3
 args : ∀ a ∈ p.args, 0 ≤ a ∧ a < P
 some : 0 ≤ p.first ∧ 0 ≤ p.count ∧ p.first + p.count ≤ R ∧ 0 ≤ p.cmp ∧ p.cmp ≤ 8 ∧ 0 ≤ p.num
theorem yKa.up {P R P' R' : Nat} {p : yAG} (h : yKa P R p) (hP : P ≤ P') (hR : R ≤ R') : yKa P' R' p :=
 ⟨h.op, fun a ha => by have := h.args a ha; omega, by have := h.some; omega⟩
structure yEi (st : Cst) : Prop where
 preds : ∀ p ∈ st.preds, yKa st.preds.length st.rows.length p
 rows : ∀ r ∈ st.rows, ∀ q ∈ r.ps, 0 ≤ q ∧ q < st.preds.length
theorem yHg {st : Cst} {op : Int} (h : yEi st) (h0 : 0 ≤ op) (h3 : op ≤ 3) : yEi (addPred st op) := by
 have hl : (addPred st op).preds.length = st.preds.length + 1 := by simp [addPred]
 refine ⟨fun p hp => ?_, fun r hr q hq => ?_⟩
 ·rw [hl]; have hp : p ∈ st.preds ++ [yBf op] := hp; rcases List.mem_append.1 hp with hp | hp
  ·exact (h.preds p hp).up (by omega) (jr _)
  ·rw [List.mem_singleton.1 hp]; exact ⟨⟨h0, h3⟩, (fun a ha => by cases ha), by simp [yBf]⟩
 ·have := h.rows r hr q hq; rw [hl]; omega
theorem yOg {st : Cst} {k : Nat} {n : Int} (h : yEi st) (h0 : 0 ≤ n) (h1 : n < st.preds.length) : yEi (addArg st k n) := by
 have hl : (addArg st k n).preds.length = st.preds.length := by simp [addArg]
 refine ⟨fun p hp => ?_, fun r hr q hq => ?_⟩
 ·rw [hl]; rcases mem_modify hp with hp | ⟨y, hy, rfl⟩
  ·exact h.preds p hp
  ·have hg := h.preds y hy; refine ⟨hg.op, fun a ha => ?_, hg.some⟩; have ha : a ∈ y.args ++ [n] := ha; rcases List.mem_append.1 ha with ha | ha
   ·exact hg.args a ha
   ·rw [List.mem_singleton.1 ha]; exact ⟨h0, h1⟩
 ·rw [hl]; exact h.rows r hr q hq
theorem yNw {st : Cst} {k : Nat} {n : Int} (h : yEi st) (h0 : 0 ≤ n) (h1 : n < st.preds.length) : yEi (addRow st k n) := by
 have hl : (addRow st k n).rows.length = st.rows.length := by simp [addRow]
 refine ⟨fun p hp => ?_, fun r hr q hq => ?_⟩
 ·rw [hl]; exact h.preds p hp
 ·rcases mem_modify hr with hr | ⟨y, hy, rfl⟩
  ·exact h.rows r hr q hq
  ·have hq : q ∈ y.ps ++ [n] := hq; rcases List.mem_append.1 hq with hq | hq
   ·exact h.rows y hy q hq
   ·rw [List.mem_singleton.1 hq]; exact ⟨h0, h1⟩
theorem yJ3 {st : Cst} {ts : List St} (h : ∀ p ∈ st.preds, yKa st.preds.length (st.rows.length + ts.length) p) (hr : ∀ r ∈ st.rows, ∀ q ∈ r.ps, 0 ≤ q ∧ q < st.preds.length) : yEi (yAh st ts) := by
 have hl : (yAh st ts).rows.length = st.rows.length + ts.length := by simp [yAh]
 refine ⟨fun p hp => ?_, fun r hrr q hq => ?_⟩
 ·rw [hl]; exact h p hp
 ·have hrr : r ∈ st.rows ++ ts.map yCx := hrr; rcases List.mem_append.1 hrr with h1 | h1
  ·exact hr r h1 q hq
  ·obtain ⟨t, _, e⟩ := List.mem_map.1 h1; rw [← e] at hq; cases t; cases hq
theorem yR5 {st : Cst} {k : Nat} {ts : List St} {nm : ByteArray} {cmp : Int} {txt : ByteArray} {num : Int} (h : yEi st) (h0 : 0 ≤ cmp) (h8 : cmp ≤ 8) (hn : 0 ≤ num) : yEi (yAh (yCm st k ts.length nm cmp txt num) ts) := by
 have hl : (yCm st k ts.length nm cmp txt num).preds.length = st.preds.length := by simp [yCm]
 refine yJ3 (fun p hp => ?_) (fun r hr q hq => ?_)
 ·rw [hl]; show yKa _ (st.rows.length + ts.length) p; rcases mem_modify hp with hp | ⟨y, hy, rfl⟩
  ·exact (h.preds p hp).up (jr _) (Nat.le_add_right _ _)
  ·have hg := h.preds y hy; exact ⟨hg.op, hg.args, ⟨by simp, by simp, by simp, h0, h8, hn⟩⟩
 ·rw [hl]; exact h.rows r hr q hq
theorem yTx {cmp num : Int} {txt : ByteArray} (h : cmB cmp txt num = true) : 0 ≤ cmp ∧ cmp ≤ 8 ∧ 0 ≤ num := by
 unfold cmB at h; split at h
 ·simp only [jb, decide_eq_true_eq] at h; omega
 ·split at h
  ·simp only [jb, decide_eq_true_eq] at h; omega
  ·split at h
   ·simp only [jb, decide_eq_true_eq] at h; omega
   ·cases h
theorem yST {op : Int} {n : Nat} (h : lnB op n = true) : 0 ≤ op ∧ op ≤ 2 ∧ 0 < n := by
 unfold lnB at h; split at h
 ·simp only [decide_eq_true_eq] at h; omega
 ·split at h
  ·simp only [decide_eq_true_eq] at h; omega
  ·cases h
mutual
theorem yQN : ∀ (x : Ex) (st : Cst), gdX x = true → yEi st → yEi (cX x st)
 | .mk op args sts nm cmp txt num, st, hg, h => by
  unfold gdX at hg; unfold cX; by_cases h3 : op = 3
  ·rw [if_pos h3] at hg ⊢; simp only [jb] at hg; have hc := yTx hg.2.2.2; exact yR5 (yHg h (by omega) (by omega)) hc.1 hc.2.1 hc.2.2
  ·rw [if_neg h3] at hg ⊢; simp only [jb] at hg; obtain ⟨_, _, _, _, _, hl, ha⟩ := hg; have hl := yST hl; exact yPf args _ _ ha (yHg h (by omega) (by omega))
theorem yPf : ∀ (l : List Ex) (k : Nat) (st : Cst), yAQ l = true → yEi st → yEi (cXL l k st)
 | [], _, st, _, h => by unfold cXL; exact h
 | x :: r, k, st, hg, h => by unfold yAQ at hg; simp only [jb] at hg; unfold cXL; refine yPf r k _ hg.2 (yOg (yQN x st hg.1 h) (by omega) ?_); have h1 := (yCd x st).preds; have h2 := (yBE x).2; omega
end
theorem yLn : ∀ (l : List Ex) (k : Nat) (st : Cst), yAQ l = true → yEi st → yEi (yA5 k l st)
 | [], _, st, _, h => by unfold yA5; exact h
 | x :: r, k, st, hg, h => by unfold yAQ at hg; simp only [jb] at hg; unfold yA5; refine yLn r k _ hg.2 (yNw (yQN x st hg.1 h) (by omega) ?_); have h1 := (yCd x st).preds; have h2 := (yBE x).2; omega
def yDF (E : Nat → Prop) (st : Cst) : Prop := ∀ k p, st.preds[k]? = some p → p.op = 2 → ¬ E k → 0 < p.args.length
theorem yLQ {E : Nat → Prop} {st : Cst} {op : Int} (h : yDF E st) : yDF (fun k => E k ∨ k = st.preds.length) (addPred st op) := by intro k p hp h2 hk; have hp : (st.preds ++ [yBf op])[k]? = some p := hp; have hlt : k < (st.preds ++ [yBf op]).length := (ji.1 hp).1; rw [jp, List.length_singleton] at hlt; rw [List.getElem?_append_left (by have : ¬ k = st.preds.length := fun e => hk (.inr e); omega)] at hp; exact h k p hp h2 fun e => hk (.inl e)
theorem yKX {E : Nat → Prop} {st : Cst} {op : Int} (h : yDF E st) (hop : op ≠ 2) : yDF E (addPred st op) := by
 intro k p hp h2 hk; have hp : (st.preds ++ [yBf op])[k]? = some p := hp; by_cases hl : k < st.preds.length
 ·rw [List.getElem?_append_left hl] at hp; exact h k p hp h2 hk
 ·rw [List.getElem?_append_right (by omega)] at hp; have := List.mem_of_getElem? hp; rw [List.mem_singleton.1 this] at h2; exact absurd h2 hop
theorem yIh {E : Nat → Prop} {st : Cst} {k : Nat} {f : yAG → yAG} (h : yDF E st) (hop : ∀ p, (f p).op = p.op) (hl : ∀ p, p.args.length ≤ (f p).args.length) {rows : List yCK} {wh : List (List Ex)} : yDF E ⟨rows, wh, st.preds.modify k f⟩ := by
 intro i p hp h2 hk; have hp : (st.preds.modify k f)[i]? = some p := hp; by_cases hi : k = i
 ·subst hi; rw [List.getElem?_modify_eq] at hp; cases e : st.preds[k]? with
  | none => rw [e] at hp; cases hp
  | some y =>
   rw [e] at hp; injection hp with hp; subst hp; rw [hop] at h2; have := h k y e h2 hk; have := hl y; omega
 ·rw [List.getElem?_modify_ne _ _ hi] at hp; exact h i p hp h2 hk
theorem yM4 {E : Nat → Prop} {st : Cst} (h : yDF E st) (k c : Nat) (nm : ByteArray) (cmp : Int) (txt : ByteArray) (num : Int) (ts : List St) : yDF E (yAh (yCm st k c nm cmp txt num) ts) :=
 yIh (k := k) (f := fun p => { p with first := st.rows.length, count := c, attr := nm, cmp := cmp, txt := txt, num := num }) h (fun _ => rfl) (fun _ => jr _)
theorem yL6 {E : Nat → Prop} {st : Cst} (h : yDF E st) (k : Nat) (n : Int) : yDF E (addArg st k n) :=
 yIh (k := k) (f := fun p => { p with args := p.args ++ [n] }) h (fun _ => rfl) (fun _ => by simp)
theorem yNQ {E : Nat → Prop} {st : Cst} {k : Nat} {n : Int} (h : yDF (fun j => E j ∨ j = k) st) : yDF E (addArg st k n) := by
 intro i p hp h2 hk; have hp : (st.preds.modify k fun p => { p with args := p.args ++ [n] })[i]? = some p := hp; by_cases hi : k = i
 ·subst hi; rw [List.getElem?_modify_eq] at hp; cases e : st.preds[k]? with
  | none => rw [e] at hp; cases hp
  | some y =>
   rw [e] at hp; injection hp with hp; subst hp; simp
 ·rw [List.getElem?_modify_ne _ _ hi] at hp; exact h i p hp h2 fun e => e.elim hk fun e => hi e.symm
mutual
theorem yN8 : ∀ (x : Ex) (st : Cst) (E : Nat → Prop), gdX x = true → yDF E st → yDF E (cX x st)
 | .mk op args sts nm cmp txt num, st, E, hg, h => by
  unfold gdX at hg; unfold cX; by_cases h3 : op = 3
  ·rw [if_pos h3]; exact yM4 (yKX h (by omega)) _ _ _ _ _ _ _
  ·rw [if_neg h3] at hg ⊢; simp only [jb] at hg; obtain ⟨_, _, _, _, _, hl, ha⟩ := hg; have hl := yST hl; cases args with
   | nil => exact absurd hl.2.2 (by simp)
   | cons a r =>
    unfold yAQ at ha; simp only [jb] at ha; unfold cXL; exact yOB r _ _ E ha.2 (yNQ (yN8 a _ _ ha.1 (yLQ h)))
theorem yOB : ∀ (l : List Ex) (k : Nat) (st : Cst) (E : Nat → Prop), yAQ l = true → yDF E st → yDF E (cXL l k st)
 | [], _, st, _, _, h => by unfold cXL; exact h
 | x :: r, k, st, E, hg, h => by unfold yAQ at hg; simp only [jb] at hg; unfold cXL; exact yOB r k _ E hg.2 (yL6 (yN8 x st E hg.1 h) _ _)
end
theorem yLR : ∀ (l : List Ex) (k : Nat) (st : Cst) (E : Nat → Prop), yAQ l = true → yDF E st → yDF E (yA5 k l st)
 | [], _, st, _, _, h => by unfold yA5; exact h
 | x :: r, k, st, E, hg, h => by unfold yAQ at hg; simp only [jb] at hg; unfold yA5; exact yLR r k _ E hg.2 (show yDF E (addRow (cX x st) k st.preds.length) from yN8 x st E hg.1 h)
theorem yO8 : ∀ (f i : Nat) (st : Cst), yDM st → yEi st → yDF (fun _ => False) st → yEi (yDp f i st) ∧ yDF (fun _ => False) (yDp f i st)
 | 0, _, st, _, h, h2 => ⟨h, h2⟩
 | f + 1, i, st, hg, h, h2 => by
  unfold yDp; split
  ·have hgd : yAQ (st.wh.getD i []) = true := by
    rw [jg]; cases e : st.wh[i]? with
    | none => rfl
    | some xs => exact hg xs (List.mem_of_getElem? e)
   exact yO8 f (i + 1) _ (yEV _ i st hgd hg) (yLn _ i st hgd h) (yLR _ i st _ hgd h2)
  ·exact ⟨h, h2⟩
end Gim
namespace Go.Proofs.YtkhejkfjhddobaaGreatDoor
open Go.RowKit Gim
theorem yIm {nd : yAc} {ts : List Gim.St} (h : yA4 nd = some ts) (hl : yJk nd) : yB2 nd := by
 obtain ⟨hok, hc, _, _⟩ := yIr h; have hg : yBk ts = true := by unfold okP gdP at hok; simp only [jb] at hok; exact hok.1.2
 have hI := yO8 (ts.length + yBe ts + 1) 0 (yAh ⟨[], [], []⟩ ts) (yDs (by intro xs hx; cases hx) hg) (yJ3 (fun p hp => by cases hp) (fun r hr => by cases hr)) (fun k p hp => by simp [yAh] at hp); have hr : nd.rows = (yDp (ts.length + yBe ts + 1) 0 (yAh ⟨[], [], []⟩ ts)).rows := by rw [hc]; rfl
 have hp : nd.preds = (yDp (ts.length + yBe ts + 1) 0 (yAh ⟨[], [], []⟩ ts)).preds := by rw [hc]; rfl
 obtain ⟨⟨i1, i2⟩, i3⟩ := hI; rw [← hp, ← hr] at i1; rw [← hp] at i2; rw [← hr] at i2; have hsum := hl.sum; have at_ : ∀ p, p < nd.preds.length → nd.preds[p]? = some (nd.preds.getD p zp) := fun p h => yAi h zp
 have ar : ∀ p, p < nd.rows.length → nd.rows[p]? = some (nd.rows.getD p zr) := fun p h => yAi h zr
 refine ⟨by omega, by omega, fun p h => (i1 _ (List.mem_of_getElem? (at_ p h))).op, fun p h => ⟨hl.lx p, (i1 _ (List.mem_of_getElem? (at_ p h))).args⟩, fun p h h2 => i3 p _ (by rw [← hp]; exact at_ p h) h2 id, fun p h _ => ?_, fun i h => ⟨hl.ly i, i2 _ (List.mem_of_getElem? (ar i h))⟩, fun p h _ => ?_⟩
 ·have := (i1 _ (List.mem_of_getElem? (at_ p h))).some; exact ⟨this.1, this.2.1, this.2.2.1⟩
 ·have h1 := (i1 _ (List.mem_of_getElem? (at_ p h))).some; have h2 := hl.nb.preds p; exact ⟨h1.2.2.2.1, h1.2.2.2.2.1, h1.2.2.2.2.2, by omega⟩
structure NewM (w w' : World) (nd : yAc) (H K F G : Nat) (mn : Int) (va vb : Value) (lo hi : Nat) (tg : Nat → Nat × Nat) : Prop where
 hH : w'.heap[H]? = some (.cells #[.int .i64 mn, va, vb, .pointer (some ⟨K, 0, none⟩), .slice (some ⟨G, 0, none⟩) 1 1, .slice none 0 0, .slice none 0 0] 87)
 hK : w'.heap[K]? = some (.cells #[.slice none 0 0, .int .i64 0, .bool false, .bool false] 101)
 hG : w'.heap[G]? = some (.cells #[.pointer (some ⟨F, 0, none⟩)] 102)
 net : yHF lo hi w' nd va vb
 fr : FrM w' tg 0 F nd.rows.length nd.preds.length (yAr nd 0 ByteArray.empty [])
 low : w.heap.size ≤ lo
 ord : hi ≤ K ∧ K < H ∧ H < G ∧ lo ≤ hi
 out : ∀ b, b ≤ H → (tg b).1 ≠ 0
 g : (tg G).1 ≠ 0
def NewP (w : World) (nd : yAc) (e : Ending) (w' : World) : Prop :=
 Below w.heap.size w w' ∧ ((yA4 nd = none ∧ e = .returned (.tuple #[.pointer none, .int .i64 6])) ∨ ((∃ ts, yA4 nd = some ts) ∧ ∃ H K F G mn va vb lo hi tg, e = .returned (.tuple #[.pointer (some ⟨H, 0, none⟩), .int .i64 0]) ∧ NewM w w' nd H K F G mn va vb lo hi tg))
theorem yM8 (nd : yAc) (ra : Option Addr) (rc : Nat) (pa : Option Addr) (pc : Nat) (w : World) (hR : yA2 w nd.rows ra nd.rows.length rc) (hP : yAR w nd.preds pa nd.preds.length pc) (hT : yBd w) (hl : yJk nd) :
  Calls Tryz.prog 15 #[.agg #[.int .i64 nd.main, .slice ra nd.rows.length rc, .slice pa nd.preds.length pc]] w (NewP w nd) := by
 obtain ⟨mn, hmn⟩ := je (nd.main); obtain ⟨nr, hnr⟩ := je (nd.rows.length); obtain ⟨np, hnp⟩ := je (nd.preds.length); obtain ⟨W1, hW1⟩ := je (w.alloc (.cells #[.int .i64 nd.main, .slice ra nd.rows.length rc, .slice pa nd.preds.length pc] 36)); have b1 : Below w.heap.size w W1 := by rw [← hW1]; exact (jf _ _).alloc (jr _) _
 have hX1 : W1.heap[w.heap.size]? = some (.cells #[.int .i64 nd.main, .slice ra nd.rows.length rc, .slice pa nd.preds.length pc] 36) := by rw [← hW1]; exact jw _ _
 have hC := yIR nd ra rc pa pc W1 (hR.below b1) (hP.below b1) (hT.below b1) hl; have hPC : ∀ W, Below W1.heap.size W1 W → Calls Tryz.prog 37 #[.agg #[.int .i64 nd.main, .slice ra nd.rows.length rc, .slice pa nd.preds.length pc]] W (yPa W nd) := fun W hb => yIX nd ra rc pa pc W ((hR.below b1).below hb) ((hP.below b1).below hb) ((hT.below b1).below hb) hl
 rw [hmn, hnr, hnp] at hC hPC hX1 hW1 ⊢; have y0 := jc hX1 0 rfl; have y1 := jc hX1 1 rfl; have y2 := jc hX1 2 rfl; have h1s : w.heap.size < W1.heap.size := jl hX1; have HW1 := jh hW1; have HX1 := jh hX1; have HB1 := jh b1; have HC := jh hC; have HPC := jh hPC; have HL := jh hl; have HT1 := jh (hT.below b1); have HNP := jh (And.intro hnp hnr); clear hR hP hT hl hmn hnr hnp b1 hC hPC hW1 hX1; go_enter Tryz.func15, Tryz.ntmps15; go_upto_region 1 with fail; rw [HW1.out]; go_wp2_with fail; refine HC.out.mono ?_; rintro e w2 ⟨hb2, h⟩; have HB2 := jh hb2; rcases h with ⟨⟨ts, hts⟩, rfl⟩ | ⟨h1, rfl⟩
 ·have HTS := jh hts; have y0 : w2.cell? ⟨w.heap.size, 0, none⟩ = some (.int .i64 mn) := (hb2.cell h1s).trans y0; have y1 : w2.cell? ⟨w.heap.size, 1, none⟩ = some (.slice ra nr rc) := (hb2.cell h1s).trans y1; have y2 : w2.cell? ⟨w.heap.size, 2, none⟩ = some (.slice pa np pc) := (hb2.cell h1s).trans y2; have h2s : w.heap.size < w2.heap.size := jt h1s hb2.size; clear hb2 hts HC; go_wp2_with fail; refine (HPC.out w2 HB2.out).mono ?_; rintro e w3 ⟨hb3, h⟩; rcases h with ⟨ts', a, n, c, h1, rfl, hF⟩ | ⟨h1, rfl⟩
  ·have het : ts' = ts := by have := HTS.out; rw [h1] at this; injection this
   subst het; obtain ⟨W4, hW4⟩ := je (w3.alloc (.cells #[.slice a n c] 25)); have hX4 : W4.heap[w3.heap.size]? = some (.cells #[.slice a n c] 25) := by rw [← hW4]; exact jw _ _
   have b4 : Below w3.heap.size w3 W4 := by rw [← hW4]; exact (jf _ _).alloc (jr _) _
   have hb24 := hb3.trans (b4.mono hb3.size); have hok := yIr HTS.out; have hlw := HL.out.w hok.2.2.2; rw [← hok.2.2.1] at hlw; have hCC := yD6 ts' a n c W4 (hF.below b4) ((HT1.out.below HB2.out).below hb24) hlw.1 hlw.2; have HCC := jh hCC; have HND := jh hok; have HB4 := jh hb24; have HW4 := jh hW4; have x0 := jc hX4 0 rfl; have h4s : w3.heap.size < W4.heap.size := jl hX4; have hX4n : W4.heap[w.heap.size]? = some (.cells #[.int .i64 mn, .slice ra nr rc, .slice pa np pc] 36) := (hb24.block _ h2s).trans ((HB2.out.block _ h1s).trans HX1.out); have HXN := jh hX4n; have h4n : w.heap.size < W4.heap.size := jl hX4n; clear h1 hF hb3 hX4 b4 hb24 hok hlw hCC hW4 hX4n y0 y1 y2 HPC; go_upto_region 5 with fail; rw [HW4.out]; go_wp2_with fail; refine HCC.out.mono ?_; rintro e w5 ⟨hb5, h⟩; rw [if_pos HND.out.1, ← HND.out.2.1] at h; obtain ⟨va, vb, rfl, hNA⟩ := h; obtain ⟨r5, rc5, p5, pc5, rfl, rfl, _, _⟩ := hNA w5 (fun _ _ _ => rfl); obtain ⟨m5, hm5⟩ := je ((ts'.length : Int) : Int); rw [HNP.out.1, HNP.out.2] at hNA ⊢; rw [hm5]; have HNA := jh hNA; have HB5 := jh hb5; have hX5 := (hb5.block _ h4n).trans HXN.out; have HX5 := jh hX5; have y0 := jc hX5 0 rfl; have y1 := jc hX5 1 rfl; have y2 := jc hX5 2 rfl; have z0 := yAd hX5 0; have z1 := yAd hX5 1; have z2 := yAd hX5 2; have h5n : w.heap.size < w5.heap.size := jl hX5; clear hb5 hNA hX5 HCC x0 hm5; go_upto_region 7 with fail; obtain ⟨wS, hwS⟩ := je ((((w5.setCell ⟨w.heap.size, 0, none⟩ (.int .i64 m5)).setCell ⟨w.heap.size, 1, none⟩ (.slice r5 nr rc5)).setCell ⟨w.heap.size, 2, none⟩ (.slice p5 np pc5))); have hSs : wS.heap.size = w5.heap.size := by rw [← hwS]; simp
   have hSo : ∀ b, b ≠ w.heap.size → wS.heap[b]? = w5.heap[b]? := fun b hb => by rw [← hwS]; exact (js _ ⟨w.heap.size, 2, none⟩ _ b hb).trans ((js _ ⟨w.heap.size, 1, none⟩ _ b hb).trans (js _ ⟨w.heap.size, 0, none⟩ _ b hb))
   have hSB : Below w.heap.size w wS := by rw [← hwS]; have hb : Below w.heap.size w w5 := HB1.out.trans ((HB2.out.trans ((HB4.out.trans (HB5.out.mono HB4.out.size)).mono HB2.out.size)).mono HB1.out.size); exact ((hb.setCell (p := ⟨w.heap.size, 0, none⟩) (jr _) _).setCell (p := ⟨w.heap.size, 1, none⟩) (jr _) _).setCell (p := ⟨w.heap.size, 2, none⟩) (jr _) _
   obtain ⟨W8, hW8⟩ := je ((wS.alloc (.cells #[.slice none 0 0, .int .i64 0, .bool false, .bool false] 101)).alloc (.cells #[.int .i64 m5, .slice r5 nr rc5, .slice p5 np pc5, .pointer (some ⟨w5.heap.size, 0, none⟩), .slice none 0 0, .slice none 0 0, .slice none 0 0] 87)); have hal := yDj wS (.cells #[.slice none 0 0, .int .i64 0, .bool false, .bool false] 101) (.cells #[.int .i64 m5, .slice r5 nr rc5, .slice p5 np pc5, .pointer (some ⟨w5.heap.size, 0, none⟩), .slice none 0 0, .slice none 0 0, .slice none 0 0] 87); rw [hW8, hSs] at hal; obtain ⟨k8, h8, s8, b8⟩ := hal; have hlo4 : w.heap.size < W4.heap.size := h4n; have hlo5 := HB5.out.size; have hNA8 : yHF W4.heap.size w5.heap.size W8 nd (.slice r5 nr rc5) (.slice p5 np pc5) := HNA.out.moved (jr _) (jr _) fun b hb1 hb2 => (b8.block b hb2).trans (hSo b (by omega))
   have hNet : yHI W8 (w5.heap.size + 1) nd := by
    obtain ⟨ra8, rc8, pa8, pc8, e1, e2, hf1, hf2⟩ := hNA8 W8 (fun _ _ _ => rfl); rw [HNP.out.2] at e1; rw [HNP.out.1] at e2; have e1' : r5 = ra8 ∧ rc5 = rc8 := by injection e1 with a b c; exact ⟨a, c⟩
    have e2' : p5 = pa8 ∧ pc5 = pc8 := by injection e2 with a b c; exact ⟨a, c⟩
    rw [← e1'.1, ← e1'.2] at hf1; rw [← e2'.1, ← e2'.2] at hf2; exact ⟨⟨m5, r5, rc5, p5, pc5, _, _, _, _, by rw [HNP.out.1, HNP.out.2]; exact h8, hf1, hf2⟩⟩
   have hOP : Calls Tryz.prog 38 #[.pointer (some ⟨w5.heap.size + 1, 0, none⟩), .int .i64 0, .string { data := #[] }, .slice none 0 0] W8 (yRC W8 nr np (yAr nd 0 ByteArray.empty [])) := by have := yFH nd (w5.heap.size + 1) 0 ByteArray.empty [] none 0 0 W8 hNet (yIm HTS.out HL.out) (yAO.nil _) (fun x hx => by cases hx); rw [HNP.out.1, HNP.out.2] at this; exact this
   have HOP := jh hOP; have HNA8 := jh hNA8; have HK8 := jh k8; have HH8 := jh h8; have HS8 := jh s8; have HB8 := jh (hSB.trans (b8.mono (by have := hSB.size; omega))); have HW8 := jh hW8; have hk8s : w5.heap.size < W8.heap.size := by omega
   have hh8s : w5.heap.size + 1 < W8.heap.size := by omega
   rw [hwS, hW8]; clear hOP hNA8 k8 h8 s8 b8 hSB hW8 hSs hSo hwS hNet y0 y1 y2 z0 z1 z2; go_wp2_with fail; refine HOP.out.mono ?_; rintro e w9 ⟨F, tg, rfl, hFM, htg, hb9⟩; have hh9 := (hb9.block _ hh8s).trans HH8.out; have hk9 := (hb9.block _ hk8s).trans HK8.out; have q4 := jc hh9 4 rfl; have zq := yAd hh9 4; have h9s : w5.heap.size + 1 < w9.heap.size := jl hh9; have HH9 := jh hh9; have HK9 := jh hk9; have HB9 := jh hb9; have HFM := jh hFM; have HTG := jh htg; have HFIN : Hid (NewP w nd (.returned (.tuple #[.pointer (some ⟨w5.heap.size + 1, 0, none⟩), .int .i64 0])) ((w9.setCell ⟨w5.heap.size + 1, 4, none⟩ (.slice (some ⟨w9.heap.size, 0, none⟩) 1 1)).alloc (.cells #[.pointer (some ⟨F, 0, none⟩)] 102))) := jh (by
    have hws : w.heap.size ≤ w5.heap.size + 1 := by omega
    have hb98 : Below w.heap.size w w9 := HB8.out.trans (hb9.mono HB8.out.size); have hh10 := yAu hh9 (i := 4) (.slice (some ⟨w9.heap.size, 0, none⟩) 1 1); have ho10 : ∀ b, b ≠ w5.heap.size + 1 → (w9.setCell ⟨w5.heap.size + 1, 4, none⟩ (.slice (some ⟨w9.heap.size, 0, none⟩) 1 1)).heap[b]? = w9.heap[b]? := fun b hb => js _ ⟨w5.heap.size + 1, 4, none⟩ _ b hb
    have hb10 : Below w.heap.size w (w9.setCell ⟨w5.heap.size + 1, 4, none⟩ (.slice (some ⟨w9.heap.size, 0, none⟩) 1 1)) := hb98.setCell (p := ⟨w5.heap.size + 1, 4, none⟩) hws _; obtain ⟨w10, hw10⟩ := je (w9.setCell ⟨w5.heap.size + 1, 4, none⟩ (.slice (some ⟨w9.heap.size, 0, none⟩) 1 1)); have hs10 : w10.heap.size = w9.heap.size := by rw [← hw10]; simp
    rw [hw10] at hh10 ho10 hb10 ⊢; have hnew := jw w10 (.cells #[.pointer (some ⟨F, 0, none⟩)] 102); rw [hs10] at hnew; have hold : ∀ b, b < w9.heap.size → (w10.alloc (.cells #[.pointer (some ⟨F, 0, none⟩)] 102)).heap[b]? = w10.heap[b]? := fun b hb => heap_alloc_old _ _ (by rw [hs10]; exact hb)
    have h98 := hb9.size; refine ⟨hb10.alloc hb10.size _, .inr ⟨⟨_, HTS.out⟩, w5.heap.size + 1, w5.heap.size, F, w9.heap.size, m5, .slice r5 nr rc5, .slice p5 np pc5, W4.heap.size, w5.heap.size, (fun b => if b < w9.heap.size then tg b else (1, 0)), rfl, ?_⟩⟩; refine ⟨?_, ?_, hnew, ?_, ?_, Nat.le_of_lt hlo4, ⟨jr _, by omega, by omega, hlo5⟩, fun b hb => ?_, by simp⟩
    ·rw [hold _ h9s, hh10]; rfl
    ·rw [hold _ (by omega), ho10 _ (by omega)]; exact hk9
    ·exact HNA8.out.moved (jr _) (jr _) fun b hb1 hb2 => (hold b (by omega)).trans ((ho10 b (by omega)).trans (hb9.block b (by omega)))
    ·rw [HNP.out.1, HNP.out.2]; refine hFM.keep (fun b k hb ht => (hold b hb).trans (ho10 b ?_)) (fun b k hb ht => by simp only [hb, if_true]; exact ht); rintro rfl; exact htg _ hh8s (by rw [ht])
    ·show (if b < w9.heap.size then tg b else ((1 : Nat), (0 : Nat))).1 ≠ 0; rw [if_pos (by omega)]; exact htg b (by omega))
   clear hFM htg hb9 hh9 hk9; go_wp2_with fail; go_ret2; exact HFIN.out
  ·exact absurd (HTS.out.symm.trans h1) (by simp)
 ·have H1 := jh h1; clear HC HPC hb2 h1; go_wp2_with fail; go_ret2; exact ⟨HB1.out.trans (HB2.out.mono HB1.out.size), .inl ⟨H1.out, rfl⟩⟩
end Go.Proofs.YtkhejkfjhddobaaGreatDoor
