/- A path that is not great has few steps and expressions: plain. -/
import Derived.Test.YtkhejkfjhddobaaGreatDoorNetLayM
import Derived.Test.YtkhejkfjhddobaaGreatDoorHoEntriesM
namespace Gim
structure yFI (B N : Nat) (st : Cst) : Prop where
 p : ∀ q ∈ st.preds, 1 + q.attr.size + q.txt.size ≤ B ∧ ∃ a c : Nat, q.first = a ∧ q.count = c ∧ a + c ≤ N
 r : ∀ q ∈ st.rows, 1 + q.nm.size ≤ B
 w : ∀ l ∈ st.wh, wXL l ≤ B
theorem yNz {t : St} : ∀ {l : List St}, t ∈ l → wT t ≤ wTL l
 | [], h => by cases h
 | x :: r, h => by
  have e : wTL (x :: r) = wT x + wTL r := by
   conv => lhs; unfold wTL
  rw [List.mem_cons] at h; rcases h with h | h
  ·subst h; omega
  ·have := yNz h; omega
theorem yG9 {B N : Nat} {st : Cst} (h : yFI B N st) {ts : List St} (hw : wTL ts ≤ B) : yFI B N (yAh st ts) := by
 refine ⟨h.p, fun q hq => ?_, fun l hl => ?_⟩
 ·have hq : q ∈ st.rows ++ ts.map yCx := hq; rw [List.mem_append, List.mem_map] at hq; rcases hq with hq | ⟨t, ht, rfl⟩
  ·exact h.r q hq
  ·have := yNz ht; cases t; unfold wT at this; simp only [yCx]; omega
 ·have hl : l ∈ st.wh ++ ts.map yFb := hl; rw [List.mem_append, List.mem_map] at hl; rcases hl with hl | ⟨t, ht, rfl⟩
  ·exact h.w l hl
  ·have := yNz ht; cases t; unfold wT at this; simp only [yFb]; omega
theorem yMV {B N : Nat} {st : Cst} (h : yFI B N st) (hB : 1 ≤ B) (op : Int) : yFI B N (addPred st op) := by
 refine ⟨fun q hq => ?_, h.r, h.w⟩; have hq : q ∈ st.preds ++ [yBf op] := hq; rw [List.mem_append, List.mem_singleton] at hq; rcases hq with hq | rfl
 ·exact h.p q hq
 ·exact ⟨by simpa [yBf] using hB, 0, 0, rfl, rfl, jz _⟩
theorem yNL {B N : Nat} {st : Cst} (h : yFI B N st) (k : Nat) (n : Int) : yFI B N (addArg st k n) := by
 refine ⟨fun q hq => ?_, h.r, h.w⟩; rcases mem_modify hq with hq | ⟨y, hy, rfl⟩
 ·exact h.p q hq
 ·exact h.p y hy
theorem yN5 {B N : Nat} {st : Cst} (h : yFI B N st) (k : Nat) (n : Int) : yFI B N (addRow st k n) := by
 refine ⟨h.p, fun q hq => ?_, h.w⟩; rcases mem_modify hq with hq | ⟨y, hy, rfl⟩
 ·exact h.r q hq
 ·exact h.r y hy
mutual
theorem yRx {B N : Nat} : ∀ (x : Ex) (st : Cst), yFI B N st → wX x ≤ B → st.rows.length + rcX x ≤ N → yFI B N (cX x st)
 | .mk op args sts nm cmp txt num, st, h, hw, hN => by
  have e : wX (.mk op args sts nm cmp txt num) = 1 + nm.size + txt.size + wXL args + wTL sts := by
   conv => lhs; unfold wX
  rw [e] at hw; have h1 := yMV h (show 1 ≤ B by omega) op; unfold rcX at hN; unfold cX; by_cases h3 : op = 3
  ·rw [if_pos h3] at hN ⊢; have hs : wTL sts ≤ B := by omega
   refine yG9 (st := yCm (addPred st op) st.preds.length sts.length nm cmp txt num) (ts := sts) ⟨fun q hq => ?_, h1.r, h1.w⟩ hs; rcases mem_modify hq with hq | ⟨y, hy, rfl⟩
   ·exact h1.p q hq
   ·exact ⟨by show 1 + nm.size + txt.size ≤ B; omega, st.rows.length, sts.length, rfl, rfl, hN⟩
  ·rw [if_neg h3] at hN ⊢; exact yOK args st.preds.length _ h1 (by omega) hN
theorem yOK {B N : Nat} : ∀ (l : List Ex) (k : Nat) (st : Cst), yFI B N st → wXL l ≤ B → st.rows.length + yAV l ≤ N → yFI B N (cXL l k st)
 | [], k, st, h, _, _ => by unfold cXL; exact h
 | x :: r, k, st, h, hw, hN => by
  have e : wXL (x :: r) = wX x + wXL r := by
   conv => lhs; unfold wXL
  have e2 : yAV (x :: r) = rcX x + yAV r := by
   conv => lhs; unfold yAV
  rw [e] at hw; rw [e2] at hN; unfold cXL; have h1 := yRx x st h (by omega) (by omega); have hr := (yCd x st).rows; exact yOK r k _ (yNL h1 k _) (by omega) (by show (cX x st).rows.length + yAV r ≤ N; omega)
end
theorem yL8 {B N : Nat} (i : Nat) : ∀ (l : List Ex) (st : Cst), yFI B N st → wXL l ≤ B → st.rows.length + yAV l ≤ N → yFI B N (yA5 i l st)
 | [], st, h, _, _ => by unfold yA5; exact h
 | x :: r, st, h, hw, hN => by
  have e : wXL (x :: r) = wX x + wXL r := by
   conv => lhs; unfold wXL
  have e2 : yAV (x :: r) = rcX x + yAV r := by
   conv => lhs; unfold yAV
  rw [e] at hw; rw [e2] at hN; unfold yA5; have h1 := yRx x st h (by omega) (by omega); have hr := (yCd x st).rows; exact yL8 i r _ (yN5 h1 i _) (by omega) (by show ((cX x st).rows.modify i _).length + yAV r ≤ N; rw [List.length_modify]; omega)
structure yOL (B S i : Nat) (st : Cst) : Prop where
 bnd : yFI B S st
 sum : st.rows.length + st.preds.length + yBb st i ≤ S
 wh : st.wh.length = st.rows.length
 args : yKY st.preds.length st
theorem yOA {st : Cst} {i : Nat} (h : i < st.wh.length) : yBb st i = yAU (st.wh.getD i []) + yBb st (i + 1) := by unfold yBb; rw [List.drop_eq_getElem_cons h, List.map_cons, List.sum_cons, jg, jk h]; rfl
theorem yK3 {B S : Nat} : ∀ (f i : Nat) (st : Cst), yOL B S i st → ∃ j, yOL B S j (yDp f i st)
 | 0, i, st, h => ⟨i, by unfold yDp; exact h⟩
 | f + 1, i, st, h => by
  unfold yDp; split
  ·rename_i hi; have hw : i < st.wh.length := by rw [h.wh]; exact hi
   have hp := yOA hw; have hsum := h.sum; have hsz := yDd (st.wh.getD i []); have hr := yCi (st.wh.getD i []) i st; have hm : st.wh.getD i [] ∈ st.wh := by rw [jg, jk hw]; exact List.getElem_mem hw
   refine yK3 f (i + 1) _ ⟨yL8 i _ st h.bnd (h.bnd.w _ hm) (by omega), ?_, by rw [hr.wh, hr.rows, h.wh], by rw [hr.preds]; exact hr.args _ h.args⟩; have e1 := hr.rows; have e2 := hr.preds; have e3 := hr.pend i (by omega); have e4 := yOA (st := yA5 i (st.wh.getD i []) st) (i := i) (by rw [hr.wh]; omega); have e5 : (yA5 i (st.wh.getD i []) st).wh.getD i [] = st.wh.getD i [] := by rw [jg, hr.old i hw, ← jg]
   rw [e5] at e4; omega
  ·exact ⟨i, h⟩
theorem yQR (ts : List St) : ∃ j, yOL (wTL ts + 1) (szP ts) j (yAe ts) := by
 refine yK3 _ 0 _ ⟨yG9 ⟨fun q hq => (by cases hq), fun q hq => (by cases hq), fun q hq => (by cases hq)⟩ (by omega), ?_, by simp [yAh], ?_⟩
 ·have h := (yBU ⟨[], [], []⟩ ts).pend 0 (jr _); have h0 : yBb (⟨[], [], []⟩ : Cst) 0 = 0 := rfl; have e1 : (yAh ⟨[], [], []⟩ ts).rows.length = ts.length := by simp [yAh]
  have e2 : (yAh ⟨[], [], []⟩ ts).preds.length = 0 := rfl; unfold szP; omega
 ·have := (yBU ⟨[], [], []⟩ ts).args 0 ⟨fun r hr => (by cases hr), fun r hr => (by cases hr)⟩; exact this
theorem yEP {ts : List St} (hs : szP ts ≤ 1048576) (hw : wTL ts ≤ 1099511627775) : yJk (comp ts) := by
 obtain ⟨j, h⟩ := yQR ts; have hsum := h.sum; have hlen : ts.length ≤ szP ts := Nat.le_add_right _ _; rw [yR9]; have hp : ∀ k, (yAe ts).preds.getD k zp = zp ∨ (yAe ts).preds.getD k zp ∈ (yAe ts).preds := fun k => by
  rw [jg]; cases e : (yAe ts).preds[k]? with
  | none => exact .inl rfl
  | some q => exact .inr (List.mem_of_getElem? e)
 have hr : ∀ k, (yAe ts).rows.getD k zr = zr ∨ (yAe ts).rows.getD k zr ∈ (yAe ts).rows := fun k => by
  rw [jg]; cases e : (yAe ts).rows[k]? with
  | none => exact .inl rfl
  | some q => exact .inr (List.mem_of_getElem? e)
 refine ⟨by show (yAe ts).rows.length + (yAe ts).preds.length ≤ _; omega, fun k => ?_, fun k => ?_, fun k => ?_, ?_, ⟨by decide, fun k => ?_, fun k => ?_⟩⟩
 ·show ((yAe ts).preds.getD k zp).args.length ≤ _; rcases hp k with e | e
  ·rw [e]; decide
  ·have := h.args.1 _ e; omega
 ·show ((yAe ts).rows.getD k zr).ps.length ≤ _; rcases hr k with e | e
  ·rw [e]; decide
  ·have := h.args.2 _ e; omega
 ·show InR ((yAe ts).preds.getD k zp).first ∧ InR ((yAe ts).preds.getD k zp).count; rcases hp k with e | e
  ·rw [e]; unfold InR; decide
  ·obtain ⟨_, a, c, e1, e2, e3⟩ := h.bnd.p _ e; rw [e1, e2]; unfold InR; omega
 ·show InR (ts.length : Int); unfold InR; omega
 ·show 1 + ((yAe ts).preds.getD k zp).attr.size + ((yAe ts).preds.getD k zp).txt.size ≤ _; rcases hp k with e | e
  ·rw [e]; decide
  ·have := (h.bnd.p _ e).1; omega
 ·show 1 + ((yAe ts).rows.getD k zr).nm.size ≤ _; rcases hr k with e | e
  ·rw [e]; decide
  ·have := h.bnd.r _ e; omega
end Gim
namespace Go.Proofs.YtkhejkfjhddobaaGreatDoor
open Go.RowKit Gim
theorem yHl (ts : List Gim.St) (w : World) (hok : okP ts = true) (hs : szP ts ≤ 1048576) (hw : wTL ts ≤ 1099511627775) (hT : yBd w) (ra : Option Addr) (rc : Nat) (pa : Option Addr) (pc : Nat) (hR : yA2 w (comp ts).rows ra (comp ts).rows.length rc) (hP : yAR w (comp ts).preds pa (comp ts).preds.length pc) :
  Calls Tryz.prog 15 #[.agg #[.int .i64 (comp ts).main, .slice ra (comp ts).rows.length rc, .slice pa (comp ts).preds.length pc]] w fun e w' => Below w.heap.size w w' ∧ yB2 (comp ts) ∧ ∃ H tg, e = .returned (.tuple #[.pointer (some ⟨H, 0, none⟩), .int .i64 0]) ∧ HoX w.heap.size w' tg H (comp ts) [yAr (comp ts) 0 ByteArray.empty []] ck0 none := by
 have hl := yEP hs hw; have hp := yF6 hok; refine (yM8 (comp ts) ra rc pa pc w hR hP hT hl).mono ?_; rintro e w' ⟨hb, h⟩; refine ⟨hb, yIm hp hl, ?_⟩; rcases h with ⟨h, _⟩ | ⟨_, H, K, F, G, mn, va, vb, lo, hi, tg, rfl, hM⟩
 ·rw [hp] at h; cases h
 ·exact ⟨H, _, rfl, K, _, _, _, _, _, HoI.start hM hb, rfl, .inl rfl⟩
theorem Go6.below {tg tg' : Nat → Nat × Nat} {w w' : World} (h : Go6 tg tg' w w') {n0 : Nat} (h6 : ∀ b, b < n0 → (tg b).1 = 6) (hn : n0 ≤ w.heap.size) : Below n0 w w' :=
 ⟨h.fr.os, h.fr.tape, h.fr.output, h.fr.size, fun b hb => h.fr.block b (jt hb hn) (fun e => e (h6 b hb))⟩
theorem HoX.low {n0 : Nat} {W : World} {tg : Nat → Nat × Nat} {H : Nat} {nd : yAc} {fs : List FrS} {s : CkS} {ex : Option (List Int)} (h : HoX n0 W tg H nd fs s ex) : n0 ≤ W.heap.size ∧ ∀ b, b < n0 → (tg b).1 = 6 := by obtain ⟨K, vF, vX, vK, ps, vO, h1, _⟩ := h; exact h1.old
def HB (T : Nat) (fs : List FrS) : Prop := ∀ f ∈ fs, ∀ (i : Nat) (s : HuS), f.hunts[i]? = some (some s) → s.whole = false ∧ s.l.length ≤ T
theorem HB.mono {T T' : Nat} {fs : List FrS} (h : HB T fs) (ht : T ≤ T') : HB T' fs := fun f hf i s hs => ⟨(h f hf i s hs).1, ju (h f hf i s hs).2 ht⟩
theorem HB.huns {T : Nat} {fs : List FrS} (h : HB T fs) {t : ByteArray} (ht : T + t.size ≤ 2 ^ 62) : ∀ f ∈ fs, yEG t f := fun f hf i s hs => by have := h f hf i s hs; exact ⟨this.1, by omega⟩
theorem mem_modify {α : Type} (g : α → α) : ∀ (l : List α) (n : Nat) (x : α), x ∈ l.modify n g → ∃ y ∈ l, x = y ∨ x = g y
 | [], n, x, h => by simp at h
 | a :: l, 0, x, h => by
  rw [List.modify_zero_cons, List.mem_cons] at h; rcases h with h | h
  ·exact ⟨a, List.mem_cons_self, .inr h⟩
  ·exact ⟨x, List.mem_cons_of_mem _ h, .inl rfl⟩
 | a :: l, n + 1, x, h => by
  rw [List.modify_succ_cons, List.mem_cons] at h; rcases h with h | h
  ·exact ⟨a, List.mem_cons_self, .inl h⟩
  ·obtain ⟨y, hy, e⟩ := mem_modify g l n x h; exact ⟨y, List.mem_cons_of_mem _ hy, e⟩
theorem HB.met {T : Nat} {fs : List FrS} (h : HB T fs) (here : List Int) (f : FrS) : HB T (yDE (yDy here f) fs) := fun g hg i s hs => by
 obtain ⟨y, hy, e⟩ := mem_modify _ _ _ _ hg; rcases e with e | e
 ·subst e; exact h _ hy i s hs
 ·subst e; exact h _ hy i s hs
theorem yDz (nd : yAc) (kind : Int) (name : ByteArray) (ats : List (ByteArray × ByteArray)) {T : Nat} : HB T [yAr nd kind name ats] := fun f hf i s hs => by
 rw [List.mem_singleton] at hf; subst hf; have h := yIN nd kind name ats ByteArray.empty (by decide) i s hs; refine ⟨h.1, ?_⟩; have hs : (yCZ nd.preds.length (yDg nd) none nd.preds.length)[i]? = some (some s) := hs; rw [yFX, List.getElem?_map] at hs; cases e : (List.range nd.preds.length)[i]? with
 | none => rw [e] at hs; cases hs
 | some k =>
  rw [e] at hs; simp only [Option.map_some, Option.some.injEq] at hs; unfold yDg at hs; split at hs <;> simp_all
  all_goals (subst hs; simp)
theorem HB.next {nd : yAc} {T : Nat} {fs : List FrS} {s : CkS} {e : EvD} (h : HB T fs) (hd : (stp s e).dn = false) : HB (T + e.tx.size) (yAA nd (stp s e).dn fs e).1 := by
 rw [hd]; unfold yAA; split
 ·intro f hf; rw [List.mem_append] at hf; rcases hf with hf | hf
  ·exact h.mono (Nat.le_add_right _ _) f hf
  ·exact yDz nd 1 e.nm e.ats f hf
 ·split
  ·unfold yAm; refine HB.met ?_ _ _; intro f hf i t ht; rw [if_neg (by simp)] at hf; rw [List.mem_map] at hf; obtain ⟨g, hg, rfl⟩ := hf; have ht : (g.hunts.map (Option.map (yFd e.tx)))[i]? = some (some t) := ht; rw [List.getElem?_map] at ht; cases hx : g.hunts[i]? with
   | none => rw [hx] at ht; cases ht
   | some x =>
    cases x with
    | none => rw [hx] at ht; cases ht
    | some u =>
     rw [hx] at ht; simp only [Option.map_some, Option.some.injEq] at ht; subst ht; have h1 := h g hg i u hx; refine ⟨h1.1, ?_⟩; show (u.l ++ rs e.tx).length ≤ _; rw [jp]; have := yAX e.tx; omega
  ·unfold yAm; refine HB.met ?_ _ _; rw [if_neg (by simp)]; exact fun f hf => h.mono (Nat.le_add_right _ _) f ((List.dropLast_sublist fs).subset hf)
theorem yR6 (s : CkS) (e : EvD) : (stp s e).os.length ≤ s.os.length + 1 ∧ (stp s e).num ≤ s.num + 1 := by
 unfold stp; split
 ·simp
 ·split
  ·simp
  ·simp only [List.length_dropLast]; omega
theorem yFV : ∀ (l : List EvD) (s t : CkS), yA6 s l = some t → t.os.length ≤ s.os.length + l.length ∧ t.num ≤ s.num + l.length
 | [], s, t, h => by injection h with h; subst h; simp
 | e :: l, s, t, h => by
  have h : (if yAI s e then yA6 (stp s e) l else none) = some t := h; split at h
  ·have h1 := yFV l _ t h; have h2 := yR6 s e; rw [List.length_cons]; omega
  ·cases h
open Go Go.RowKit Gim
theorem yLC (op : Int) (args : List Ex) (sts : List Gim.St) (nm : ByteArray) (cmp : Int) (txt : ByteArray) (num : Int) : wX (.mk op args sts nm cmp txt num) = 1 + nm.size + txt.size + wXL args + wTL sts := by
 conv => lhs; unfold wX
theorem ySY (ax ts : Int) (nm : ByteArray) (wh : List Ex) : wT (.mk ax ts nm wh) = 1 + nm.size + wXL wh := by
 conv => lhs; unfold wT
theorem yFS (x : Ex) (l : List Ex) : wXL (x :: l) = wX x + wXL l := by
 conv => lhs; unfold wXL
theorem yLo (x : Gim.St) (l : List Gim.St) : wTL (x :: l) = wT x + wTL l := by
 conv => lhs; unfold wTL
mutual
theorem ySU {ts : List Gim.St} (hg : yBk ts = true) : ∀ (x : Ex) (k r : Nat), yCP (yAe ts) x k r → wX (xN (comp ts) k) ≤ wX x
 | .mk op args sts nm cmp txt num, k, r, h => by
  unfold yCP at h; by_cases h3 : op = 3
  ·rw [if_pos h3] at h; obtain ⟨hp, hr⟩ := h; have hk : k < (comp ts).preds.length := (ji.1 hp).1; have hpd : (comp ts).preds.getD k zp = ⟨op, [], r, sts.length, nm, cmp, txt, num⟩ := by rw [jg]; show ((yAe ts).preds[k]?).getD zp = _; rw [hp]; rfl
   rw [yMq (yGp hg) hk, hpd, yLC, yLC]; have := yRU hg sts r hr; have e1 : ((r : Int)).toNat = r := Int.toNat_natCast r; have e2 : ((sts.length : Int)).toNat = sts.length := Int.toNat_natCast _; simp only [List.map_nil, wXL, e1, e2]; omega
  ·rw [if_neg h3] at h; obtain ⟨hp, hr⟩ := h; have hk : k < (comp ts).preds.length := (ji.1 hp).1; have hpd : (comp ts).preds.getD k zp = ⟨op, yBx args (k + 1), 0, 0, ByteArray.empty, 0, ByteArray.empty, 0⟩ := by rw [jg]; show ((yAe ts).preds[k]?).getD zp = _; rw [hp]; rfl
   rw [yMq (yGp hg) hk, hpd, yLC, yLC]; have := yNK hg args (k + 1) r hr; have e1 : ((0 : Int)).toNat = 0 := rfl; have e2 : ByteArray.empty.size = 0 := rfl; simp only [e1, e2, List.range'_zero, List.map_nil, wTL]; omega
theorem yNK {ts : List Gim.St} (hg : yBk ts = true) : ∀ (l : List Ex) (k r : Nat), yA7 (yAe ts) l k r → wXL ((yBx l k).map fun a => xN (comp ts) a.toNat) ≤ wXL l
 | [], k, r, _ => jr _
 | x :: l, k, r, h => by unfold yA7 at h; have h1 := ySU hg x k r h.1; have h2 := yNK hg l _ _ h.2; have e1 : ((k : Int)).toNat = k := Int.toNat_natCast k; unfold yBx; rw [List.map_cons, yFS, yFS, e1]; omega
theorem yRU {ts : List Gim.St} (hg : yBk ts = true) : ∀ (l : List Gim.St) (r : Nat), (∀ (j : Nat) (t : Gim.St), l[j]? = some t → (∃ ps, (yAe ts).rows[r + j]? = some { yCx t with ps := ps }) ∧ (yAe ts).wh[r + j]? = some (yFb t)) → wTL ((List.range' r l.length).map (tN (comp ts))) ≤ wTL l
 | [], r, _ => jr _
 | .mk ax tt nm wh :: l, r, h => by
  have hst := yDv hg; have h2 := yRU hg l (r + 1) fun j t ht => by have := h (j + 1) t (by simpa using ht); rw [show r + 1 + j = r + (j + 1) by omega]; exact this
  obtain ⟨⟨ps, h3⟩, h4⟩ := h 0 _ rfl; rw [Nat.add_zero] at h3 h4; have hr : r < (yAe ts).rows.length := (ji.1 h3).1; obtain ⟨rw0, g1, g2, g3⟩ := hst.row r hr; rw [h3] at g1; injection g1 with g1
  have hw : (yAe ts).wh.getD r [] = wh := by rw [jg, h4]; rfl
  rw [hw] at g2 g3; have h5 := yNK hg wh _ _ g3; have hrd : (comp ts).rows.getD r zr = rw0 := by rw [jg]; show ((yAe ts).rows[r]?).getD zr = _; rw [h3, ← g1]; rfl
  rw [List.length_cons, List.range'_succ, List.map_cons, yLo, yLo, ySY]; have e : tN (comp ts) r = .mk ax tt nm ((yBx wh (pN (yAe ts).wh r)).map fun a => xN (comp ts) a.toNat) := by unfold tN; rw [hrd, g2, ← g1]; rfl
  rw [e, ySY]; omega
end
mutual
/-- the part of an expression that is predicate k -/
theorem yQX {st : Cst} : ∀ {x : Ex} {k0 r0 : Nat}, yCP st x k0 r0 → ∀ k, k0 ≤ k → k < k0 + pcX x → ∃ x' r', yCP st x' k r' ∧ wX x' ≤ wX x
 | .mk op args sts nm cmp txt num, k0, r0, h, k, h1, h2 => by
  have h' := h; unfold yCP at h; unfold pcX at h2; by_cases hk : k = k0
  ·subst hk; exact ⟨_, r0, h', jr _⟩
  ·by_cases h3 : op = 3
   ·rw [if_pos h3] at h2; omega
   ·rw [if_neg h3] at h h2; obtain ⟨x', r', e1, e2⟩ := yGz h.2 k (by omega) (by omega); refine ⟨x', r', e1, ?_⟩; rw [yLC]; omega
theorem yGz {st : Cst} : ∀ {l : List Ex} {k0 r0 : Nat}, yA7 st l k0 r0 → ∀ k, k0 ≤ k → k < k0 + yAN l → ∃ x' r', yCP st x' k r' ∧ wX x' ≤ wXL l
 | [], k0, r0, _, k, h1, h2 => by unfold yAN at h2; omega
 | x :: l, k0, r0, h, k, h1, h2 => by
  unfold yA7 at h; unfold yAN at h2; by_cases hk : k < k0 + pcX x
  ·obtain ⟨x', r', e1, e2⟩ := yQX h.1 k h1 hk; exact ⟨x', r', e1, by rw [yFS]; omega⟩
  ·obtain ⟨x', r', e1, e2⟩ := yGz h.2 k (by omega) (by omega); exact ⟨x', r', e1, by rw [yFS]; omega⟩
end
theorem yQK (ts : List Gim.St) : ∃ j, yOL (wTL ts) (szP ts) j (yAe ts) := by
 refine yK3 _ 0 _ ⟨yG9 ⟨fun q hq => (by cases hq), fun q hq => (by cases hq), fun q hq => (by cases hq)⟩ (jr _), ?_, by simp [yAh], ?_⟩
 ·have h := (yBU ⟨[], [], []⟩ ts).pend 0 (jr _); have h0 : yBb (⟨[], [], []⟩ : Cst) 0 = 0 := rfl; have e1 : (yAh ⟨[], [], []⟩ ts).rows.length = ts.length := by simp [yAh]
  have e2 : (yAh ⟨[], [], []⟩ ts).preds.length = 0 := rfl; unfold szP; omega
 ·have := (yBU ⟨[], [], []⟩ ts).args 0 ⟨fun r hr => (by cases hr), fun r hr => (by cases hr)⟩; exact this
theorem ySF {ts : List Gim.St} (hg : yBk ts = true) {k : Nat} (hk : k < (comp ts).preds.length) : wX (xN (comp ts) k) ≤ wTL ts := by
 have hst := yDv hg; obtain ⟨i, h1, h4, h5, _⟩ := yCD hg hk; have hiw : i < (yAe ts).wh.length := by rw [hst.wl]; exact h1
 obtain ⟨_, _, _, g3⟩ := hst.row i h1; rw [yCN hiw] at h5; obtain ⟨x', r', e1, e2⟩ := yGz g3 k h4 h5; obtain ⟨j, hb⟩ := yQK ts; have hm : (yAe ts).wh.getD i [] ∈ (yAe ts).wh := by rw [jg, jk hiw]; exact List.getElem_mem hiw
 have := hb.bnd.w _ hm; have := ySU hg x' k r' e1; omega
end Go.Proofs.YtkhejkfjhddobaaGreatDoor
