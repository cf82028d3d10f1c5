/- A path that is not great has few steps and expressions: plain. -/
import Derived.Test.YtkhejkfjhddobaaGreatDoorNetLayM
import Derived.Test.YtkhejkfjhddobaaGreatDoorHoEntriesM
namespace Gim
structure BndC (B N : Nat) (st : Cst) : Prop where
 p : ∀ q ∈ st.preds, 1 + q.attr.size + q.txt.size ≤ B ∧ ∃ a c : Nat, q.first = a ∧ q.count = c ∧ a + c ≤ N
 r : ∀ q ∈ st.rows, 1 + q.nm.size ≤ B
 w : ∀ l ∈ st.wh, wXL l ≤ B
theorem wTL_of {t : St} : ∀ {l : List St}, t ∈ l → wT t ≤ wTL l
 | [], h => by cases h
 | x :: r, h => by
  have e : wTL (x :: r) = wT x + wTL r := by
   conv => lhs; unfold wTL
  rw [List.mem_cons] at h
  rcases h with h | h
  ·subst h
   omega
  ·have := wTL_of h
   omega
theorem bnd_steps {B N : Nat} {st : Cst} (h : BndC B N st) {ts : List St} (hw : wTL ts ≤ B) : BndC B N (stepsC st ts) := by
 refine ⟨h.p, fun q hq => ?_, fun l hl => ?_⟩
 ·have hq : q ∈ st.rows ++ ts.map rowOf := hq
  rw [List.mem_append, List.mem_map] at hq
  rcases hq with hq | ⟨t, ht, rfl⟩
  ·exact h.r q hq
  ·have := wTL_of ht
   cases t
   unfold wT at this
   simp only [rowOf]
   omega
 ·have hl : l ∈ st.wh ++ ts.map whOf := hl
  rw [List.mem_append, List.mem_map] at hl
  rcases hl with hl | ⟨t, ht, rfl⟩
  ·exact h.w l hl
  ·have := wTL_of ht
   cases t
   unfold wT at this
   simp only [whOf]
   omega
theorem bnd_addPred {B N : Nat} {st : Cst} (h : BndC B N st) (hB : 1 ≤ B) (op : Int) : BndC B N (addPred st op) := by
 refine ⟨fun q hq => ?_, h.r, h.w⟩
 have hq : q ∈ st.preds ++ [newPred op] := hq
 rw [List.mem_append, List.mem_singleton] at hq
 rcases hq with hq | rfl
 ·exact h.p q hq
 ·exact ⟨by simpa [newPred] using hB, 0, 0, rfl, rfl, jz _⟩
theorem bnd_addArg {B N : Nat} {st : Cst} (h : BndC B N st) (k : Nat) (n : Int) : BndC B N (addArg st k n) := by
 refine ⟨fun q hq => ?_, h.r, h.w⟩
 rcases mem_modify hq with hq | ⟨y, hy, rfl⟩
 ·exact h.p q hq
 ·exact h.p y hy
theorem bnd_addRow {B N : Nat} {st : Cst} (h : BndC B N st) (k : Nat) (n : Int) : BndC B N (addRow st k n) := by
 refine ⟨h.p, fun q hq => ?_, h.w⟩
 rcases mem_modify hq with hq | ⟨y, hy, rfl⟩
 ·exact h.r q hq
 ·exact h.r y hy
mutual
theorem bnd_cX {B N : Nat} : ∀ (x : Ex) (st : Cst), BndC B N st → wX x ≤ B → st.rows.length + rcX x ≤ N → BndC B N (cX x st)
 | .mk op args sts nm cmp txt num, st, h, hw, hN => by
  have e : wX (.mk op args sts nm cmp txt num) = 1 + nm.size + txt.size + wXL args + wTL sts := by
   conv => lhs; unfold wX
  rw [e] at hw
  have h1 := bnd_addPred h (show 1 ≤ B by omega) op
  unfold rcX at hN
  unfold cX
  by_cases h3 : op = 3
  ·rw [if_pos h3] at hN ⊢
   have hs : wTL sts ≤ B := by omega
   refine bnd_steps (st := setSome (addPred st op) st.preds.length sts.length nm cmp txt num) (ts := sts) ⟨fun q hq => ?_, h1.r, h1.w⟩ hs
   rcases mem_modify hq with hq | ⟨y, hy, rfl⟩
   ·exact h1.p q hq
   ·exact ⟨by show 1 + nm.size + txt.size ≤ B; omega, st.rows.length, sts.length, rfl, rfl, hN⟩
  ·rw [if_neg h3] at hN ⊢
   exact bnd_cXL args st.preds.length _ h1 (by omega) hN
theorem bnd_cXL {B N : Nat} : ∀ (l : List Ex) (k : Nat) (st : Cst), BndC B N st → wXL l ≤ B → st.rows.length + rcXL l ≤ N → BndC B N (cXL l k st)
 | [], k, st, h, _, _ => by
  unfold cXL
  exact h
 | x :: r, k, st, h, hw, hN => by
  have e : wXL (x :: r) = wX x + wXL r := by
   conv => lhs; unfold wXL
  have e2 : rcXL (x :: r) = rcX x + rcXL r := by
   conv => lhs; unfold rcXL
  rw [e] at hw
  rw [e2] at hN
  unfold cXL
  have h1 := bnd_cX x st h (by omega) (by omega)
  have hr := (room_cX x st).rows
  exact bnd_cXL r k _ (bnd_addArg h1 k _) (by omega) (by show (cX x st).rows.length + rcXL r ≤ N; omega)
end
theorem bnd_cRow {B N : Nat} (i : Nat) : ∀ (l : List Ex) (st : Cst), BndC B N st → wXL l ≤ B → st.rows.length + rcXL l ≤ N → BndC B N (cRow i l st)
 | [], st, h, _, _ => by
  unfold cRow
  exact h
 | x :: r, st, h, hw, hN => by
  have e : wXL (x :: r) = wX x + wXL r := by
   conv => lhs; unfold wXL
  have e2 : rcXL (x :: r) = rcX x + rcXL r := by
   conv => lhs; unfold rcXL
  rw [e] at hw
  rw [e2] at hN
  unfold cRow
  have h1 := bnd_cX x st h (by omega) (by omega)
  have hr := (room_cX x st).rows
  exact bnd_cRow i r _ (bnd_addRow h1 i _) (by omega) (by show ((cX x st).rows.modify i _).length + rcXL r ≤ N; rw [List.length_modify]; omega)
structure InvCs (B S i : Nat) (st : Cst) : Prop where
 bnd : BndC B S st
 sum : st.rows.length + st.preds.length + pendC st i ≤ S
 wh : st.wh.length = st.rows.length
 args : ArgsLe st.preds.length st
theorem pend_at {st : Cst} {i : Nat} (h : i < st.wh.length) : pendC st i = szXL (st.wh.getD i []) + pendC st (i + 1) := by
 unfold pendC
 rw [List.drop_eq_getElem_cons h, List.map_cons, List.sum_cons, jg, jk h]
 rfl
theorem inv_all {B S : Nat} : ∀ (f i : Nat) (st : Cst), InvCs B S i st → ∃ j, InvCs B S j (cAll f i st)
 | 0, i, st, h => ⟨i, by unfold cAll; exact h⟩
 | f + 1, i, st, h => by
  unfold cAll
  split
  ·rename_i hi
   have hw : i < st.wh.length := by rw [h.wh]; exact hi
   have hp := pend_at hw
   have hsum := h.sum
   have hsz := parts_szL (st.wh.getD i [])
   have hr := room_cRow (st.wh.getD i []) i st
   have hm : st.wh.getD i [] ∈ st.wh := by
    rw [jg, jk hw]
    exact List.getElem_mem hw
   refine inv_all f (i + 1) _ ⟨bnd_cRow i _ st h.bnd (h.bnd.w _ hm) (by omega), ?_, by rw [hr.wh, hr.rows, h.wh], by rw [hr.preds]; exact hr.args _ h.args⟩
   have e1 := hr.rows
   have e2 := hr.preds
   have e3 := hr.pend i (by omega)
   have e4 := pend_at (st := cRow i (st.wh.getD i []) st) (i := i) (by rw [hr.wh]; omega)
   have e5 : (cRow i (st.wh.getD i []) st).wh.getD i [] = st.wh.getD i [] := by
    rw [jg, hr.old i hw, ← jg]
   rw [e5] at e4
   omega
  ·exact ⟨i, h⟩
theorem inv_comp (ts : List St) : ∃ j, InvCs (wTL ts + 1) (szP ts) j (endC ts) := by
 refine inv_all _ 0 _ ⟨bnd_steps ⟨fun q hq => (by cases hq), fun q hq => (by cases hq), fun q hq => (by cases hq)⟩ (by omega), ?_, by simp [stepsC], ?_⟩
 ·have h := (room_stepsC ⟨[], [], []⟩ ts).pend 0 (jr _)
  have h0 : pendC (⟨[], [], []⟩ : Cst) 0 = 0 := rfl
  have e1 : (stepsC ⟨[], [], []⟩ ts).rows.length = ts.length := by simp [stepsC]
  have e2 : (stepsC ⟨[], [], []⟩ ts).preds.length = 0 := rfl
  unfold szP
  omega
 ·have := (room_stepsC ⟨[], [], []⟩ ts).args 0 ⟨fun r hr => (by cases hr), fun r hr => (by cases hr)⟩
  exact this
theorem nlim_comp {ts : List St} (hs : szP ts ≤ 1048576) (hw : wTL ts ≤ 1099511627775) : NLim (comp ts) := by
 obtain ⟨j, h⟩ := inv_comp ts
 have hsum := h.sum
 have hlen : ts.length ≤ szP ts := Nat.le_add_right _ _
 rw [comp_eq]
 have hp : ∀ k, (endC ts).preds.getD k zp = zp ∨ (endC ts).preds.getD k zp ∈ (endC ts).preds := fun k => by
  rw [jg]
  cases e : (endC ts).preds[k]? with
  | none => exact .inl rfl
  | some q => exact .inr (List.mem_of_getElem? e)
 have hr : ∀ k, (endC ts).rows.getD k zr = zr ∨ (endC ts).rows.getD k zr ∈ (endC ts).rows := fun k => by
  rw [jg]
  cases e : (endC ts).rows[k]? with
  | none => exact .inl rfl
  | some q => exact .inr (List.mem_of_getElem? e)
 refine ⟨by show (endC ts).rows.length + (endC ts).preds.length ≤ _; omega, fun k => ?_, fun k => ?_, fun k => ?_, ?_, ⟨by decide, fun k => ?_, fun k => ?_⟩⟩
 ·show ((endC ts).preds.getD k zp).args.length ≤ _
  rcases hp k with e | e
  ·rw [e]
   decide
  ·have := h.args.1 _ e
   omega
 ·show ((endC ts).rows.getD k zr).ps.length ≤ _
  rcases hr k with e | e
  ·rw [e]
   decide
  ·have := h.args.2 _ e
   omega
 ·show InR ((endC ts).preds.getD k zp).first ∧ InR ((endC ts).preds.getD k zp).count
  rcases hp k with e | e
  ·rw [e]
   unfold InR
   decide
  ·obtain ⟨_, a, c, e1, e2, e3⟩ := h.bnd.p _ e
   rw [e1, e2]
   unfold InR
   omega
 ·show InR (ts.length : Int)
  unfold InR
  omega
 ·show 1 + ((endC ts).preds.getD k zp).attr.size + ((endC ts).preds.getD k zp).txt.size ≤ _
  rcases hp k with e | e
  ·rw [e]
   decide
  ·have := (h.bnd.p _ e).1
   omega
 ·show 1 + ((endC ts).rows.getD k zr).nm.size ≤ _
  rcases hr k with e | e
  ·rw [e]
   decide
  ·have := h.bnd.r _ e
   omega
end Gim
namespace Go.Proofs.YtkhejkfjhddobaaGreatDoor
open Go.RowKit Gim
theorem start_hopes (ts : List Gim.St) (w : World) (hok : okP ts = true) (hs : szP ts ≤ 1048576) (hw : wTL ts ≤ 1099511627775) (hT : Laid w) (ra : Option Addr) (rc : Nat) (pa : Option Addr) (pc : Nat) (hR : FitRowS w (comp ts).rows ra (comp ts).rows.length rc) (hP : FitPredS w (comp ts).preds pa (comp ts).preds.length pc) :
  Calls Tryz.prog 15 #[.agg #[.int .i64 (comp ts).main, .slice ra (comp ts).rows.length rc, .slice pa (comp ts).preds.length pc]] w fun e w' => Below w.heap.size w w' ∧ NetOk (comp ts) ∧ ∃ H tg, e = .returned (.tuple #[.pointer (some ⟨H, 0, none⟩), .int .i64 0]) ∧ HoX w.heap.size w' tg H (comp ts) [openF (comp ts) 0 ByteArray.empty []] ck0 none := by
 have hl := nlim_comp hs hw
 have hp := netPath_comp hok
 refine (new_h_calls (comp ts) ra rc pa pc w hR hP hT hl).mono ?_
 rintro e w' ⟨hb, h⟩
 refine ⟨hb, netOk_of hp hl, ?_⟩
 rcases h with ⟨h, _⟩ | ⟨_, H, K, F, G, mn, va, vb, lo, hi, tg, rfl, hM⟩
 ·rw [hp] at h
  cases h
 ·exact ⟨H, _, rfl, K, _, _, _, _, _, HoI.start hM hb, rfl, .inl rfl⟩
theorem Go6.below {tg tg' : Nat → Nat × Nat} {w w' : World} (h : Go6 tg tg' w w') {n0 : Nat} (h6 : ∀ b, b < n0 → (tg b).1 = 6) (hn : n0 ≤ w.heap.size) : Below n0 w w' :=
 ⟨h.fr.os, h.fr.tape, h.fr.output, h.fr.size, fun b hb => h.fr.block b (jt hb hn) (fun e => e (h6 b hb))⟩
theorem HoX.low {n0 : Nat} {W : World} {tg : Nat → Nat × Nat} {H : Nat} {nd : NetD} {fs : List FrS} {s : CkS} {ex : Option (List Int)} (h : HoX n0 W tg H nd fs s ex) : n0 ≤ W.heap.size ∧ ∀ b, b < n0 → (tg b).1 = 6 := by
 obtain ⟨K, vF, vX, vK, ps, vO, h1, _⟩ := h
 exact h1.old
def HB (T : Nat) (fs : List FrS) : Prop := ∀ f ∈ fs, ∀ (i : Nat) (s : HuS), f.hunts[i]? = some (some s) → s.whole = false ∧ s.l.length ≤ T
theorem HB.mono {T T' : Nat} {fs : List FrS} (h : HB T fs) (ht : T ≤ T') : HB T' fs := fun f hf i s hs => ⟨(h f hf i s hs).1, ju (h f hf i s hs).2 ht⟩
theorem HB.huns {T : Nat} {fs : List FrS} (h : HB T fs) {t : ByteArray} (ht : T + t.size ≤ 2 ^ 62) : ∀ f ∈ fs, HunsOk t f := fun f hf i s hs => by
 have := h f hf i s hs
 exact ⟨this.1, by omega⟩
theorem mem_modify {α : Type} (g : α → α) : ∀ (l : List α) (n : Nat) (x : α), x ∈ l.modify n g → ∃ y ∈ l, x = y ∨ x = g y
 | [], n, x, h => by simp at h
 | a :: l, 0, x, h => by
  rw [List.modify_zero_cons, List.mem_cons] at h
  rcases h with h | h
  ·exact ⟨a, List.mem_cons_self, .inr h⟩
  ·exact ⟨x, List.mem_cons_of_mem _ h, .inl rfl⟩
 | a :: l, n + 1, x, h => by
  rw [List.modify_succ_cons, List.mem_cons] at h
  rcases h with h | h
  ·exact ⟨a, List.mem_cons_self, .inl h⟩
  ·obtain ⟨y, hy, e⟩ := mem_modify g l n x h
   exact ⟨y, List.mem_cons_of_mem _ hy, e⟩
theorem HB.met {T : Nat} {fs : List FrS} (h : HB T fs) (here : List Int) (f : FrS) : HB T (onLast (metFr here f) fs) := fun g hg i s hs => by
 obtain ⟨y, hy, e⟩ := mem_modify _ _ _ _ hg
 rcases e with e | e
 ·subst e
  exact h _ hy i s hs
 ·subst e
  exact h _ hy i s hs
theorem openF_hunt0 (nd : NetD) (kind : Int) (name : ByteArray) (ats : List (ByteArray × ByteArray)) {T : Nat} : HB T [openF nd kind name ats] := fun f hf i s hs => by
 rw [List.mem_singleton] at hf
 subst hf
 have h := openF_huns nd kind name ats ByteArray.empty (by decide) i s hs
 refine ⟨h.1, ?_⟩
 have hs : (preL nd.preds.length (huntG nd) none nd.preds.length)[i]? = some (some s) := hs
 rw [preL_all, List.getElem?_map] at hs
 cases e : (List.range nd.preds.length)[i]? with
 | none => rw [e] at hs; cases hs
 | some k =>
  rw [e] at hs
  simp only [Option.map_some, Option.some.injEq] at hs
  unfold huntG at hs
  split at hs <;> simp_all
  all_goals (subst hs; simp)
theorem HB.next {nd : NetD} {T : Nat} {fs : List FrS} {s : CkS} {e : EvD} (h : HB T fs) (hd : (stp s e).dn = false) : HB (T + e.tx.size) (takeFs nd (stp s e).dn fs e).1 := by
 rw [hd]
 unfold takeFs
 split
 ·intro f hf
  rw [List.mem_append] at hf
  rcases hf with hf | hf
  ·exact h.mono (Nat.le_add_right _ _) f hf
  ·exact openF_hunt0 nd 1 e.nm e.ats f hf
 ·split
  ·unfold leaveFs
   refine HB.met ?_ _ _
   intro f hf i t ht
   rw [if_neg (by simp)] at hf
   rw [List.mem_map] at hf
   obtain ⟨g, hg, rfl⟩ := hf
   have ht : (g.hunts.map (Option.map (addHu e.tx)))[i]? = some (some t) := ht
   rw [List.getElem?_map] at ht
   cases hx : g.hunts[i]? with
   | none => rw [hx] at ht; cases ht
   | some x =>
    cases x with
    | none => rw [hx] at ht; cases ht
    | some u =>
     rw [hx] at ht
     simp only [Option.map_some, Option.some.injEq] at ht
     subst ht
     have h1 := h g hg i u hx
     refine ⟨h1.1, ?_⟩
     show (u.l ++ rs e.tx).length ≤ _
     rw [jp]
     have := rs_length e.tx
     omega
  ·unfold leaveFs
   refine HB.met ?_ _ _
   rw [if_neg (by simp)]
   exact fun f hf => h.mono (Nat.le_add_right _ _) f ((List.dropLast_sublist fs).subset hf)
theorem stp_len (s : CkS) (e : EvD) : (stp s e).os.length ≤ s.os.length + 1 ∧ (stp s e).num ≤ s.num + 1 := by
 unfold stp
 split
 ·simp
 ·split
  ·simp
  ·simp only [List.length_dropLast]
   omega
theorem begS_len : ∀ (l : List EvD) (s t : CkS), begS s l = some t → t.os.length ≤ s.os.length + l.length ∧ t.num ≤ s.num + l.length
 | [], s, t, h => by
  injection h with h
  subst h
  simp
 | e :: l, s, t, h => by
  have h : (if nxtB s e then begS (stp s e) l else none) = some t := h
  split at h
  ·have h1 := begS_len l _ t h
   have h2 := stp_len s e
   rw [List.length_cons]
   omega
  ·cases h
open Go Go.RowKit Gim
theorem wX_eq (op : Int) (args : List Ex) (sts : List Gim.St) (nm : ByteArray) (cmp : Int) (txt : ByteArray) (num : Int) : wX (.mk op args sts nm cmp txt num) = 1 + nm.size + txt.size + wXL args + wTL sts := by
 conv => lhs; unfold wX
theorem wT_eq (ax ts : Int) (nm : ByteArray) (wh : List Ex) : wT (.mk ax ts nm wh) = 1 + nm.size + wXL wh := by
 conv => lhs; unfold wT
theorem wXL_cons (x : Ex) (l : List Ex) : wXL (x :: l) = wX x + wXL l := by
 conv => lhs; unfold wXL
theorem wTL_cons (x : Gim.St) (l : List Gim.St) : wTL (x :: l) = wT x + wTL l := by
 conv => lhs; unfold wTL
mutual
theorem wX_xN {ts : List Gim.St} (hg : gdTL ts = true) : ∀ (x : Ex) (k r : Nat), LayX (endC ts) x k r → wX (xN (comp ts) k) ≤ wX x
 | .mk op args sts nm cmp txt num, k, r, h => by
  unfold LayX at h
  by_cases h3 : op = 3
  ·rw [if_pos h3] at h
   obtain ⟨hp, hr⟩ := h
   have hk : k < (comp ts).preds.length := (ji.1 hp).1
   have hpd : (comp ts).preds.getD k zp = ⟨op, [], r, sts.length, nm, cmp, txt, num⟩ := by
    rw [jg]
    show ((endC ts).preds[k]?).getD zp = _
    rw [hp]
    rfl
   rw [xN_eq (comp_dag hg) hk, hpd, wX_eq, wX_eq]
   have := wTL_xN hg sts r hr
   have e1 : ((r : Int)).toNat = r := Int.toNat_natCast r
   have e2 : ((sts.length : Int)).toNat = sts.length := Int.toNat_natCast _
   simp only [List.map_nil, wXL, e1, e2]
   omega
  ·rw [if_neg h3] at h
   obtain ⟨hp, hr⟩ := h
   have hk : k < (comp ts).preds.length := (ji.1 hp).1
   have hpd : (comp ts).preds.getD k zp = ⟨op, argsN args (k + 1), 0, 0, ByteArray.empty, 0, ByteArray.empty, 0⟩ := by
    rw [jg]
    show ((endC ts).preds[k]?).getD zp = _
    rw [hp]
    rfl
   rw [xN_eq (comp_dag hg) hk, hpd, wX_eq, wX_eq]
   have := wXL_xN hg args (k + 1) r hr
   have e1 : ((0 : Int)).toNat = 0 := rfl
   have e2 : ByteArray.empty.size = 0 := rfl
   simp only [e1, e2, List.range'_zero, List.map_nil, wTL]
   omega
theorem wXL_xN {ts : List Gim.St} (hg : gdTL ts = true) : ∀ (l : List Ex) (k r : Nat), LayXL (endC ts) l k r → wXL ((argsN l k).map fun a => xN (comp ts) a.toNat) ≤ wXL l
 | [], k, r, _ => jr _
 | x :: l, k, r, h => by
  unfold LayXL at h
  have h1 := wX_xN hg x k r h.1
  have h2 := wXL_xN hg l _ _ h.2
  have e1 : ((k : Int)).toNat = k := Int.toNat_natCast k
  unfold argsN
  rw [List.map_cons, wXL_cons, wXL_cons, e1]
  omega
theorem wTL_xN {ts : List Gim.St} (hg : gdTL ts = true) : ∀ (l : List Gim.St) (r : Nat), (∀ (j : Nat) (t : Gim.St), l[j]? = some t → (∃ ps, (endC ts).rows[r + j]? = some { rowOf t with ps := ps }) ∧ (endC ts).wh[r + j]? = some (whOf t)) → wTL ((List.range' r l.length).map (tN (comp ts))) ≤ wTL l
 | [], r, _ => jr _
 | .mk ax tt nm wh :: l, r, h => by
  have hst := stg_end hg
  have h2 := wTL_xN hg l (r + 1) fun j t ht => by
   have := h (j + 1) t (by simpa using ht)
   rw [show r + 1 + j = r + (j + 1) by omega]
   exact this
  obtain ⟨⟨ps, h3⟩, h4⟩ := h 0 _ rfl
  rw [Nat.add_zero] at h3 h4
  have hr : r < (endC ts).rows.length := (ji.1 h3).1
  obtain ⟨rw0, g1, g2, g3⟩ := hst.row r hr
  rw [h3] at g1
  injection g1 with g1
  have hw : (endC ts).wh.getD r [] = wh := by rw [jg, h4]; rfl
  rw [hw] at g2 g3
  have h5 := wXL_xN hg wh _ _ g3
  have hrd : (comp ts).rows.getD r zr = rw0 := by
   rw [jg]
   show ((endC ts).rows[r]?).getD zr = _
   rw [h3, ← g1]
   rfl
  rw [List.length_cons, List.range'_succ, List.map_cons, wTL_cons, wTL_cons, wT_eq]
  have e : tN (comp ts) r = .mk ax tt nm ((argsN wh (pN (endC ts).wh r)).map fun a => xN (comp ts) a.toNat) := by
   unfold tN
   rw [hrd, g2, ← g1]
   rfl
  rw [e, wT_eq]
  omega
end
mutual
/-- the part of an expression that is predicate k -/
theorem layX_sub {st : Cst} : ∀ {x : Ex} {k0 r0 : Nat}, LayX st x k0 r0 → ∀ k, k0 ≤ k → k < k0 + pcX x → ∃ x' r', LayX st x' k r' ∧ wX x' ≤ wX x
 | .mk op args sts nm cmp txt num, k0, r0, h, k, h1, h2 => by
  have h' := h
  unfold LayX at h
  unfold pcX at h2
  by_cases hk : k = k0
  ·subst hk
   exact ⟨_, r0, h', jr _⟩
  ·by_cases h3 : op = 3
   ·rw [if_pos h3] at h2
    omega
   ·rw [if_neg h3] at h h2
    obtain ⟨x', r', e1, e2⟩ := layXL_sub h.2 k (by omega) (by omega)
    refine ⟨x', r', e1, ?_⟩
    rw [wX_eq]
    omega
theorem layXL_sub {st : Cst} : ∀ {l : List Ex} {k0 r0 : Nat}, LayXL st l k0 r0 → ∀ k, k0 ≤ k → k < k0 + pcXL l → ∃ x' r', LayX st x' k r' ∧ wX x' ≤ wXL l
 | [], k0, r0, _, k, h1, h2 => by
  unfold pcXL at h2
  omega
 | x :: l, k0, r0, h, k, h1, h2 => by
  unfold LayXL at h
  unfold pcXL at h2
  by_cases hk : k < k0 + pcX x
  ·obtain ⟨x', r', e1, e2⟩ := layX_sub h.1 k h1 hk
   exact ⟨x', r', e1, by rw [wXL_cons]; omega⟩
  ·obtain ⟨x', r', e1, e2⟩ := layXL_sub h.2 k (by omega) (by omega)
   exact ⟨x', r', e1, by rw [wXL_cons]; omega⟩
end
theorem inv_compW (ts : List Gim.St) : ∃ j, InvCs (wTL ts) (szP ts) j (endC ts) := by
 refine inv_all _ 0 _ ⟨bnd_steps ⟨fun q hq => (by cases hq), fun q hq => (by cases hq), fun q hq => (by cases hq)⟩ (jr _), ?_, by simp [stepsC], ?_⟩
 ·have h := (room_stepsC ⟨[], [], []⟩ ts).pend 0 (jr _)
  have h0 : pendC (⟨[], [], []⟩ : Cst) 0 = 0 := rfl
  have e1 : (stepsC ⟨[], [], []⟩ ts).rows.length = ts.length := by simp [stepsC]
  have e2 : (stepsC ⟨[], [], []⟩ ts).preds.length = 0 := rfl
  unfold szP
  omega
 ·have := (room_stepsC ⟨[], [], []⟩ ts).args 0 ⟨fun r hr => (by cases hr), fun r hr => (by cases hr)⟩
  exact this
theorem wX_pred {ts : List Gim.St} (hg : gdTL ts = true) {k : Nat} (hk : k < (comp ts).preds.length) : wX (xN (comp ts) k) ≤ wTL ts := by
 have hst := stg_end hg
 obtain ⟨i, h1, h4, h5, _⟩ := pred_lies hg hk
 have hiw : i < (endC ts).wh.length := by rw [hst.wl]; exact h1
 obtain ⟨_, _, _, g3⟩ := hst.row i h1
 rw [pN_succ hiw] at h5
 obtain ⟨x', r', e1, e2⟩ := layXL_sub g3 k h4 h5
 obtain ⟨j, hb⟩ := inv_compW ts
 have hm : (endC ts).wh.getD i [] ∈ (endC ts).wh := by
  rw [jg, jk hiw]
  exact List.getElem_mem hiw
 have := hb.bnd.w _ hm
 have := wX_xN hg x' k r' e1
 omega
end Go.Proofs.YtkhejkfjhddobaaGreatDoor
