/- A path that is not great has few steps and expressions: plain. -/
import Derived.Test.YtkhejkfjhddobaaGreatDoorQGood2M
import Derived.Test.YtkhejkfjhddobaaGreatDoorNetLayM
import Derived.Test.YtkhejkfjhddobaaGreatDoorHoEntriesM
section
namespace Gim
mutual
theorem restXL_sz : ∀ (l : List Ex) (n : Int), 0 ≤ restXL l n → (szXL l : Int) + restXL l n ≤ n
  | [], n, _ => by
    unfold restXL szXL
    simp
  | x :: r, n, h => by
    by_cases h0 : 0 ≤ n
    · have e : restXL (x :: r) n = restXL r (restX x n) := by
        conv => lhs; unfold restXL
        rw [if_pos h0]
      rw [e] at h ⊢
      have h2 : 0 ≤ restX x n := by
        by_cases hh : 0 ≤ restX x n
        · exact hh
        · rw [restXL_neg r _ (by omega)] at h
          exact h
      have a := restXL_sz r _ h
      have b := restX_sz x n h2
      have c : szXL (x :: r) = szX x + szXL r := by
        conv => lhs; unfold szXL
      omega
    · rw [restXL_neg _ _ (by omega)] at h
      omega
theorem restX_sz : ∀ (x : Ex) (n : Int), 0 ≤ restX x n → (szX x : Int) + restX x n ≤ n
  | .mk op args sts nm cm txt k, n, h => by
    have e : restX (.mk op args sts nm cm txt k) n = restTL sts (restXL args (n - 1 - nm.size - txt.size)) := by
      conv => lhs; unfold restX
    rw [e] at h ⊢
    have h2 : 0 ≤ restXL args (n - 1 - nm.size - txt.size) := by
      by_cases hh : 0 ≤ restXL args (n - 1 - nm.size - txt.size)
      · exact hh
      · rw [restTL_neg sts _ (by omega)] at h
        exact h
    have a := restXL_sz args _ h2
    have b := restTL_sz sts _ h
    have c : szX (.mk op args sts nm cm txt k) = 1 + (sts.length + szIn sts) + szXL args := by
      conv => lhs; unfold szX
    omega
theorem restTL_sz : ∀ (l : List St) (n : Int), 0 ≤ restTL l n → ((l.length + szIn l : Nat) : Int) + restTL l n ≤ n
  | [], n, _ => by
    unfold restTL szIn
    simp
  | x :: r, n, h => by
    by_cases h0 : 0 ≤ n
    · have e : restTL (x :: r) n = restTL r (restT x n) := by
        conv => lhs; unfold restTL
        rw [if_pos h0]
      rw [e] at h ⊢
      have h2 : 0 ≤ restT x n := by
        by_cases hh : 0 ≤ restT x n
        · exact hh
        · rw [restTL_neg r _ (by omega)] at h
          exact h
      have a := restTL_sz r _ h
      have b := restT_sz x n h2
      have c : szIn (x :: r) = szT x + szIn r := by
        conv => lhs; unfold szIn
      rw [List.length_cons]
      omega
    · rw [restTL_neg _ _ (by omega)] at h
      omega
theorem restT_sz : ∀ (x : St) (n : Int), 0 ≤ restT x n → (1 + szT x : Int) + restT x n ≤ n
  | .mk ax te nm wh, n, h => by
    have e : restT (.mk ax te nm wh) n = restXL wh (n - 1 - nm.size) := by
      conv => lhs; unfold restT
    rw [e] at h ⊢
    have a := restXL_sz wh _ h
    have c : szT (.mk ax te nm wh) = szXL wh := by
      conv => lhs; unfold szT
    omega
end
mutual
theorem restXL_w : ∀ (l : List Ex) (n : Int), 0 ≤ restXL l n → (wXL l : Int) + restXL l n ≤ n
  | [], n, _ => by
    unfold restXL wXL
    simp
  | x :: r, n, h => by
    by_cases h0 : 0 ≤ n
    · have e : restXL (x :: r) n = restXL r (restX x n) := by
        conv => lhs; unfold restXL
        rw [if_pos h0]
      rw [e] at h ⊢
      have h2 : 0 ≤ restX x n := by
        by_cases hh : 0 ≤ restX x n
        · exact hh
        · rw [restXL_neg r _ (by omega)] at h
          exact h
      have a := restXL_w r _ h
      have b := restX_w x n h2
      have c : wXL (x :: r) = wX x + wXL r := by
        conv => lhs; unfold wXL
      omega
    · rw [restXL_neg _ _ (by omega)] at h
      omega
theorem restX_w : ∀ (x : Ex) (n : Int), 0 ≤ restX x n → (wX x : Int) + restX x n ≤ n
  | .mk op args sts nm cm txt k, n, h => by
    have e : restX (.mk op args sts nm cm txt k) n = restTL sts (restXL args (n - 1 - nm.size - txt.size)) := by
      conv => lhs; unfold restX
    rw [e] at h ⊢
    have h2 : 0 ≤ restXL args (n - 1 - nm.size - txt.size) := by
      by_cases hh : 0 ≤ restXL args (n - 1 - nm.size - txt.size)
      · exact hh
      · rw [restTL_neg sts _ (by omega)] at h
        exact h
    have a := restXL_w args _ h2
    have b := restTL_w sts _ h
    have c : wX (.mk op args sts nm cm txt k) = 1 + nm.size + txt.size + wXL args + wTL sts := by
      conv => lhs; unfold wX
    omega
theorem restTL_w : ∀ (l : List St) (n : Int), 0 ≤ restTL l n → (wTL l : Int) + restTL l n ≤ n
  | [], n, _ => by
    unfold restTL wTL
    simp
  | x :: r, n, h => by
    by_cases h0 : 0 ≤ n
    · have e : restTL (x :: r) n = restTL r (restT x n) := by
        conv => lhs; unfold restTL
        rw [if_pos h0]
      rw [e] at h ⊢
      have h2 : 0 ≤ restT x n := by
        by_cases hh : 0 ≤ restT x n
        · exact hh
        · rw [restTL_neg r _ (by omega)] at h
          exact h
      have a := restTL_w r _ h
      have b := restT_w x n h2
      have c : wTL (x :: r) = wT x + wTL r := by
        conv => lhs; unfold wTL
      omega
    · rw [restTL_neg _ _ (by omega)] at h
      omega
theorem restT_w : ∀ (x : St) (n : Int), 0 ≤ restT x n → (wT x : Int) + restT x n ≤ n
  | .mk ax te nm wh, n, h => by
    have e : restT (.mk ax te nm wh) n = restXL wh (n - 1 - nm.size) := by
      conv => lhs; unfold restT
    rw [e] at h ⊢
    have a := restXL_w wh _ h
    have c : wT (.mk ax te nm wh) = 1 + nm.size + wXL wh := by
      conv => lhs; unfold wT
    omega
end
theorem great_sz {sts : List St} (h : decide (restTL sts 262144 < 0) = false) : szP sts ≤ 262144 := by
  have h := of_decide_eq_false h
  have := restTL_sz sts 262144 (by omega)
  unfold szP
  omega
theorem great_w {sts : List St} (h : decide (restTL sts 262144 < 0) = false) : wTL sts ≤ 262144 := by
  have h := of_decide_eq_false h
  have := restTL_w sts 262144 (by omega)
  omega
end Gim

end

section
namespace Gim
structure BndC (B N : Nat) (st : Cst) : Prop where
  p : ∀ q ∈ st.preds, 1 + q.attr.size + q.txt.size ≤ B ∧ ∃ a c : Nat, q.first = a ∧ q.count = c ∧ a + c ≤ N
  r : ∀ q ∈ st.rows, 1 + q.nm.size ≤ B
  w : ∀ l ∈ st.wh, wXL l ≤ B
theorem wTL_of {t : St} : ∀ {l : List St}, t ∈ l → wT t ≤ wTL l
  | [], h => by cases h
  | x :: r, h => by
    have e : wTL (x :: r) = wT x + wTL r := by
      conv => lhs; unfold wTL
    rw [List.mem_cons] at h
    rcases h with h | h
    · subst h
      omega
    · have := wTL_of h
      omega
theorem bnd_steps {B N : Nat} {st : Cst} (h : BndC B N st) {ts : List St} (hw : wTL ts ≤ B) : BndC B N (stepsC st ts) := by
  refine ⟨h.p, fun q hq => ?_, fun l hl => ?_⟩
  · have hq : q ∈ st.rows ++ ts.map rowOf := hq
    rw [List.mem_append, List.mem_map] at hq
    rcases hq with hq | ⟨t, ht, rfl⟩
    · exact h.r q hq
    · have := wTL_of ht
      cases t
      unfold wT at this
      simp only [rowOf]
      omega
  · have hl : l ∈ st.wh ++ ts.map whOf := hl
    rw [List.mem_append, List.mem_map] at hl
    rcases hl with hl | ⟨t, ht, rfl⟩
    · exact h.w l hl
    · have := wTL_of ht
      cases t
      unfold wT at this
      simp only [whOf]
      omega
theorem bnd_addPred {B N : Nat} {st : Cst} (h : BndC B N st) (hB : 1 ≤ B) (op : Int) : BndC B N (addPred st op) := by
  refine ⟨fun q hq => ?_, h.r, h.w⟩
  have hq : q ∈ st.preds ++ [newPred op] := hq
  rw [List.mem_append, List.mem_singleton] at hq
  rcases hq with hq | rfl
  · exact h.p q hq
  · exact ⟨by simpa [newPred] using hB, 0, 0, rfl, rfl, Nat.zero_le _⟩
theorem bnd_addArg {B N : Nat} {st : Cst} (h : BndC B N st) (k : Nat) (n : Int) : BndC B N (addArg st k n) := by
  refine ⟨fun q hq => ?_, h.r, h.w⟩
  rcases mem_modify hq with hq | ⟨y, hy, rfl⟩
  · exact h.p q hq
  · exact h.p y hy
theorem bnd_addRow {B N : Nat} {st : Cst} (h : BndC B N st) (k : Nat) (n : Int) : BndC B N (addRow st k n) := by
  refine ⟨h.p, fun q hq => ?_, h.w⟩
  rcases mem_modify hq with hq | ⟨y, hy, rfl⟩
  · exact h.r q hq
  · exact h.r y hy
mutual
theorem bnd_cX {B N : Nat} : ∀ (x : Ex) (st : Cst), BndC B N st → wX x ≤ B → st.rows.length + rcX x ≤ N → BndC B N (cX x st)
  | .mk op args sts nm cmp txt num, st, h, hw, hN => by
    have e : wX (.mk op args sts nm cmp txt num) = 1 + nm.size + txt.size + wXL args + wTL sts := by
      conv => lhs; unfold wX
    rw [e] at hw
    have h1 := bnd_addPred h (show 1 ≤ B by omega) op
    unfold rcX at hN
    unfold cX
    by_cases h3 : op = 3
    · rw [if_pos h3] at hN ⊢
      have hs : wTL sts ≤ B := by omega
      refine bnd_steps (st := setSome (addPred st op) st.preds.length sts.length nm cmp txt num) (ts := sts) ⟨fun q hq => ?_, h1.r, h1.w⟩ hs
      rcases mem_modify hq with hq | ⟨y, hy, rfl⟩
      · exact h1.p q hq
      · exact ⟨by show 1 + nm.size + txt.size ≤ B; omega, st.rows.length, sts.length, rfl, rfl, hN⟩
    · rw [if_neg h3] at hN ⊢
      exact bnd_cXL args st.preds.length _ h1 (by omega) hN
theorem bnd_cXL {B N : Nat} : ∀ (l : List Ex) (k : Nat) (st : Cst), BndC B N st → wXL l ≤ B → st.rows.length + rcXL l ≤ N → BndC B N (cXL l k st)
  | [], k, st, h, _, _ => by
    unfold cXL
    exact h
  | x :: r, k, st, h, hw, hN => by
    have e : wXL (x :: r) = wX x + wXL r := by
      conv => lhs; unfold wXL
    have e2 : rcXL (x :: r) = rcX x + rcXL r := by
      conv => lhs; unfold rcXL
    rw [e] at hw
    rw [e2] at hN
    unfold cXL
    have h1 := bnd_cX x st h (by omega) (by omega)
    have hr := (room_cX x st).rows
    exact bnd_cXL r k _ (bnd_addArg h1 k _) (by omega) (by show (cX x st).rows.length + rcXL r ≤ N; omega)
end
theorem bnd_cRow {B N : Nat} (i : Nat) : ∀ (l : List Ex) (st : Cst), BndC B N st → wXL l ≤ B → st.rows.length + rcXL l ≤ N → BndC B N (cRow i l st)
  | [], st, h, _, _ => by
    unfold cRow
    exact h
  | x :: r, st, h, hw, hN => by
    have e : wXL (x :: r) = wX x + wXL r := by
      conv => lhs; unfold wXL
    have e2 : rcXL (x :: r) = rcX x + rcXL r := by
      conv => lhs; unfold rcXL
    rw [e] at hw
    rw [e2] at hN
    unfold cRow
    have h1 := bnd_cX x st h (by omega) (by omega)
    have hr := (room_cX x st).rows
    exact bnd_cRow i r _ (bnd_addRow h1 i _) (by omega) (by show ((cX x st).rows.modify i _).length + rcXL r ≤ N; rw [List.length_modify]; omega)
structure InvCs (B S i : Nat) (st : Cst) : Prop where
  bnd : BndC B S st
  sum : st.rows.length + st.preds.length + pendC st i ≤ S
  wh : st.wh.length = st.rows.length
  args : ArgsLe st.preds.length st
theorem pend_at {st : Cst} {i : Nat} (h : i < st.wh.length) : pendC st i = szXL (st.wh.getD i []) + pendC st (i + 1) := by
  unfold pendC
  rw [List.drop_eq_getElem_cons h, List.map_cons, List.sum_cons, List.getD_eq_getElem?_getD, List.getElem?_eq_getElem h]
  rfl
theorem inv_all {B S : Nat} : ∀ (f i : Nat) (st : Cst), InvCs B S i st → ∃ j, InvCs B S j (cAll f i st)
  | 0, i, st, h => ⟨i, by unfold cAll; exact h⟩
  | f + 1, i, st, h => by
    unfold cAll
    split
    · rename_i hi
      have hw : i < st.wh.length := by rw [h.wh]; exact hi
      have hp := pend_at hw
      have hsum := h.sum
      have hsz := parts_szL (st.wh.getD i [])
      have hr := room_cRow (st.wh.getD i []) i st
      have hm : st.wh.getD i [] ∈ st.wh := by
        rw [List.getD_eq_getElem?_getD, List.getElem?_eq_getElem hw]
        exact List.getElem_mem hw
      refine inv_all f (i + 1) _ ⟨bnd_cRow i _ st h.bnd (h.bnd.w _ hm) (by omega), ?_, by rw [hr.wh, hr.rows, h.wh], by rw [hr.preds]; exact hr.args _ h.args⟩
      have e1 := hr.rows
      have e2 := hr.preds
      have e3 := hr.pend i (by omega)
      have e4 := pend_at (st := cRow i (st.wh.getD i []) st) (i := i) (by rw [hr.wh]; omega)
      have e5 : (cRow i (st.wh.getD i []) st).wh.getD i [] = st.wh.getD i [] := by
        rw [List.getD_eq_getElem?_getD, hr.old i hw, ← List.getD_eq_getElem?_getD]
      rw [e5] at e4
      omega
    · exact ⟨i, h⟩
theorem inv_comp (ts : List St) : ∃ j, InvCs (wTL ts + 1) (szP ts) j (endC ts) := by
  refine inv_all _ 0 _ ⟨bnd_steps ⟨fun q hq => (by cases hq), fun q hq => (by cases hq), fun q hq => (by cases hq)⟩ (by omega), ?_, by simp [stepsC], ?_⟩
  · have h := (room_stepsC ⟨[], [], []⟩ ts).pend 0 (Nat.le_refl _)
    have h0 : pendC (⟨[], [], []⟩ : Cst) 0 = 0 := rfl
    have e1 : (stepsC ⟨[], [], []⟩ ts).rows.length = ts.length := by simp [stepsC]
    have e2 : (stepsC ⟨[], [], []⟩ ts).preds.length = 0 := rfl
    unfold szP
    omega
  · have := (room_stepsC ⟨[], [], []⟩ ts).args 0 ⟨fun r hr => (by cases hr), fun r hr => (by cases hr)⟩
    exact this
theorem nlim_comp {ts : List St} (hs : szP ts ≤ 1048576) (hw : wTL ts ≤ 1099511627775) : NLim (comp ts) := by
  obtain ⟨j, h⟩ := inv_comp ts
  have hsum := h.sum
  have hlen : ts.length ≤ szP ts := Nat.le_add_right _ _
  rw [comp_eq]
  have hp : ∀ k, (endC ts).preds.getD k zp = zp ∨ (endC ts).preds.getD k zp ∈ (endC ts).preds := fun k => by
    rw [List.getD_eq_getElem?_getD]
    cases e : (endC ts).preds[k]? with
    | none => exact .inl rfl
    | some q => exact .inr (List.mem_of_getElem? e)
  have hr : ∀ k, (endC ts).rows.getD k zr = zr ∨ (endC ts).rows.getD k zr ∈ (endC ts).rows := fun k => by
    rw [List.getD_eq_getElem?_getD]
    cases e : (endC ts).rows[k]? with
    | none => exact .inl rfl
    | some q => exact .inr (List.mem_of_getElem? e)
  refine ⟨by show (endC ts).rows.length + (endC ts).preds.length ≤ _; omega, fun k => ?_, fun k => ?_, fun k => ?_, ?_, ⟨by decide, fun k => ?_, fun k => ?_⟩⟩
  · show ((endC ts).preds.getD k zp).args.length ≤ _
    rcases hp k with e | e
    · rw [e]
      decide
    · have := h.args.1 _ e
      omega
  · show ((endC ts).rows.getD k zr).ps.length ≤ _
    rcases hr k with e | e
    · rw [e]
      decide
    · have := h.args.2 _ e
      omega
  · show InR ((endC ts).preds.getD k zp).first ∧ InR ((endC ts).preds.getD k zp).count
    rcases hp k with e | e
    · rw [e]
      unfold InR
      decide
    · obtain ⟨_, a, c, e1, e2, e3⟩ := h.bnd.p _ e
      rw [e1, e2]
      unfold InR
      omega
  · show InR (ts.length : Int)
    unfold InR
    omega
  · show 1 + ((endC ts).preds.getD k zp).attr.size + ((endC ts).preds.getD k zp).txt.size ≤ _
    rcases hp k with e | e
    · rw [e]
      decide
    · have := (h.bnd.p _ e).1
      omega
  · show 1 + ((endC ts).rows.getD k zr).nm.size ≤ _
    rcases hr k with e | e
    · rw [e]
      decide
    · have := h.bnd.r _ e
      omega
end Gim

end

section
namespace Go.Proofs.YtkhejkfjhddobaaGreatDoor
open Go.RowKit Gim
theorem start_hopes (ts : List Gim.St) (w : World) (hok : okP ts = true) (hs : szP ts ≤ 1048576) (hw : wTL ts ≤ 1099511627775) (hT : Laid w) (ra : Option Addr) (rc : Nat) (pa : Option Addr) (pc : Nat) (hR : FitRowS w (comp ts).rows ra (comp ts).rows.length rc) (hP : FitPredS w (comp ts).preds pa (comp ts).preds.length pc) :
    Calls Tryz.prog 15 #[.agg #[.int .i64 (comp ts).main, .slice ra (comp ts).rows.length rc, .slice pa (comp ts).preds.length pc]] w fun e w' => Below w.heap.size w w' ∧ NetOk (comp ts) ∧ ∃ H tg, e = .returned (.tuple #[.pointer (some ⟨H, 0, none⟩), .int .i64 0]) ∧ HoX w.heap.size w' tg H (comp ts) [openF (comp ts) 0 ByteArray.empty []] ck0 none := by
  have hl := nlim_comp hs hw
  have hp := netPath_comp hok
  refine (new_h_calls (comp ts) ra rc pa pc w hR hP hT hl).mono ?_
  rintro e w' ⟨hb, h⟩
  refine ⟨hb, netOk_of hp hl, ?_⟩
  rcases h with ⟨h, _⟩ | ⟨_, H, K, F, G, mn, va, vb, lo, hi, tg, rfl, hM⟩
  · rw [hp] at h
    cases h
  · exact ⟨H, _, rfl, K, _, _, _, _, _, HoI.start hM hb, rfl, .inl rfl⟩
/-- what lies below n0 stays -/
theorem Go6.below {tg tg' : Nat → Nat × Nat} {w w' : World} (h : Go6 tg tg' w w') {n0 : Nat} (h6 : ∀ b, b < n0 → (tg b).1 = 6) (hn : n0 ≤ w.heap.size) : Below n0 w w' :=
  ⟨h.fr.os, h.fr.tape, h.fr.output, h.fr.size, fun b hb => h.fr.block b (Nat.lt_of_lt_of_le hb hn) (fun e => e (h6 b hb))⟩
theorem HoX.low {n0 : Nat} {W : World} {tg : Nat → Nat × Nat} {H : Nat} {nd : NetD} {fs : List FrS} {s : CkS} {ex : Option (List Int)} (h : HoX n0 W tg H nd fs s ex) : n0 ≤ W.heap.size ∧ ∀ b, b < n0 → (tg b).1 = 6 := by
  obtain ⟨K, vF, vX, vK, ps, vO, h1, _⟩ := h
  exact h1.old
end Go.Proofs.YtkhejkfjhddobaaGreatDoor

end

