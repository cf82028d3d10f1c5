/- Simplifying: kleene's own way, sizes, variables, knowing more. Plain laws. -/
import Derived.Test.YtmdanfeilgeoaaaKEvalLaw
namespace Gim
open Go Go.RowKit Go.Sort
/-- kleene's own list of parts is the document's -/
theorem flK_flF {op : Int} (hop : op = 2 ∨ op = 3) : ∀ (l : List Fm), (∀ f ∈ l, nfF f) → (l.flatMap fun a => if opF a = op then arF a else if ordF a (cst (keptV op)) = 0 then [] else [a]) = flF op l
  | [], _ => rfl
  | a :: r, h => by
    have ih := flK_flF hop r fun f hf => h f (by simp [hf])
    have ha := h a (by simp)
    unfold flF flR at ih ⊢
    rw [List.flatMap_cons, List.flatMap_cons, List.filter_append, ih]
    congr 1
    by_cases k : opF a = op
    · rw [if_pos k, if_pos k]
      refine (List.filter_eq_self.2 fun p hp => ?_).symm
      have hp2 := nf_parts hop ha k hp
      cases hc : isC (keptV op) p with
      | false => rfl
      | true =>
        have := (isC_iff _ _).1 hc
        have := hp2.2.2 this.1
        rcases outV_cases op with q | q <;> omega
    · rw [if_neg k, if_neg k]
      by_cases e : ordF a (cst (keptV op)) = 0
      · rw [if_pos e]
        have e2 := ordF_eq _ _ e
        rw [e2]
        simp [isC, cst, opF, vlF]
      · rw [if_neg e]
        have : isC (keptV op) a = false := by
          cases hc : isC (keptV op) a with
          | false => rfl
          | true =>
            have h1 := (isC_iff _ _).1 hc
            have h2 := (nf_cst ha h1.1).1
            rw [h1.2] at h2
            rw [h2] at e
            exact absurd (ordF_self _) e
        simp [this]
theorem join_of {op : Int} (hop : op = 2 ∨ op = 3) {l s : List Fm} (h : ∀ f ∈ l, nfF f) (hu : Up s) (hm : ∀ k, k ∈ s ↔ k ∈ flF op l) :
    joinF op l = if (s.any fun p => decide (ordF p (cst (outV op)) = 0)) = true then cst (outV op) else packF op s := by
  have hP := putAll_of (flF op l) s hu hm
  unfold joinF
  rw [hP]
  by_cases k : (flR op l).any (isC (outV op)) = true
  · rw [if_pos k]
    obtain ⟨p, hp, hc⟩ := List.any_eq_true.1 k
    have h1 := (isC_iff _ _).1 hc
    have h2 := (nf_cst (flR_nf hop h hp).1 h1.1).1
    rw [h1.2] at h2
    have h3 : p ∈ s := (hm p).2 (flF_mem.2 ⟨hp, by
      cases hk : isC (keptV op) p with
      | false => rfl
      | true =>
        have := (isC_iff _ _).1 hk
        rcases outV_cases op with q | q <;> omega⟩)
    rw [if_pos (List.any_eq_true.2 ⟨p, h3, by rw [h2, ordF_self]; simp⟩)]
  · rw [if_neg k, if_neg fun hh => k ?_]
    obtain ⟨p, hp, hc⟩ := List.any_eq_true.1 hh
    have h1 := ordF_eq _ _ (of_decide_eq_true hc)
    exact List.any_eq_true.2 ⟨p, (flF_mem.1 ((hm p).1 hp)).1, by rw [h1]; simp [isC, cst, opF, vlF]⟩
/-! sizes -/
theorem szL_flat (op : Int) : ∀ l : List Fm, szL (flR op l) ≤ szL l
  | [] => by simp [flR, szL]
  | a :: r => by
    have ih := szL_flat op r
    unfold flR at ih ⊢
    rw [List.flatMap_cons, szL_app]
    generalize List.flatMap _ r = q at ih ⊢
    obtain ⟨o, v, x, gs⟩ := a
    by_cases k : o = op
    · rw [if_pos (show opF (.mk o v x gs) = op from k)]
      simp only [szL, szF, arF]
      omega
    · rw [if_neg (show ¬ opF (.mk o v x gs) = op from k)]
      simp only [szL, szF]
      omega
theorem szL_filter (q : Fm → Bool) : ∀ l : List Fm, szL (l.filter q) ≤ szL l
  | [] => by simp
  | a :: r => by
    have ih := szL_filter q r
    rw [List.filter_cons]
    split <;> simp only [szL] <;> omega
theorem pack_sz (op : Int) (l : List Fm) : szF (packF op l) ≤ 1 + szL l := by
  match l with
  | [] => simp [packF, cst, szF, szL]
  | [f] => simp only [packF, szL]; omega
  | f :: g :: r => simp only [packF, szF]; omega
theorem join_sz (op : Int) (l : List Fm) : szF (joinF op l) ≤ 1 + szL l := by
  unfold joinF
  split
  · simp [cst, szF, szL]
  · have h1 := pack_sz op (putAll (flF op l))
    have h2 := putAll_sz (flF op l)
    have h3 := szL_filter (fun p => !isC (keptV op) p) (flR op l)
    have h4 := szL_flat op l
    unfold flF at h1 h2 ⊢
    omega
theorem szF_pos (f : Fm) : 1 ≤ szF f := by
  obtain ⟨o, v, x, gs⟩ := f
  simp only [szF]; omega
theorem not_sz (a : Fm) : szF (notF a) ≤ 1 + szF a := by
  obtain ⟨o, v, x, gs⟩ := a
  simp only [notF]
  split
  · simp only [cst, szF, szL]; omega
  · split
    · match gs with
      | [] => simp only [List.headD_nil, cst, szF, szL]; omega
      | b :: r => simp only [List.headD_cons, szF, szL]; omega
    · simp only [szF, szL]; omega
mutual
theorem simp_sz (vs : List Int) : ∀ f, isB f = true → szF (simpF vs f) ≤ szF f
  | .mk op v x gs, h => by
    obtain ⟨hl, k⟩ := isB_cases h
    have ih := simpL_sz vs gs hl
    unfold simpF
    have hp := szF_pos (.mk op v x gs)
    rcases k with k | k | k | k
    · rw [if_pos k.1]; simp only [cst, szF, szL] at hp ⊢; omega
    · rw [if_neg (by omega), if_pos k.1]
      split <;> simp only [cst, szF, szL] at hp ⊢ <;> omega
    · rw [if_neg (by omega), if_neg (by omega), if_neg (by omega)]
      have := join_sz op (simpL vs gs)
      simp only [szF]
      omega
    · rw [if_neg (by omega), if_neg (by omega), if_pos k.1]
      obtain ⟨a, rfl⟩ := k.2.2.2
      unfold simpL at ih ⊢
      have := not_sz (simpF vs a)
      simp only [szF, szL, List.headD_cons] at ih this ⊢
      omega
theorem simpL_sz (vs : List Int) : ∀ l, isL l = true → szL (simpL vs l) ≤ szL l
  | [], _ => by unfold simpL; exact Nat.le_refl _
  | f :: r, h => by
    unfold isL at h
    rw [Bool.and_eq_true] at h
    have h1 := simp_sz vs f h.1
    have h2 := simpL_sz vs r h.2
    unfold simpL
    simp only [szL]
    omega
end
/-! variables -/
theorem varsL_mem (y : Int) : ∀ l : List Fm, y ∈ varsL l ↔ ∃ f ∈ l, y ∈ varsF f
  | [] => by simp [varsL]
  | f :: r => by unfold varsL; rw [List.mem_append, varsL_mem y r]; simp
theorem vars_cst (t : Int) : varsF (cst t) = [] := by simp [cst, varsF, varsL]
theorem vars_big {op : Int} (hop : op ≠ 1) (v x : Int) (gs : List Fm) : varsF (.mk op v x gs) = varsL gs := by
  unfold varsF
  rw [if_neg hop, List.nil_append]
theorem vars_join {op : Int} (hop : op = 2 ∨ op = 3) (l : List Fm) (y : Int) (h : y ∈ varsF (joinF op l)) : ∃ f ∈ l, y ∈ varsF f := by
  unfold joinF at h
  split at h
  · rw [vars_cst] at h
    cases h
  · have h2 : ∃ p ∈ putAll (flF op l), y ∈ varsF p := by
      rcases hP : putAll (flF op l) with _ | ⟨f, _ | ⟨g, r⟩⟩
      · rw [hP] at h
        simp only [packF, vars_cst] at h
        cases h
      · rw [hP] at h
        exact ⟨f, by simp, h⟩
      · rw [hP] at h
        simp only [packF] at h
        rw [vars_big (by omega)] at h
        exact (varsL_mem y _).1 h
    obtain ⟨p, hp, hy⟩ := h2
    have hp2 := (flF_mem.1 ((putAll_mem _ p).1 hp)).1
    obtain ⟨a, ha, k | k⟩ := flR_mem.1 hp2
    · refine ⟨a, ha, ?_⟩
      obtain ⟨o, v, x, gs⟩ := a
      simp only [opF, arF] at k
      rw [vars_big (by omega)]
      exact (varsL_mem y gs).2 ⟨p, k.2, hy⟩
    · exact ⟨a, ha, by rw [← k.2]; exact hy⟩
theorem vars_not (a : Fm) (y : Int) (h : y ∈ varsF (notF a)) : y ∈ varsF a := by
  obtain ⟨o, v, x, gs⟩ := a
  simp only [notF] at h
  split at h
  · rw [vars_cst] at h; cases h
  · split at h
    · rename_i h4
      rw [vars_big (by omega)]
      rcases gs with _ | ⟨b, r⟩
      · simp only [List.headD_nil, vars_cst] at h; cases h
      · exact (varsL_mem y _).2 ⟨b, by simp, h⟩
    · rw [vars_big (by omega)] at h
      simpa [varsL] using h
mutual
theorem simp_vars (vs : List Int) : ∀ f, isB f = true → ∀ y ∈ varsF (simpF vs f), y ∈ varsF f ∧ valB vs y = 1
  | .mk op v x gs, h, y, hy => by
    obtain ⟨hl, k⟩ := isB_cases h
    have ih := simpL_vars vs gs hl
    unfold simpF at hy
    rcases k with k | k | k | k
    · rw [if_pos k.1, vars_cst] at hy
      cases hy
    · rw [if_neg (by omega), if_pos k.1] at hy
      split at hy
      · rename_i h1
        simp only [varsF, if_pos, varsL, List.append_nil, List.mem_singleton] at hy
        subst hy
        refine ⟨?_, h1⟩
        unfold varsF
        rw [if_pos k.1]
        simp
      · rw [vars_cst] at hy
        cases hy
    · rw [if_neg (by omega), if_neg (by omega), if_neg (by omega)] at hy
      obtain ⟨f, hf, hy2⟩ := vars_join k.1 _ y hy
      obtain ⟨g, hg, h1, h2⟩ := ih f hf y hy2
      refine ⟨?_, h2⟩
      rw [vars_big (by omega)]
      exact (varsL_mem y gs).2 ⟨g, hg, h1⟩
    · rw [if_neg (by omega), if_neg (by omega), if_pos k.1] at hy
      obtain ⟨a, rfl⟩ := k.2.2.2
      unfold simpL at hy ih
      obtain ⟨g, hg, h1, h2⟩ := ih (simpF vs a) (by simp) y (vars_not _ y hy)
      refine ⟨?_, h2⟩
      rw [vars_big (by omega)]
      exact (varsL_mem y _).2 ⟨g, hg, h1⟩
theorem simpL_vars (vs : List Int) : ∀ l, isL l = true → ∀ p ∈ simpL vs l, ∀ y ∈ varsF p, ∃ g ∈ l, y ∈ varsF g ∧ valB vs y = 1
  | [], _, p, hp, _, _ => by unfold simpL at hp; cases hp
  | f :: r, h, p, hp, y, hy => by
    unfold isL at h
    rw [Bool.and_eq_true] at h
    have h1 := simp_vars vs f h.1
    have h2 := simpL_vars vs r h.2
    unfold simpL at hp
    rcases List.mem_cons.1 hp with e | hp
    · rw [e] at hy
      exact ⟨f, by simp, h1 y hy⟩
    · obtain ⟨g, hg, k⟩ := h2 p hp y hy
      exact ⟨g, by simp [hg], k⟩
end
/-! a simple formula without variables is a constant -/
mutual
theorem nf_novars : ∀ f, nfF f → varsF f = [] → opF f = 0
  | .mk op v x gs, h, hv => by
    obtain ⟨k, hg⟩ := nf_ar h
    have ih := nfL_novars gs ((nfL_iff gs).2 hg)
    rcases k with k | k | k | k
    · exact k.1
    · unfold varsF at hv
      rw [if_pos k.1] at hv
      cases hv
    · rw [vars_big (by omega)] at hv
      have h0 := ih hv
      obtain ⟨k1, k2, k3, k4, k5, k6⟩ := k
      rcases gs with _ | ⟨a, _ | ⟨b, r⟩⟩
      · simp at k4
      · simp at k4
      · have a0 := h0 a (by simp)
        have b0 := h0 b (by simp)
        have ea := (nf_cst (hg a (by simp)) a0).1
        have eb := (nf_cst (hg b (by simp)) b0).1
        rw [(k6 a (by simp)).2 a0] at ea
        rw [(k6 b (by simp)).2 b0] at eb
        have := (List.pairwise_cons.1 k5).1 b (by simp)
        rw [ea, eb, ordF_self] at this
        omega
    · rw [vars_big (by omega)] at hv
      have h0 := ih hv
      obtain ⟨k1, k2, k3, k4, k5⟩ := k
      obtain ⟨a, rfl⟩ := List.length_eq_one_iff.1 k4
      exact absurd (h0 a (by simp)) (k5 a (by simp)).1
theorem nfL_novars : ∀ l, nfL l → varsL l = [] → ∀ f ∈ l, opF f = 0
  | [], _, _ => by simp
  | f :: r, h, hv => by
    unfold nfL at h
    unfold varsL at hv
    have := List.append_eq_nil_iff.1 hv
    intro p hp
    rcases List.mem_cons.1 hp with e | hp
    · rw [e]; exact nf_novars f h.1 this.1
    · exact nfL_novars r h.2 this.2 p hp
end
theorem mrg_self (v : List Int) : mrgV v v v := fun x _ => by split <;> first | rfl | assumption
/-- with every variable known, the simple formula is the constant of the value -/
theorem simp_known {v : List Int} (hv : goodB v) {f : Fm} (h : isB f = true) (hk : ∀ y ∈ varsF f, valB v y ≠ 1) : simpF v f = cst (evalF v f) := by
  have hn := simp_nf hv f h
  have h0 : varsF (simpF v f) = [] := by
    rcases hl : varsF (simpF v f) with _ | ⟨y, r⟩
    · rfl
    · have := simp_vars v f h y (by rw [hl]; simp)
      exact absurd this.2 (hk y this.1)
  have h1 := (nf_cst hn (nf_novars _ hn h0)).1
  have h2 := eval_simp hv hv (mrg_self v) f h
  rw [h1, eval_cst] at h2
  rw [h1, h2]
/-! knowing more -/
theorem opV_grows {op : Int} {α : Type} (e e2 : α → Int) (l : List α) (h : ∀ p ∈ l, seenB (e p) ≠ 1 → seenB (e2 p) = seenB (e p)) (hn : opV op (l.map e) ≠ 1) : opV op (l.map e2) = opV op (l.map e) := by
  have hr := opV_rng op (l.map e)
  have hr2 := opV_rng op (l.map e2)
  unfold opV at *
  by_cases k : op = 2
  · rw [if_pos k] at *
    by_cases c : andF (l.map e) = 2
    · rw [c]
      have := (and_ge_iff (l.map e) 2 (by omega)).1 (by omega)
      have := (and_ge_iff (l.map e2) 2 (by omega)).2 fun t ht => by
        obtain ⟨p, hp, rfl⟩ := List.mem_map.1 ht
        have h1 := this _ (List.mem_map.2 ⟨p, hp, rfl⟩)
        have := h p hp (by omega)
        omega
      omega
    · have c0 : andF (l.map e) = 0 := by omega
      rw [c0]
      rcases and_is (l.map e) with q | ⟨t, ht, q⟩
      · omega
      · obtain ⟨p, hp, rfl⟩ := List.mem_map.1 ht
        have h1 := h p hp (by omega)
        have := and_le (List.mem_map.2 ⟨p, hp, rfl⟩ : e2 p ∈ l.map e2)
        omega
  · rw [if_neg k] at *
    by_cases c : orF (l.map e) = 0
    · rw [c]
      have := (or_le_iff (l.map e) 0 (by omega)).1 (by omega)
      have := (or_le_iff (l.map e2) 0 (by omega)).2 fun t ht => by
        obtain ⟨p, hp, rfl⟩ := List.mem_map.1 ht
        have h1 := this _ (List.mem_map.2 ⟨p, hp, rfl⟩)
        have h2 := seenB_range (e p)
        have := h p hp (by omega)
        omega
      omega
    · have c0 : orF (l.map e) = 2 := by omega
      rw [c0]
      rcases or_is (l.map e) with q | ⟨t, ht, q⟩
      · omega
      · obtain ⟨p, hp, rfl⟩ := List.mem_map.1 ht
        have h1 := h p hp (by omega)
        have := or_ge (List.mem_map.2 ⟨p, hp, rfl⟩ : e2 p ∈ l.map e2)
        omega
/-- m knows what v knows -/
def knows (v m : List Int) : Prop := ∀ x, 0 ≤ x → valB v x ≠ 1 → valB m x = valB v x
mutual
theorem eval_grows {v m : List Int} (hv : goodB v) (hm : goodB m) (hk : knows v m) : ∀ f, isB f = true → evalF v f ≠ 1 → evalF m f = evalF v f
  | .mk op vl x gs, h, hn => by
    obtain ⟨hl, k⟩ := isB_cases h
    have ih := evalL_grows hv hm hk gs hl
    rcases k with k | k | k | k
    · unfold evalF
      rw [if_pos k.1, if_pos k.1]
    · rw [k.1, eval_var] at hn
      rw [k.1, eval_var, eval_var]
      exact hk x k.2.2.1 hn
    · rw [eval_mk k.1] at hn
      rw [eval_mk k.1, eval_mk k.1]
      exact opV_grows _ _ gs (fun p hp h1 => by
        have hb := (isL_iff gs).1 hl p hp
        have r1 := seen_id (eval_rng hv p hb)
        have r2 := seen_id (eval_rng hm p hb)
        rw [r1] at h1 ⊢
        rw [r2]
        exact ih p hp h1) hn
    · obtain ⟨a, rfl⟩ := k.2.2.2
      have hb := (isL_iff _).1 hl a (by simp)
      have r1 := eval_rng hv a hb
      have r2 := eval_rng hm a hb
      unfold evalF at hn ⊢
      rw [if_neg (by omega), if_neg (by omega), if_pos k.1] at hn
      rw [if_neg (by omega), if_neg (by omega), if_pos k.1, if_neg (by omega), if_neg (by omega), if_pos k.1]
      unfold evalL at hn ⊢
      simp only [List.headD_cons] at hn ⊢
      rw [seen_id r1] at hn ⊢
      rw [seen_id r2, ih a (by simp) (by omega)]
theorem evalL_grows {v m : List Int} (hv : goodB v) (hm : goodB m) (hk : knows v m) : ∀ l, isL l = true → ∀ p ∈ l, evalF v p ≠ 1 → evalF m p = evalF v p
  | [], _, p, hp, _ => by cases hp
  | f :: r, h, p, hp, hn => by
    unfold isL at h
    rw [Bool.and_eq_true] at h
    have h1 := eval_grows hv hm hk f h.1
    have h2 := evalL_grows hv hm hk r h.2
    rcases List.mem_cons.1 hp with e | hp
    · rw [e] at hn ⊢
      exact h1 hn
    · exact h2 p hp hn
end
end Gim
