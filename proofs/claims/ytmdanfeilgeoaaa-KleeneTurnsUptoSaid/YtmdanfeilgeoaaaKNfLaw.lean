/- Simple formulas. Plain laws. -/
import Derived.Test.YtmdanfeilgeoaaaKSimpLaw
namespace Gim
open Go Go.RowKit Go.Sort
theorem list2 {α : Type} {p : List α → Prop} {l : List α} (h0 : p []) (h1 : ∀ f, p [f]) (h2 : 2 ≤ l.length → p l) : p l := by
  match l with
  | [] => exact h0
  | [f] => exact h1 f
  | f :: g :: r => exact h2 (by simp)
/-- a simple formula's own node -/
def shapeF (op v x : Int) (gs : List Fm) : Prop :=
  (op = 0 ∧ 0 ≤ v ∧ v ≤ 2 ∧ x = 0 ∧ gs = []) ∨ (op = 1 ∧ v = 0 ∧ 0 ≤ x ∧ x < 65536 ∧ gs = []) ∨
  ((op = 2 ∨ op = 3) ∧ v = 0 ∧ x = 0 ∧ 2 ≤ gs.length ∧ Up gs ∧ ∀ g ∈ gs, opF g ≠ op ∧ (opF g = 0 → vlF g = 1)) ∨
  (op = 4 ∧ v = 0 ∧ x = 0 ∧ gs.length = 1 ∧ ∀ g ∈ gs, opF g ≠ 0 ∧ opF g ≠ 4)
mutual
/-- a simple formula -/
def nfF : Fm → Prop
  | .mk op v x gs => shapeF op v x gs ∧ nfL gs
def nfL : List Fm → Prop
  | [] => True
  | f :: r => nfF f ∧ nfL r
end
theorem nfL_iff : ∀ l, nfL l ↔ ∀ f ∈ l, nfF f
  | [] => by simp [nfL]
  | f :: r => by unfold nfL; rw [nfL_iff r]; simp
theorem nf_ar {op v x : Int} {gs : List Fm} (h : nfF (.mk op v x gs)) : shapeF op v x gs ∧ ∀ g ∈ gs, nfF g := by
  unfold nfF at h
  exact ⟨h.1, (nfL_iff gs).1 h.2⟩
mutual
theorem nf_isB : ∀ f, nfF f → isB f = true
  | .mk op v x gs, h => by
    unfold nfF at h
    unfold isB
    rw [Bool.and_eq_true]
    refine ⟨?_, nfL_isL gs h.2⟩
    unfold okB
    rcases h.1 with k | k | k | k
    · obtain ⟨k1, k2, k3, k4, k5⟩ := k
      subst k5
      rw [if_pos k1]
      simp [k2, k3, k4]
    · obtain ⟨k1, k2, k3, k4, k5⟩ := k
      subst k5
      rw [if_neg (by omega), if_pos k1]
      simp [k2, k3, k4]
    · rw [if_neg (by omega), if_neg (by omega), if_pos k.1]
      simp [k.2.1, k.2.2.1]
    · rw [if_neg (by omega), if_neg (by omega), if_neg (by omega), if_pos k.1]
      simp [k.2.1, k.2.2.1, k.2.2.2.1]
theorem nfL_isL : ∀ gs, nfL gs → isL gs = true
  | [], _ => by unfold isL; rfl
  | f :: r, h => by
    unfold nfL at h
    unfold isL
    rw [nf_isB f h.1, nfL_isL r h.2]
    rfl
end
theorem nf_cst {f : Fm} (h : nfF f) (h0 : opF f = 0) : f = cst (vlF f) ∧ 0 ≤ vlF f ∧ vlF f ≤ 2 := by
  obtain ⟨op, v, x, gs⟩ := f
  have k := (nf_ar h).1
  simp only [opF] at h0
  rcases k with k | k | k | k
  · obtain ⟨k1, k2, k3, k4, k5⟩ := k
    subst k5
    subst k4
    subst k1
    exact ⟨rfl, k2, k3⟩
  all_goals omega
theorem cst_nf {t : Int} (h0 : 0 ≤ t) (h2 : t ≤ 2) : nfF (cst t) := by
  unfold cst nfF
  exact ⟨.inl ⟨rfl, h0, h2, rfl, rfl⟩, by unfold nfL; trivial⟩
theorem outV_cases (op : Int) : (outV op = 0 ∧ keptV op = 2) ∨ (outV op = 2 ∧ keptV op = 0) := by
  unfold outV keptV
  by_cases h : op = 2 <;> simp [h]
theorem isC_iff (t : Int) (f : Fm) : isC t f = true ↔ opF f = 0 ∧ vlF f = t := by simp [isC]
theorem flR_mem {op : Int} {l : List Fm} {p : Fm} : p ∈ flR op l ↔ ∃ a ∈ l, (opF a = op ∧ p ∈ arF a) ∨ (opF a ≠ op ∧ p = a) := by
  unfold flR
  rw [List.mem_flatMap]
  constructor
  · rintro ⟨a, ha, h⟩
    refine ⟨a, ha, ?_⟩
    by_cases k : opF a = op
    · rw [if_pos k] at h; exact .inl ⟨k, h⟩
    · rw [if_neg k] at h; exact .inr ⟨k, by simpa using h⟩
  · rintro ⟨a, ha, h | h⟩
    · exact ⟨a, ha, by rw [if_pos h.1]; exact h.2⟩
    · exact ⟨a, ha, by rw [if_neg h.1]; simp [h.2]⟩
/-- a simple And's (Or's) parts -/
theorem nf_parts {op : Int} (hop : op = 2 ∨ op = 3) {a p : Fm} (h : nfF a) (ho : opF a = op) (hp : p ∈ arF a) : nfF p ∧ opF p ≠ op ∧ (opF p = 0 → vlF p = 1) := by
  obtain ⟨op', v, x, gs⟩ := a
  simp only [opF] at ho
  simp only [arF] at hp
  obtain ⟨k, hg⟩ := nf_ar h
  rcases k with k | k | k | k
  · omega
  · omega
  · have := k.2.2.2.2.2 p hp
    rw [ho] at this
    exact ⟨hg p hp, this⟩
  · omega
theorem flR_nf {op : Int} (hop : op = 2 ∨ op = 3) {l : List Fm} (h : ∀ f ∈ l, nfF f) {p : Fm} (hp : p ∈ flR op l) : nfF p ∧ opF p ≠ op := by
  obtain ⟨a, ha, k | k⟩ := flR_mem.1 hp
  · have := nf_parts hop (h a ha) k.1 k.2
    exact ⟨this.1, this.2.1⟩
  · rw [k.2]
    exact ⟨h a ha, k.1⟩
theorem flF_mem {op : Int} {l : List Fm} {p : Fm} : p ∈ flF op l ↔ p ∈ flR op l ∧ isC (keptV op) p = false := by
  unfold flF
  rw [List.mem_filter]
  simp
theorem no_out {op : Int} {l : List Fm} (h : ¬ (flR op l).any (isC (outV op)) = true) {p : Fm} (hp : p ∈ flR op l) : isC (outV op) p = false := by
  cases hc : isC (outV op) p with
  | false => rfl
  | true => exact absurd (List.any_eq_true.2 ⟨p, hp, hc⟩) h
/-- where nothing decides, what is left has no constants but Unknown -/
theorem flF_ok {op : Int} (hop : op = 2 ∨ op = 3) {l : List Fm} (h : ∀ f ∈ l, nfF f) (hn : ¬ (flR op l).any (isC (outV op)) = true) {p : Fm} (hp : p ∈ flF op l) : nfF p ∧ opF p ≠ op ∧ (opF p = 0 → vlF p = 1) := by
  obtain ⟨h1, h2⟩ := flF_mem.1 hp
  obtain ⟨h3, h4⟩ := flR_nf hop h h1
  have h5 := no_out hn h1
  refine ⟨h3, h4, fun h0 => ?_⟩
  have h6 := nf_cst h3 h0
  have n1 : vlF p ≠ keptV op := fun e => by
    have := (isC_iff (keptV op) p).2 ⟨h0, e⟩
    rw [this] at h2
    cases h2
  have n2 : vlF p ≠ outV op := fun e => by
    have := (isC_iff (outV op) p).2 ⟨h0, e⟩
    rw [this] at h5
    cases h5
  rcases outV_cases op with k | k <;> omega
theorem pack_nf {op : Int} (hop : op = 2 ∨ op = 3) {l : List Fm} (hu : Up l) (h : ∀ p ∈ l, nfF p ∧ opF p ≠ op ∧ (opF p = 0 → vlF p = 1)) : nfF (packF op l) := by
  match l, hu, h with
  | [], _, _ => exact cst_nf (by rcases outV_cases op with k | k <;> omega) (by rcases outV_cases op with k | k <;> omega)
  | [f], _, h => exact (h f (by simp)).1
  | f :: g :: r, hu, h =>
    show nfF (.mk op 0 0 (f :: g :: r))
    unfold nfF
    exact ⟨.inr (.inr (.inl ⟨hop, rfl, rfl, by simp, hu, fun p hp => (h p hp).2⟩)), (nfL_iff _).2 fun p hp => (h p hp).1⟩
theorem join_nf {op : Int} (hop : op = 2 ∨ op = 3) {l : List Fm} (h : ∀ f ∈ l, nfF f) : nfF (joinF op l) := by
  unfold joinF
  split
  · exact cst_nf (by rcases outV_cases op with k | k <;> omega) (by rcases outV_cases op with k | k <;> omega)
  · rename_i hn
    exact pack_nf hop (putAll_up _) fun p hp => flF_ok hop h hn ((putAll_mem _ p).1 hp)
theorem not_nf {a : Fm} (h : nfF a) : nfF (notF a) := by
  obtain ⟨op, v, x, gs⟩ := a
  have hr := seenB_range v
  simp only [notF]
  split
  · exact cst_nf (t := 2 - seenB v) (by omega) (by omega)
  · split
    · rename_i h0 h4
      obtain ⟨k, hg⟩ := nf_ar h
      match gs, hg with
      | [], _ => exact cst_nf (by omega) (by omega)
      | a :: r, hg => exact hg a (by simp)
    · rename_i h0 h4
      unfold nfF
      refine ⟨.inr (.inr (.inr ⟨rfl, rfl, rfl, rfl, fun g hg => ?_⟩)), by unfold nfL; exact ⟨h, by unfold nfL; trivial⟩⟩
      simp only [List.mem_singleton] at hg
      rw [hg]
      exact ⟨h0, h4⟩
theorem isB_cases {op v x : Int} {gs : List Fm} (h : isB (.mk op v x gs) = true) :
    isL gs = true ∧ ((op = 0 ∧ 0 ≤ v ∧ v ≤ 2 ∧ x = 0 ∧ gs = []) ∨ (op = 1 ∧ v = 0 ∧ 0 ≤ x ∧ x < 65536 ∧ gs = []) ∨ ((op = 2 ∨ op = 3) ∧ v = 0 ∧ x = 0) ∨ (op = 4 ∧ v = 0 ∧ x = 0 ∧ ∃ a, gs = [a])) := by
  unfold isB at h
  rw [Bool.and_eq_true] at h
  refine ⟨h.2, ?_⟩
  have k := h.1
  unfold okB at k
  by_cases h0 : op = 0
  · rw [if_pos h0] at k
    simp at k
    exact .inl ⟨h0, k.1.1.1, k.1.1.2, k.1.2, by simpa using k.2⟩
  · rw [if_neg h0] at k
    by_cases h1 : op = 1
    · rw [if_pos h1] at k
      simp at k
      exact .inr (.inl ⟨h1, k.1.1.1, k.1.1.2, k.1.2, by simpa using k.2⟩)
    · rw [if_neg h1] at k
      by_cases h2 : op = 2 ∨ op = 3
      · rw [if_pos h2] at k
        simp at k
        exact .inr (.inr (.inl ⟨h2, k.1, k.2⟩))
      · rw [if_neg h2] at k
        by_cases h4 : op = 4
        · rw [if_pos h4] at k
          simp at k
          refine .inr (.inr (.inr ⟨h4, k.1.1, k.1.2, ?_⟩))
          exact List.length_eq_one_iff.1 k.2
        · rw [if_neg h4] at k
          cases k
theorem isL_iff : ∀ gs, isL gs = true ↔ ∀ g ∈ gs, isB g = true
  | [] => by simp [isL]
  | f :: r => by unfold isL; rw [Bool.and_eq_true, isL_iff r]; simp
mutual
theorem simp_nf {vs : List Int} (hv : goodB vs) : ∀ f, isB f = true → nfF (simpF vs f)
  | .mk op v x gs, h => by
    obtain ⟨hl, k⟩ := isB_cases h
    have ih := simpL_nf hv gs hl
    unfold simpF
    rcases k with k | k | k | k
    · rw [if_pos k.1]
      exact cst_nf k.2.1 k.2.2.1
    · rw [if_neg (by omega), if_pos k.1]
      have := val_rng hv x k.2.2.1
      split
      · unfold nfF
        exact ⟨.inr (.inl ⟨rfl, rfl, k.2.2.1, k.2.2.2.1, rfl⟩), by unfold nfL; trivial⟩
      · exact cst_nf this.1 this.2
    · rw [if_neg (by omega), if_neg (by omega), if_neg (by omega)]
      exact join_nf k.1 ih
    · rw [if_neg (by omega), if_neg (by omega), if_pos k.1]
      obtain ⟨a, rfl⟩ := k.2.2.2
      exact not_nf (ih _ (by unfold simpL; simp))
theorem simpL_nf {vs : List Int} (hv : goodB vs) : ∀ l, isL l = true → ∀ f ∈ simpL vs l, nfF f
  | [], _ => by unfold simpL; simp
  | f :: r, h => by
    unfold isL at h
    rw [Bool.and_eq_true] at h
    unfold simpL
    intro p hp
    rcases List.mem_cons.1 hp with e | hp
    · rw [e]; exact simp_nf hv f h.1
    · exact simpL_nf hv r h.2 p hp
end
theorem flR_id {op : Int} : ∀ {l : List Fm}, (∀ g ∈ l, opF g ≠ op) → flR op l = l
  | [], _ => rfl
  | f :: r, h => by
    have ih := flR_id (op := op) (l := r) fun g hg => h g (by simp [hg])
    unfold flR at ih ⊢
    rw [List.flatMap_cons, ih, if_neg (h f (by simp))]
    rfl
theorem pack_two {op : Int} {l : List Fm} (h : 2 ≤ l.length) : packF op l = .mk op 0 0 l := by
  match l, h with
  | f :: g :: r, _ => rfl
mutual
theorem simp_id : ∀ f, nfF f → simpF [] f = f
  | .mk op v x gs, h => by
    have hL := simpL_id gs
    obtain ⟨k, hg⟩ := nf_ar h
    have hLe := hL ((nfL_iff gs).2 hg)
    unfold simpF
    rcases k with k | k | k | k
    · obtain ⟨k1, k2, k3, k4, k5⟩ := k
      rw [if_pos k1, k1, k4, k5]
      rfl
    · obtain ⟨k1, k2, k3, k4, k5⟩ := k
      rw [if_neg (by omega), if_pos k1, if_pos (by unfold valB; rw [if_neg (by simp; omega)]), k1, k2, k5]
    · obtain ⟨k1, k2, k3, k4, k5, k6⟩ := k
      rw [if_neg (by omega), if_neg (by omega), if_neg (by omega), hLe]
      have hR : flR op gs = gs := flR_id fun g hg => (k6 g hg).1
      have hF : flF op gs = gs := by
        unfold flF
        rw [hR]
        refine List.filter_eq_self.2 fun p hp => ?_
        cases hc : isC (keptV op) p with
        | false => rfl
        | true =>
          have := (isC_iff _ _).1 hc
          have := (k6 p hp).2 this.1
          rcases outV_cases op with q | q <;> omega
      have hn : ¬ (flR op gs).any (isC (outV op)) = true := fun hh => by
        rw [hR] at hh
        obtain ⟨p, hp, hc⟩ := List.any_eq_true.1 hh
        have := (isC_iff _ _).1 hc
        have := (k6 p hp).2 this.1
        rcases outV_cases op with q | q <;> omega
      unfold joinF
      rw [if_neg hn, hF, putAll_of gs gs k5 (fun _ => Iff.rfl), pack_two k4, k2, k3]
    · obtain ⟨k1, k2, k3, k4, k5⟩ := k
      rw [if_neg (by omega), if_neg (by omega), if_pos k1, hLe]
      obtain ⟨a, rfl⟩ := List.length_eq_one_iff.1 k4
      have := k5 a (by simp)
      obtain ⟨o, v2, x2, g2⟩ := a
      simp only [opF] at this
      show notF (.mk o v2 x2 g2) = _
      simp only [notF]
      rw [if_neg this.1, if_neg this.2, k1, k2, k3]
theorem simpL_id : ∀ l, nfL l → simpL [] l = l
  | [], _ => by unfold simpL; rfl
  | f :: r, h => by
    unfold nfL at h
    unfold simpL
    rw [simp_id f h.1, simpL_id r h.2]
end
end Gim
