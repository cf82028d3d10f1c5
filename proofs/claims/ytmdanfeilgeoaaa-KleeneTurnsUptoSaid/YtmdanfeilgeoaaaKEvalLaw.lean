/- The value of a simple formula. Plain laws. -/
import Derived.Test.YtmdanfeilgeoaaaKNfLaw
namespace Gim
open Go Go.RowKit Go.Sort
/-- m knows what v knows, and else what w does -/
def mrgV (v w m : List Int) : Prop := ∀ x, 0 ≤ x → valB m x = if valB v x = 1 then valB w x else valB v x
/-- And's or Or's value of some values -/
def opV (op : Int) (l : List Int) : Int := if op = 2 then andF l else orF l
theorem opV_rng (op : Int) (l : List Int) : 0 ≤ opV op l ∧ opV op l ≤ 2 := by
  unfold opV
  split
  · exact and_rng l
  · exact or_rng l
theorem eval_mk {op : Int} (hop : op = 2 ∨ op = 3) (w : List Int) (v x : Int) (gs : List Fm) : evalF w (.mk op v x gs) = opV op (gs.map (evalF w)) := by
  unfold evalF opV
  rw [if_neg (by omega), if_neg (by omega), if_neg (by omega), evalL_map]
/-- what the members of a list come to, seen together -/
theorem opV_same {op : Int} {a b : List Int} (h : ∀ c, (∀ t ∈ a, c ≤ seenB t) ↔ (∀ t ∈ b, c ≤ seenB t)) (k : ∀ c, (∀ t ∈ a, seenB t ≤ c) ↔ (∀ t ∈ b, seenB t ≤ c)) : opV op a = opV op b := by
  unfold opV
  split
  · refine eq_of_ge (fun c hc => ?_) (and_rng a).2 (and_rng b).2
    rw [and_ge_iff a c hc, and_ge_iff b c hc]
    exact h c
  · refine eq_of_le (fun c hc => ?_) (or_rng a).1 (or_rng b).1
    rw [or_le_iff a c hc, or_le_iff b c hc]
    exact k c
theorem opV_mem {op : Int} {a b : List Int} (h : ∀ t, t ∈ a ↔ t ∈ b) : opV op a = opV op b :=
  opV_same (fun _ => ⟨fun k t ht => k t ((h t).2 ht), fun k t ht => k t ((h t).1 ht)⟩) (fun _ => ⟨fun k t ht => k t ((h t).2 ht), fun k t ht => k t ((h t).1 ht)⟩)
theorem opV_one (op : Int) (t : Int) : opV op [t] = seenB t := by
  have := seenB_range t
  unfold opV
  split
  · refine eq_of_ge (fun c hc => ?_) (and_rng _).2 this.2
    rw [and_ge_iff _ c hc]; simp
  · refine eq_of_le (fun c hc => ?_) (or_rng _).1 this.1
    rw [or_le_iff _ c hc]; simp
theorem opV_out {op : Int} {l : List Int} (h : ∃ t ∈ l, seenB t = outV op) : opV op l = outV op := by
  obtain ⟨t, ht, e⟩ := h
  unfold opV
  by_cases k : op = 2
  · rw [if_pos k]
    have h1 := and_le ht
    have h2 := and_rng l
    have : outV op = 0 := by unfold outV; rw [if_pos k]
    omega
  · rw [if_neg k]
    have h1 := or_ge ht
    have h2 := or_rng l
    have : outV op = 2 := by unfold outV; rw [if_neg k]
    omega
theorem seen_kept (op : Int) : seenB (keptV op) = keptV op := seen_id (by rcases outV_cases op with k | k <;> omega)
theorem seen_out (op : Int) : seenB (outV op) = outV op := seen_id (by rcases outV_cases op with k | k <;> omega)
theorem opV_nil (op : Int) : opV op [] = keptV op := by
  unfold opV keptV andF orF
  by_cases k : op = 2 <;> simp [k]
/-- parts that add nothing may go -/
theorem opV_drop {op : Int} {α : Type} (e : α → Int) (q : α → Bool) : ∀ (l : List α), (∀ p ∈ l, q p = false → seenB (e p) = keptV op) → opV op ((l.filter q).map e) = opV op (l.map e) := by
  intro l h
  unfold opV
  by_cases k : op = 2
  · rw [if_pos k, if_pos k]
    refine eq_of_ge (fun c hc => ?_) (and_rng _).2 (and_rng _).2
    rw [and_ge_iff _ c hc, and_ge_iff _ c hc]
    simp only [List.mem_map, List.mem_filter]
    constructor
    · rintro h1 t ⟨p, hp, rfl⟩
      by_cases hq : q p = true
      · exact h1 _ ⟨p, ⟨hp, hq⟩, rfl⟩
      · have := h p hp (by simpa using hq)
        have : keptV op = 2 := by unfold keptV; rw [if_pos k]
        omega
    · rintro h1 t ⟨p, ⟨hp, _⟩, rfl⟩
      exact h1 _ ⟨p, hp, rfl⟩
  · rw [if_neg k, if_neg k]
    refine eq_of_le (fun c hc => ?_) (or_rng _).1 (or_rng _).1
    rw [or_le_iff _ c hc, or_le_iff _ c hc]
    simp only [List.mem_map, List.mem_filter]
    constructor
    · rintro h1 t ⟨p, hp, rfl⟩
      by_cases hq : q p = true
      · exact h1 _ ⟨p, ⟨hp, hq⟩, rfl⟩
      · have := h p hp (by simpa using hq)
        have : keptV op = 0 := by unfold keptV; rw [if_neg k]
        omega
    · rintro h1 t ⟨p, ⟨hp, _⟩, rfl⟩
      exact h1 _ ⟨p, hp, rfl⟩
theorem opV_ge {op : Int} {l : List Int} (c : Int) (hc : c ≤ 2) (h0 : 0 ≤ c) : (op = 2 → (c ≤ opV op l ↔ ∀ t ∈ l, c ≤ seenB t)) ∧ (op ≠ 2 → (opV op l ≤ c ↔ ∀ t ∈ l, seenB t ≤ c)) := by
  unfold opV
  constructor
  · intro k
    rw [if_pos k]
    exact and_ge_iff l c hc
  · intro k
    rw [if_neg k]
    exact or_le_iff l c h0
/-- taking parts of the same kind apart keeps the value -/
theorem opV_flat {op : Int} (hop : op = 2 ∨ op = 3) {w : List Int} (hw : goodB w) {l : List Fm} (h : ∀ f ∈ l, nfF f) : opV op ((flR op l).map (evalF w)) = opV op (l.map (evalF w)) := by
  have hr : ∀ f, nfF f → seenB (evalF w f) = evalF w f := fun f hf => seen_id (eval_rng hw f (nf_isB f hf))
  have hpart : ∀ a, nfF a → opF a = op → evalF w a = opV op ((arF a).map (evalF w)) := fun a _ ho => by
    obtain ⟨o, v, x, gs⟩ := a
    simp only [opF] at ho
    subst ho
    exact eval_mk hop w v x gs
  by_cases k : op = 2
  · unfold opV
    rw [if_pos k, if_pos k]
    refine eq_of_ge (fun c hc => ?_) (and_rng _).2 (and_rng _).2
    rw [and_ge_iff _ c hc, and_ge_iff _ c hc]
    simp only [List.mem_map]
    constructor
    · rintro h1 t ⟨a, ha, rfl⟩
      by_cases ho : opF a = op
      · have h2 := hpart a (h a ha) ho
        rw [hr a (h a ha), h2]
        unfold opV
        rw [if_pos k, and_ge_iff _ c hc]
        simp only [List.mem_map]
        rintro t ⟨p, hp, rfl⟩
        exact h1 _ ⟨p, flR_mem.2 ⟨a, ha, .inl ⟨ho, hp⟩⟩, rfl⟩
      · exact h1 _ ⟨a, flR_mem.2 ⟨a, ha, .inr ⟨ho, rfl⟩⟩, rfl⟩
    · rintro h1 t ⟨p, hp, rfl⟩
      obtain ⟨a, ha, q | q⟩ := flR_mem.1 hp
      · have h2 := hpart a (h a ha) q.1
        have h3 := h1 _ ⟨a, ha, rfl⟩
        rw [hr a (h a ha), h2] at h3
        unfold opV at h3
        rw [if_pos k, and_ge_iff _ c hc] at h3
        exact h3 _ (List.mem_map.2 ⟨p, q.2, rfl⟩)
      · rw [q.2]
        exact h1 _ ⟨a, ha, rfl⟩
  · unfold opV
    rw [if_neg k, if_neg k]
    refine eq_of_le (fun c hc => ?_) (or_rng _).1 (or_rng _).1
    rw [or_le_iff _ c hc, or_le_iff _ c hc]
    simp only [List.mem_map]
    constructor
    · rintro h1 t ⟨a, ha, rfl⟩
      by_cases ho : opF a = op
      · have h2 := hpart a (h a ha) ho
        rw [hr a (h a ha), h2]
        unfold opV
        rw [if_neg k, or_le_iff _ c hc]
        simp only [List.mem_map]
        rintro t ⟨p, hp, rfl⟩
        exact h1 _ ⟨p, flR_mem.2 ⟨a, ha, .inl ⟨ho, hp⟩⟩, rfl⟩
      · exact h1 _ ⟨a, flR_mem.2 ⟨a, ha, .inr ⟨ho, rfl⟩⟩, rfl⟩
    · rintro h1 t ⟨p, hp, rfl⟩
      obtain ⟨a, ha, q | q⟩ := flR_mem.1 hp
      · have h2 := hpart a (h a ha) q.1
        have h3 := h1 _ ⟨a, ha, rfl⟩
        rw [hr a (h a ha), h2] at h3
        unfold opV at h3
        rw [if_neg k, or_le_iff _ c hc] at h3
        exact h3 _ (List.mem_map.2 ⟨p, q.2, rfl⟩)
      · rw [q.2]
        exact h1 _ ⟨a, ha, rfl⟩
theorem eval_cst (w : List Int) (t : Int) : evalF w (cst t) = t := by unfold cst evalF; rw [if_pos rfl]
theorem isC_eval (w : List Int) {t : Int} {f : Fm} (h : isC t f = true) : evalF w f = t := by
  obtain ⟨o, v, x, gs⟩ := f
  have := (isC_iff _ _).1 h
  simp only [opF, vlF] at this
  unfold evalF
  rw [if_pos this.1, this.2]
theorem eval_pack {op : Int} (hop : op = 2 ∨ op = 3) {w : List Int} (hw : goodB w) (l : List Fm) (h : ∀ f ∈ l, nfF f) : evalF w (packF op l) = opV op (l.map (evalF w)) := by
  match l, h with
  | [], _ => rw [List.map_nil, opV_nil]; exact eval_cst _ _
  | [f], h => rw [List.map_cons, List.map_nil, opV_one]; exact (seen_id (eval_rng hw f (nf_isB f (h f (by simp))))).symm
  | f :: g :: r, _ => exact eval_mk hop w 0 0 _
theorem eval_join {op : Int} (hop : op = 2 ∨ op = 3) {w : List Int} (hw : goodB w) {l : List Fm} (h : ∀ f ∈ l, nfF f) : evalF w (joinF op l) = opV op (l.map (evalF w)) := by
  rw [← opV_flat hop hw h]
  unfold joinF
  split
  · rename_i k
    obtain ⟨p, hp, hc⟩ := List.any_eq_true.1 k
    rw [eval_cst, opV_out ⟨_, List.mem_map.2 ⟨p, hp, rfl⟩, by rw [isC_eval w hc]; exact seen_out op⟩]
  · rename_i k
    rw [eval_pack hop hw _ fun f hf => (flR_nf hop h (flF_mem.1 ((putAll_mem _ f).1 hf)).1).1]
    have h1 : opV op ((putAll (flF op l)).map (evalF w)) = opV op ((flF op l).map (evalF w)) := opV_mem fun t => by
      simp only [List.mem_map, putAll_mem]
    rw [h1]
    unfold flF
    refine opV_drop _ _ _ fun p hp hq => ?_
    have : isC (keptV op) p = true := by simpa using hq
    rw [isC_eval w this]
    exact seen_kept op
theorem eval_not {w : List Int} (hw : goodB w) {a : Fm} (h : nfF a) : evalF w (notF a) = 2 - seenB (evalF w a) := by
  obtain ⟨op, v, x, gs⟩ := a
  simp only [notF]
  split
  · rename_i h0
    rw [eval_cst]
    unfold evalF
    rw [if_pos h0]
  · split
    · rename_i h0 h4
      obtain ⟨k, hg⟩ := nf_ar h
      have hl : gs.length = 1 := by rcases k with k | k | k | k <;> omega
      obtain ⟨b, rfl⟩ := List.length_eq_one_iff.1 hl
      have hr := eval_rng hw b (nf_isB b (hg b (by simp)))
      show evalF w b = _
      conv => rhs; unfold evalF
      rw [if_neg h0, if_neg (by omega), if_pos h4, evalL_map]
      simp only [List.map_cons, List.headD_cons]
      rw [seen_id hr, seen_id (by omega)]
      omega
    · conv => lhs; unfold evalF
      rw [if_neg (by omega), if_neg (by omega), if_pos rfl, evalL_map]
      simp only [List.map_cons, List.headD_cons]
theorem eval_var (w : List Int) (v x : Int) (gs : List Fm) : evalF w (.mk 1 v x gs) = valB w x := by
  unfold evalF
  rw [if_neg (by omega), if_pos rfl]
mutual
/-- simplified by v, looked at with w: the value with both -/
theorem eval_simp {v w m : List Int} (hv : goodB v) (hw : goodB w) (hm : mrgV v w m) : ∀ f, isB f = true → evalF w (simpF v f) = evalF m f
  | .mk op vl x gs, h => by
    obtain ⟨hl, k⟩ := isB_cases h
    have ih := evalL_simp hv hw hm gs hl
    have ihn := simpL_nf hv gs hl
    unfold simpF
    rcases k with k | k | k | k
    · rw [if_pos k.1, eval_cst]
      unfold evalF
      rw [if_pos k.1]
    · rw [if_neg (by omega), if_pos k.1]
      rw [k.1, eval_var, hm x k.2.2.1]
      split
      · exact eval_var _ _ _ _
      · exact eval_cst _ _
    · rw [if_neg (by omega), if_neg (by omega), if_neg (by omega), eval_join k.1 hw ihn, eval_mk k.1, ← evalL_map, ih, evalL_map]
    · rw [if_neg (by omega), if_neg (by omega), if_pos k.1]
      obtain ⟨a, rfl⟩ := k.2.2.2
      have hn := ihn (simpF v a) (by unfold simpL; simp)
      unfold simpL
      simp only [List.headD_cons]
      rw [eval_not hw hn]
      conv => rhs; unfold evalF
      rw [if_neg (by omega), if_neg (by omega), if_pos k.1]
      unfold evalL simpL at ih
      unfold evalL
      simp only [List.headD_cons]
      have := List.cons.inj ih
      rw [this.1]
theorem evalL_simp {v w m : List Int} (hv : goodB v) (hw : goodB w) (hm : mrgV v w m) : ∀ l, isL l = true → evalL w (simpL v l) = evalL m l
  | [], _ => by unfold simpL evalL; rfl
  | f :: r, h => by
    unfold isL at h
    rw [Bool.and_eq_true] at h
    unfold simpL evalL
    rw [eval_simp hv hw hm f h.1, evalL_simp hv hw hm r h.2]
end
end Gim
