/- Simplifying: order, grouping, the double not, De Morgan. Plain laws. -/
import Derived.Test.YtmdanfeilgeoaaaKMoreLaw
namespace Gim
open Go Go.RowKit Go.Sort
theorem flF_app (op : Int) (a b : List Fm) : flF op (a ++ b) = flF op a ++ flF op b := by
  unfold flF flR
  rw [List.flatMap_append, List.filter_append]
/-- an And (Or) is told by what its parts are -/
theorem join_congr {op : Int} (hop : op = 2 ∨ op = 3) {l m : List Fm} (hl : ∀ f ∈ l, nfF f) (hm : ∀ f ∈ m, nfF f) (h : ∀ p, p ∈ flF op l ↔ p ∈ flF op m) : joinF op l = joinF op m := by
  rw [join_of hop hl (putAll_up (flF op l)) (putAll_mem (flF op l)), join_of hop hm (putAll_up (flF op l)) (fun k => (putAll_mem (flF op l) k).trans (h k))]
theorem join_out {op : Int} (hop : op = 2 ∨ op = 3) {l : List Fm} (hl : ∀ f ∈ l, nfF f) (h : cst (outV op) ∈ flF op l) : joinF op l = cst (outV op) := by
  rw [join_of hop hl (putAll_up (flF op l)) (putAll_mem (flF op l)), if_pos]
  exact List.any_eq_true.2 ⟨_, (putAll_mem _ _).2 h, by rw [ordF_self]; rfl⟩
theorem flF_cst_out (op : Int) : cst (outV op) ∈ flF op [cst (outV op)] ∨ op = 0 := by
  by_cases k : op = 0
  · exact .inr k
  · left
    refine flF_mem.2 ⟨flR_mem.2 ⟨_, by simp, .inr ⟨fun e => k (by rw [← e]; rfl), rfl⟩⟩, ?_⟩
    rcases outV_cases op with q | q <;> simp [isC, cst, opF, vlF, q]
/-- an And within an And: its parts, but where it is decided -/
theorem join_parts {op : Int} (hop : op = 2 ∨ op = 3) {l : List Fm} (hl : ∀ f ∈ l, nfF f) : (cst (outV op) ∈ flF op l ∧ joinF op l = cst (outV op)) ∨ ∀ p, p ∈ flF op [joinF op l] ↔ p ∈ flF op l := by
  by_cases k : cst (outV op) ∈ flF op l
  · exact .inl ⟨k, join_out hop hl k⟩
  · right
    have hn : ¬ ((putAll (flF op l)).any fun p => decide (ordF p (cst (outV op)) = 0)) = true := fun hh => by
      obtain ⟨p, hp, hc⟩ := List.any_eq_true.1 hh
      have := ordF_eq _ _ (of_decide_eq_true hc)
      rw [this] at hp
      exact k ((putAll_mem _ _).1 hp)
    have hj : joinF op l = packF op (putAll (flF op l)) := by
      rw [join_of hop hl (putAll_up (flF op l)) (putAll_mem (flF op l)), if_neg hn]
    have hm := putAll_mem (flF op l)
    intro p
    rw [hj, ← hm p]
    rcases hP : putAll (flF op l) with _ | ⟨f, _ | ⟨g, r⟩⟩
    · simp only [packF, List.not_mem_nil, iff_false]
      intro hh
      obtain ⟨h1, h2⟩ := flF_mem.1 hh
      obtain ⟨a, ha, q | q⟩ := flR_mem.1 h1
      · rw [List.mem_singleton] at ha
        rw [ha] at q
        have := q.1
        simp only [cst, opF] at this
        omega
      · rw [List.mem_singleton] at ha
        rw [q.2, ha] at h2
        simp [isC, cst, opF, vlF] at h2
    · simp only [packF]
      have hf : f ∈ flF op l := (hm f).1 (by rw [hP]; simp)
      have hf2 := flF_mem.1 hf
      have hf3 := flR_nf hop hl hf2.1
      constructor
      · intro hh
        obtain ⟨h1, h2⟩ := flF_mem.1 hh
        obtain ⟨a, ha, q | q⟩ := flR_mem.1 h1
        · rw [List.mem_singleton] at ha
          rw [ha] at q
          exact absurd q.1 hf3.2
        · rw [q.2]; exact ha
      · intro hh
        rw [List.mem_singleton] at hh
        rw [hh]
        exact flF_mem.2 ⟨flR_mem.2 ⟨f, by simp, .inr ⟨hf3.2, rfl⟩⟩, hf2.2⟩
    · simp only [packF]
      constructor
      · intro hh
        obtain ⟨h1, h2⟩ := flF_mem.1 hh
        obtain ⟨a, ha, q | q⟩ := flR_mem.1 h1
        · rw [List.mem_singleton] at ha
          rw [ha] at q
          exact q.2
        · rw [List.mem_singleton] at ha
          rw [ha] at q
          exact absurd rfl q.1
      · intro hh
        have hp : p ∈ flF op l := (hm p).1 (by rw [hP]; exact hh)
        exact flF_mem.2 ⟨flR_mem.2 ⟨.mk op 0 0 (f :: g :: r), by simp, .inl ⟨rfl, hh⟩⟩, (flF_mem.1 hp).2⟩
theorem flF_cons_mem {op : Int} {a p : Fm} {l : List Fm} : p ∈ flF op (a :: l) ↔ p ∈ flF op [a] ∨ p ∈ flF op l := by
  have : a :: l = [a] ++ l := rfl
  rw [this, flF_app, List.mem_append]
theorem flF_two {op : Int} {a b p : Fm} : p ∈ flF op [a, b] ↔ p ∈ flF op [a] ∨ p ∈ flF op [b] := flF_cons_mem
theorem flF_three {op : Int} {a b c p : Fm} : p ∈ flF op [a, b, c] ↔ p ∈ flF op [a] ∨ p ∈ flF op [b] ∨ p ∈ flF op [c] := by
  have h : p ∈ flF op [a, b, c] ↔ p ∈ flF op [a] ∨ p ∈ flF op [b, c] := flF_cons_mem
  rw [h, flF_two]
/-- grouping and order do not matter -/
theorem join_grouped {op : Int} (hop : op = 2 ∨ op = 3) {x y z : Fm} (hx : nfF x) (hy : nfF y) (hz : nfF z) : joinF op [joinF op [z, x], y, x] = joinF op [x, y, z] := by
  have hzx : ∀ f ∈ [z, x], nfF f := fun f hf => by
    simp only [List.mem_cons, List.not_mem_nil, or_false] at hf
    rcases hf with rfl | rfl <;> assumption
  have hj := join_nf hop hzx
  have h3 : ∀ f ∈ [x, y, z], nfF f := fun f hf => by
    simp only [List.mem_cons, List.not_mem_nil, or_false] at hf
    rcases hf with rfl | rfl | rfl <;> assumption
  have h4 : ∀ f ∈ [joinF op [z, x], y, x], nfF f := fun f hf => by
    simp only [List.mem_cons, List.not_mem_nil, or_false] at hf
    rcases hf with rfl | rfl | rfl <;> assumption
  rcases join_parts hop hzx with ⟨k, e⟩ | k
  · have h5 : cst (outV op) ∈ flF op [x, y, z] := by
      rw [flF_two] at k
      rw [flF_three]
      rcases k with k | k
      · exact .inr (.inr k)
      · exact .inl k
    have h6 : cst (outV op) ∈ flF op [joinF op [z, x], y, x] := by
      rw [flF_three, e]
      rcases flF_cst_out op with q | q
      · exact .inl q
      · omega
    rw [join_out hop h3 h5, join_out hop h4 h6]
  · refine join_congr hop h4 h3 fun p => ?_
    rw [flF_three, k, flF_two, flF_three]
    constructor
    · rintro ((h | h) | h | h)
      · exact .inr (.inr h)
      · exact .inl h
      · exact .inr (.inl h)
      · exact .inl h
    · rintro (h | h | h)
      · exact .inl (.inr h)
      · exact .inr (.inl h)
      · exact .inl (.inl h)
/-- the double not -/
theorem not_not {a : Fm} (h : nfF a) : notF (notF a) = a := by
  obtain ⟨op, v, x, gs⟩ := a
  obtain ⟨k, hg⟩ := nf_ar h
  rcases k with k | k | k | k
  · obtain ⟨k1, k2, k3, k4, k5⟩ := k
    subst k1 k4 k5
    simp only [notF, if_pos, cst]
    rw [seen_id ⟨k2, k3⟩, seen_id (by omega)]
    congr 1
    omega
  · simp only [notF]
    rw [if_neg (by omega), if_neg (by omega)]
    simp
  · simp only [notF]
    rw [if_neg (by omega), if_neg (by omega)]
    simp
  · obtain ⟨k1, k2, k3, k4, k5⟩ := k
    obtain ⟨b, rfl⟩ := List.length_eq_one_iff.1 k4
    have h5 := k5 b (by simp)
    simp only [notF]
    rw [if_neg (by omega), if_pos k1]
    obtain ⟨o, v2, x2, g2⟩ := b
    simp only [opF] at h5
    simp only [List.headD_cons]
    rw [if_neg h5.1, if_neg h5.2, k1, k2, k3]
/-- De Morgan -/
theorem de_morgan (l : List Int) : 2 - seenB (andF l) = orF (l.map fun t => 2 - seenB t) := by
  have h1 := and_rng l
  rw [seen_id h1]
  refine eq_of_le (fun c hc => ?_) (by omega) (or_rng _).1
  rw [or_le_iff _ c hc]
  have h2 := and_ge_iff l (2 - c) (by omega)
  constructor
  · intro h t ht
    obtain ⟨u, hu, rfl⟩ := List.mem_map.1 ht
    have := h2.1 (by omega) u hu
    have := seenB_range u
    rw [seen_id (by omega)]
    omega
  · intro h
    have := h2.2 fun t ht => by
      have h3 := h _ (List.mem_map.2 ⟨t, ht, rfl⟩)
      have := seenB_range t
      rw [seen_id (by omega)] at h3
      omega
    omega
end Gim
