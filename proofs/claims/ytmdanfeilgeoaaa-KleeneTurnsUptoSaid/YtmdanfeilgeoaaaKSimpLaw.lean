/- What simplifying and evaluating a formula answer; least and greatest of three values. Plain laws. -/
import Derived.Test.YtmdanfeilgeoaaaKOrdLaw
import Derived.Test.YtmdanfeilgeoaaaKVals
namespace Gim
open Go Go.RowKit Go.Sort
def opF : Fm → Int | .mk op _ _ _ => op
def vlF : Fm → Int | .mk _ v _ _ => v
def arF : Fm → List Fm | .mk _ _ _ gs => gs
/-- the constant of a value -/
def cst (t : Int) : Fm := .mk 0 t 0 []
/-- a constant of that value -/
def isC (t : Int) (f : Fm) : Bool := decide (opF f = 0) && decide (vlF f = t)
/-- what decides an And (an Or), and what adds nothing to it -/
def outV (op : Int) : Int := if op = 2 then 0 else 2
def keptV (op : Int) : Int := if op = 2 then 2 else 0
/-- the parts, those of the same kind taken apart -/
def flR (op : Int) (l : List Fm) : List Fm := l.flatMap fun a => if opF a = op then arF a else [a]
def flF (op : Int) (l : List Fm) : List Fm := (flR op l).filter fun p => !isC (keptV op) p
def packF (op : Int) (l : List Fm) : Fm := match l with
  | [] => cst (keptV op)
  | [f] => f
  | l => .mk op 0 0 l
def joinF (op : Int) (l : List Fm) : Fm := if (flR op l).any (isC (outV op)) then cst (outV op) else packF op (putAll (flF op l))
def notF : Fm → Fm
  | .mk op v x gs => if op = 0 then cst (2 - seenB v) else if op = 4 then gs.headD (cst 0) else .mk 4 0 0 [.mk op v x gs]
def valB (vs : List Int) (x : Int) : Int := if x < vs.length then gt vs x.toNat else 1
mutual
def simpF (vs : List Int) : Fm → Fm
  | .mk op v x gs => if op = 0 then cst v else if op = 1 then (if valB vs x = 1 then .mk 1 0 x [] else cst (valB vs x)) else if op = 4 then notF ((simpL vs gs).headD (cst 0)) else joinF op (simpL vs gs)
def simpL (vs : List Int) : List Fm → List Fm
  | [] => []
  | f :: r => simpF vs f :: simpL vs r
end
mutual
def evalF (vs : List Int) : Fm → Int
  | .mk op v x gs => if op = 0 then v else if op = 1 then valB vs x else if op = 4 then 2 - seenB ((evalL vs gs).headD 0) else if op = 2 then andF (evalL vs gs) else orF (evalL vs gs)
def evalL (vs : List Int) : List Fm → List Int
  | [] => []
  | f :: r => evalF vs f :: evalL vs r
end
theorem simpL_map (vs : List Int) : ∀ l, simpL vs l = l.map (simpF vs)
  | [] => rfl
  | f :: r => by unfold simpL; rw [simpL_map vs r]; rfl
theorem evalL_map (vs : List Int) : ∀ l, evalL vs l = l.map (evalF vs)
  | [] => rfl
  | f :: r => by unfold evalL; rw [evalL_map vs r]; rfl
/-- all are values of the three -/
def goodB (vs : List Int) : Prop := ∀ t ∈ vs, 0 ≤ t ∧ t ≤ 2
theorem seen_id {t : Int} (h : 0 ≤ t ∧ t ≤ 2) : seenB t = t := by unfold seenB; rw [if_pos h]
theorem val_rng {vs : List Int} (h : goodB vs) (x : Int) (hx : 0 ≤ x) : 0 ≤ valB vs x ∧ valB vs x ≤ 2 := by
  unfold valB
  split
  · rename_i k
    have hk : x.toNat < vs.length := by omega
    rw [gt_lt hk]
    exact h _ (List.getElem_mem hk)
  · omega
theorem and_fold : ∀ (l : List Int) (a : Int), 0 ≤ a → a ≤ 2 → (0 ≤ l.foldl (fun a t => if seenB t < a then seenB t else a) a ∧ l.foldl (fun a t => if seenB t < a then seenB t else a) a ≤ a) ∧ (∀ t ∈ l, l.foldl (fun a t => if seenB t < a then seenB t else a) a ≤ seenB t) ∧ (l.foldl (fun a t => if seenB t < a then seenB t else a) a = a ∨ ∃ t ∈ l, l.foldl (fun a t => if seenB t < a then seenB t else a) a = seenB t)
  | [], a, h0, h2 => by simp; omega
  | t :: r, a, h0, h2 => by
    have hs := seenB_range t
    rw [List.foldl_cons]
    obtain ⟨b, hb⟩ : ∃ b, (if seenB t < a then seenB t else a) = b := ⟨_, rfl⟩
    rw [hb]
    have hbs : b ≤ a ∧ b ≤ seenB t ∧ (b = a ∨ b = seenB t) ∧ 0 ≤ b := by
      rw [← hb]; split <;> omega
    obtain ⟨h3, h4, h5⟩ := and_fold r b (by omega) (by omega)
    refine ⟨⟨h3.1, by omega⟩, fun u hu => ?_, ?_⟩
    · rcases List.mem_cons.1 hu with e | hu
      · rw [e]; omega
      · exact h4 u hu
    · rcases h5 with h5 | ⟨u, hu, h5⟩
      · rcases hbs.2.2.1 with e | e
        · exact .inl (h5.trans e)
        · exact .inr ⟨t, by simp, h5.trans e⟩
      · exact .inr ⟨u, by simp [hu], h5⟩
theorem or_fold : ∀ (l : List Int) (a : Int), 0 ≤ a → a ≤ 2 → (a ≤ l.foldl (fun a t => if a < seenB t then seenB t else a) a ∧ l.foldl (fun a t => if a < seenB t then seenB t else a) a ≤ 2) ∧ (∀ t ∈ l, seenB t ≤ l.foldl (fun a t => if a < seenB t then seenB t else a) a) ∧ (l.foldl (fun a t => if a < seenB t then seenB t else a) a = a ∨ ∃ t ∈ l, l.foldl (fun a t => if a < seenB t then seenB t else a) a = seenB t)
  | [], a, h0, h2 => by simp; omega
  | t :: r, a, h0, h2 => by
    have hs := seenB_range t
    rw [List.foldl_cons]
    obtain ⟨b, hb⟩ : ∃ b, (if a < seenB t then seenB t else a) = b := ⟨_, rfl⟩
    rw [hb]
    have hbs : a ≤ b ∧ seenB t ≤ b ∧ (b = a ∨ b = seenB t) ∧ b ≤ 2 := by
      rw [← hb]; split <;> omega
    obtain ⟨h3, h4, h5⟩ := or_fold r b (by omega) (by omega)
    refine ⟨⟨by omega, h3.2⟩, fun u hu => ?_, ?_⟩
    · rcases List.mem_cons.1 hu with e | hu
      · rw [e]; omega
      · exact h4 u hu
    · rcases h5 with h5 | ⟨u, hu, h5⟩
      · rcases hbs.2.2.1 with e | e
        · exact .inl (h5.trans e)
        · exact .inr ⟨t, by simp, h5.trans e⟩
      · exact .inr ⟨u, by simp [hu], h5⟩
theorem and_rng (l : List Int) : 0 ≤ andF l ∧ andF l ≤ 2 := by
  have := (and_fold l 2 (by omega) (by omega)).1
  exact ⟨this.1, this.2⟩
theorem or_rng (l : List Int) : 0 ≤ orF l ∧ orF l ≤ 2 := by
  have := (or_fold l 0 (by omega) (by omega)).1
  exact ⟨this.1, this.2⟩
theorem and_le {l : List Int} {t : Int} (h : t ∈ l) : andF l ≤ seenB t := (and_fold l 2 (by omega) (by omega)).2.1 t h
theorem or_ge {l : List Int} {t : Int} (h : t ∈ l) : seenB t ≤ orF l := (or_fold l 0 (by omega) (by omega)).2.1 t h
theorem and_is (l : List Int) : andF l = 2 ∨ ∃ t ∈ l, andF l = seenB t := (and_fold l 2 (by omega) (by omega)).2.2
theorem or_is (l : List Int) : orF l = 0 ∨ ∃ t ∈ l, orF l = seenB t := (or_fold l 0 (by omega) (by omega)).2.2
theorem and_ge_iff (l : List Int) (c : Int) (hc : c ≤ 2) : c ≤ andF l ↔ ∀ t ∈ l, c ≤ seenB t := by
  constructor
  · intro h t ht
    have := and_le ht
    omega
  · intro h
    rcases and_is l with e | ⟨t, ht, e⟩
    · omega
    · have := h t ht
      omega
theorem or_le_iff (l : List Int) (c : Int) (hc : 0 ≤ c) : orF l ≤ c ↔ ∀ t ∈ l, seenB t ≤ c := by
  constructor
  · intro h t ht
    have := or_ge ht
    omega
  · intro h
    rcases or_is l with e | ⟨t, ht, e⟩
    · omega
    · have := h t ht
      omega
theorem eq_of_ge {a b : Int} (h : ∀ c, c ≤ 2 → (c ≤ a ↔ c ≤ b)) (ha : a ≤ 2) (hb : b ≤ 2) : a = b := by
  have h1 := (h a ha).1 (Int.le_refl _)
  have h2 := (h b hb).2 (Int.le_refl _)
  omega
theorem eq_of_le {a b : Int} (h : ∀ c, 0 ≤ c → (a ≤ c ↔ b ≤ c)) (ha : 0 ≤ a) (hb : 0 ≤ b) : a = b := by
  have h1 := (h a ha).1 (Int.le_refl _)
  have h2 := (h b hb).2 (Int.le_refl _)
  omega
mutual
/-- the value of a formula is one of the three -/
theorem eval_rng {vs : List Int} (h : goodB vs) : ∀ f : Fm, isB f = true → 0 ≤ evalF vs f ∧ evalF vs f ≤ 2
  | .mk op v x gs, hf => by
    unfold isB at hf
    rw [Bool.and_eq_true] at hf
    unfold evalF
    split
    · rename_i h0
      have := hf.1
      unfold okB at this
      rw [if_pos h0] at this
      simp at this
      omega
    · split
      · rename_i h0 h1
        have := hf.1
        unfold okB at this
        rw [if_neg h0, if_pos h1] at this
        simp at this
        exact val_rng h x (by omega)
      · split
        · have := seenB_range ((evalL vs gs).headD 0)
          omega
        · split
          · exact and_rng _
          · exact or_rng _
end
end Gim
