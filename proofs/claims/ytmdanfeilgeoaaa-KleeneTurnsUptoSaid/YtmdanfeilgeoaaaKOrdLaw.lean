/- The order of formulas, rising lists, the document's put. Plain laws. -/
import Derived.Test.YtmdanfeilgeoaaaKTree2
import Derived.Sort.Statements
namespace Gim
open Go Go.RowKit Go.Sort
mutual
/-- how kleene.order compares two formulas -/
def ordF : Fm → Fm → Int
  | .mk o1 v1 x1 g1, .mk o2 v2 x2 g2 => if or3 (cmpZ o1 o2) (cmpZ v1 v2) (cmpZ x1 x2) = 0 then ordL g1 g2 else or3 (cmpZ o1 o2) (cmpZ v1 v2) (cmpZ x1 x2)
def ordL : List Fm → List Fm → Int
  | [], [] => 0
  | [], _ :: _ => -1
  | _ :: _, [] => 1
  | f :: r, g :: s => if ordF f g = 0 then ordL r s else ordF f g
end
theorem tri_cases (o1 v1 x1 o2 v2 x2 : Int) :
    (or3 (cmpZ o1 o2) (cmpZ v1 v2) (cmpZ x1 x2) = 0 ∧ o1 = o2 ∧ v1 = v2 ∧ x1 = x2) ∨
    (or3 (cmpZ o1 o2) (cmpZ v1 v2) (cmpZ x1 x2) = -1 ∧ (o1 < o2 ∨ o1 = o2 ∧ (v1 < v2 ∨ v1 = v2 ∧ x1 < x2))) ∨
    (or3 (cmpZ o1 o2) (cmpZ v1 v2) (cmpZ x1 x2) = 1 ∧ (o2 < o1 ∨ o1 = o2 ∧ (v2 < v1 ∨ v1 = v2 ∧ x2 < x1))) := by
  unfold or3 cmpZ
  by_cases h1 : o1 < o2 <;> by_cases h2 : o2 < o1 <;> by_cases h3 : v1 < v2 <;> by_cases h4 : v2 < v1 <;> by_cases h5 : x1 < x2 <;> by_cases h6 : x2 < x1 <;> simp [h1, h2, h3, h4, h5, h6] <;> omega
mutual
theorem ordF_self : ∀ f : Fm, ordF f f = 0
  | .mk o v x g => by
    unfold ordF
    rcases tri_cases o v x o v x with h | h | h
    · rw [if_pos h.1]; exact ordL_self g
    · omega
    · omega
theorem ordL_self : ∀ g : List Fm, ordL g g = 0
  | [] => by unfold ordL; rfl
  | f :: r => by unfold ordL; rw [if_pos (ordF_self f)]; exact ordL_self r
end
mutual
theorem ordF_eq : ∀ f g : Fm, ordF f g = 0 → f = g
  | .mk o1 v1 x1 g1, .mk o2 v2 x2 g2, h => by
    unfold ordF at h
    rcases tri_cases o1 v1 x1 o2 v2 x2 with k | k | k
    · rw [if_pos k.1] at h
      rw [ordL_eq g1 g2 h, k.2.1, k.2.2.1, k.2.2.2]
    · rw [if_neg (by omega)] at h; omega
    · rw [if_neg (by omega)] at h; omega
theorem ordL_eq : ∀ f g : List Fm, ordL f g = 0 → f = g
  | [], [], _ => rfl
  | [], _ :: _, h => by unfold ordL at h; omega
  | _ :: _, [], h => by unfold ordL at h; omega
  | f :: r, g :: s, h => by
    unfold ordL at h
    by_cases k : ordF f g = 0
    · rw [if_pos k] at h
      rw [ordF_eq f g k, ordL_eq r s h]
    · rw [if_neg k] at h; exact absurd h k
end
mutual
theorem ordF_neg : ∀ f g : Fm, ordF g f = - ordF f g
  | .mk o1 v1 x1 g1, .mk o2 v2 x2 g2 => by
    unfold ordF
    have hl := ordL_neg g1 g2
    rcases tri_cases o1 v1 x1 o2 v2 x2 with k | k | k <;> rcases tri_cases o2 v2 x2 o1 v1 x1 with m | m | m
    · rw [if_pos k.1, if_pos m.1]; exact hl
    all_goals first | omega | (rw [if_neg (by omega), if_neg (by omega)]; omega)
theorem ordL_neg : ∀ f g : List Fm, ordL g f = - ordL f g
  | [], [] => by unfold ordL; rfl
  | [], _ :: _ => by unfold ordL; rfl
  | _ :: _, [] => by unfold ordL; rfl
  | f :: r, g :: s => by
    unfold ordL
    have h1 := ordF_neg f g
    have h2 := ordL_neg r s
    by_cases k : ordF f g = 0
    · rw [if_pos k, if_pos (by omega)]; exact h2
    · rw [if_neg k, if_neg (by omega)]; exact h1
end
mutual
theorem ordF_tr : ∀ f g h : Fm, ordF f g < 0 → ordF g h < 0 → ordF f h < 0
  | .mk o1 v1 x1 g1, .mk o2 v2 x2 g2, .mk o3 v3 x3 g3, h1, h2 => by
    unfold ordF at h1 h2 ⊢
    have hl := ordL_tr g1 g2 g3
    rcases tri_cases o1 v1 x1 o2 v2 x2 with k | k | k <;> rcases tri_cases o2 v2 x2 o3 v3 x3 with m | m | m <;> rcases tri_cases o1 v1 x1 o3 v3 x3 with n | n | n
    · rw [if_pos k.1] at h1
      rw [if_pos m.1] at h2
      rw [if_pos n.1]
      exact hl h1 h2
    all_goals first | omega | (rw [if_neg (by omega)] at h1; omega) | (rw [if_neg (by omega)] at h2; omega) | (rw [if_neg (by omega)]; omega)
theorem ordL_tr : ∀ f g h : List Fm, ordL f g < 0 → ordL g h < 0 → ordL f h < 0
  | [], [], _, h1, _ => by unfold ordL at h1; omega
  | [], _ :: _, [], _, h2 => by unfold ordL at h2; omega
  | [], _ :: _, _ :: _, _, _ => by unfold ordL; omega
  | _ :: _, [], _, h1, _ => by unfold ordL at h1; omega
  | _ :: _, _ :: _, [], _, h2 => by unfold ordL at h2; omega
  | f :: r, g :: s, h :: t, h1, h2 => by
    unfold ordL at h1 h2 ⊢
    have ht := ordF_tr f g h
    have hl := ordL_tr r s t
    by_cases k : ordF f g = 0
    · rw [if_pos k] at h1
      have e := ordF_eq f g k
      subst e
      by_cases m : ordF f h = 0
      · rw [if_pos m] at h2 ⊢
        exact hl h1 h2
      · rw [if_neg m] at h2 ⊢
        exact h2
    · rw [if_neg k] at h1
      by_cases m : ordF g h = 0
      · have e := ordF_eq g h m
        subst e
        rw [if_neg k]
        exact h1
      · rw [if_neg m] at h2
        have := ht h1 h2
        rw [if_neg (by omega)]
        exact this
end
theorem ordF_rng (f g : Fm) : -1 ≤ ordF f g ∧ ordF f g ≤ 1 := (rng f g)
where
  rng : ∀ f g : Fm, -1 ≤ ordF f g ∧ ordF f g ≤ 1
  | .mk o1 v1 x1 g1, .mk o2 v2 x2 g2 => by
    unfold ordF
    have hl := rngL g1 g2
    rcases tri_cases o1 v1 x1 o2 v2 x2 with k | k | k
    · rw [if_pos k.1]; exact hl
    · rw [if_neg (by omega)]; omega
    · rw [if_neg (by omega)]; omega
  rngL : ∀ f g : List Fm, -1 ≤ ordL f g ∧ ordL f g ≤ 1
  | [], [] => by unfold ordL; omega
  | [], _ :: _ => by unfold ordL; omega
  | _ :: _, [] => by unfold ordL; omega
  | f :: r, g :: s => by
    unfold ordL
    have h1 := rng f g
    have h2 := rngL r s
    split
    · exact h2
    · exact h1
theorem ordF_swo : SWO (fun x y => decide (ordF x y < 0)) where
  irrefl x := by simp [ordF_self]
  trans x y z h1 h2 := by
    skip
    simp only [decide_eq_true_eq] at *
    exact ordF_tr x y z h1 h2
  ntrans x y z h1 h2 := by
    skip
    simp only [decide_eq_false_iff_not, Int.not_lt] at *
    have n1 := ordF_neg x y
    have n2 := ordF_neg y z
    have n3 := ordF_neg x z
    by_cases k : ordF x y = 0
    · have e := ordF_eq x y k
      subst e
      exact h2
    · by_cases m : ordF y z = 0
      · have e := ordF_eq y z m
        subst e
        exact h1
      · have := ordF_tr z y x (by omega) (by omega)
        omega
/-- rising, none twice -/
def Up (l : List Fm) : Prop := l.Pairwise fun f g => ordF f g < 0
theorem up_unique : ∀ (a b : List Fm), Up a → Up b → (∀ k, k ∈ a ↔ k ∈ b) → a = b
  | [], [], _, _, _ => rfl
  | [], y :: ys, _, _, h => absurd ((h y).2 (by simp)) (by simp)
  | x :: xs, [], _, _, h => absurd ((h x).1 (by simp)) (by simp)
  | x :: xs, y :: ys, ha, hb, h => by
    have ha' := List.pairwise_cons.1 ha
    have hb' := List.pairwise_cons.1 hb
    have e : x = y := by
      have h1 := (h x).1 (by simp)
      have h2 := (h y).2 (by simp)
      rcases List.mem_cons.1 h1 with e | h1
      · exact e
      · rcases List.mem_cons.1 h2 with e | h2
        · exact e.symm
        · have p1 := ha'.1 y h2
          have p2 := hb'.1 x h1
          have := ordF_neg x y
          omega
    subst e
    rw [up_unique xs ys ha'.2 hb'.2 fun k => ⟨fun hk => ?_, fun hk => ?_⟩]
    · rcases List.mem_cons.1 ((h k).1 (List.mem_cons_of_mem _ hk)) with e | h2
      · have := ha'.1 k hk
        rw [e, ordF_self] at this
        omega
      · exact h2
    · rcases List.mem_cons.1 ((h k).2 (List.mem_cons_of_mem _ hk)) with e | h2
      · have := hb'.1 k hk
        rw [e, ordF_self] at this
        omega
      · exact h2
/-- the document's put: into a rising list, where it is not there -/
def putF (f : Fm) : List Fm → List Fm
  | [] => [f]
  | g :: r => if ordF f g = 0 then g :: r else if ordF f g < 0 then f :: g :: r else g :: putF f r
theorem put_mem (f : Fm) : ∀ (l : List Fm) (k : Fm), k ∈ putF f l ↔ k = f ∨ k ∈ l
  | [], k => by simp [putF]
  | g :: r, k => by
    unfold putF
    split
    · rename_i h
      have e := ordF_eq f g h
      subst e
      simp
    · split
      · simp
      · simp only [List.mem_cons, put_mem f r k]
        constructor
        · rintro (h | h | h) <;> simp [h]
        · rintro (h | h | h) <;> simp [h]
theorem put_up (f : Fm) : ∀ (l : List Fm), Up l → Up (putF f l)
  | [], _ => by simp [putF, Up]
  | g :: r, h => by
    have h' := List.pairwise_cons.1 h
    unfold putF
    split
    · exact h
    · split
      · rename_i k
        refine List.pairwise_cons.2 ⟨fun x hx => ?_, h⟩
        rcases List.mem_cons.1 hx with e | hx
        · rw [e]; exact k
        · exact ordF_tr _ _ _ k (h'.1 x hx)
      · rename_i k1 k2
        refine List.pairwise_cons.2 ⟨fun x hx => ?_, put_up f r h'.2⟩
        rcases (put_mem f r x).1 hx with e | hx
        · rw [e]
          have := ordF_neg f g
          omega
        · exact h'.1 x hx
def putAll (l : List Fm) : List Fm := l.foldl (fun a f => putF f a) []
theorem foldl_put_mem : ∀ (l a : List Fm) (k : Fm), k ∈ l.foldl (fun a f => putF f a) a ↔ k ∈ l ∨ k ∈ a
  | [], a, k => by simp
  | f :: r, a, k => by
    rw [List.foldl_cons, foldl_put_mem r, put_mem, List.mem_cons]
    constructor
    · rintro (h | h | h) <;> simp [h]
    · rintro ((h | h) | h) <;> simp [h]
theorem foldl_put_up : ∀ (l a : List Fm), Up a → Up (l.foldl (fun a f => putF f a) a)
  | [], _, h => h
  | f :: r, a, h => by rw [List.foldl_cons]; exact foldl_put_up r _ (put_up f a h)
theorem putAll_mem (l : List Fm) (k : Fm) : k ∈ putAll l ↔ k ∈ l := by unfold putAll; rw [foldl_put_mem]; simp
theorem putAll_up (l : List Fm) : Up (putAll l) := foldl_put_up l [] (by simp [Up])
theorem putAll_of (l m : List Fm) (hu : Up m) (h : ∀ k, k ∈ m ↔ k ∈ l) : putAll l = m := up_unique _ _ (putAll_up l) hu fun k => (putAll_mem l k).trans (h k).symm
theorem putAll_congr {l m : List Fm} (h : ∀ k, k ∈ l ↔ k ∈ m) : putAll l = putAll m := up_unique _ _ (putAll_up l) (putAll_up m) fun k => (putAll_mem l k).trans ((h k).trans (putAll_mem m k).symm)
theorem put_sz (f : Fm) : ∀ l, szL (putF f l) ≤ szF f + szL l
  | [] => by simp [putF, szL]
  | g :: r => by
    unfold putF
    have := put_sz f r
    split
    · omega
    · split <;> simp only [szL] <;> omega
theorem foldl_put_sz : ∀ (l a : List Fm), szL (l.foldl (fun a f => putF f a) a) ≤ szL l + szL a
  | [], a => by simp [szL]
  | f :: r, a => by
    rw [List.foldl_cons]
    have h1 := foldl_put_sz r (putF f a)
    have h2 := put_sz f a
    simp only [szL]
    omega
theorem putAll_sz (l : List Fm) : szL (putAll l) ≤ szL l := by
  have := foldl_put_sz l []
  simp only [szL] at this
  unfold putAll
  omega
end Gim
