/- What a Hunt knows of the characters that came: plain. -/
import Derived.Test.YtgajinnbmnnccaaKmp
namespace Gim
theorem gt_snoc {l : List Int} {r : Int} {j : Nat} (h : j < l.length) : gt (l ++ [r]) j = gt l j := by
  unfold gt
  rw [List.getElem?_append_left h]
theorem gt_last (l : List Int) (r : Int) : gt (l ++ [r]) l.length = r := by
  unfold gt
  rw [List.getElem?_append_right (Nat.le_refl _), Nat.sub_self]
  rfl
theorem isM_snoc {l t : List Int} {r : Int} {n k : Nat} (h : n ≤ l.length) : isM (l ++ [r]) t n k ↔ isM l t n k := by
  constructor
  · rintro ⟨a, b, c⟩
    exact ⟨a, b, fun j hj => by rw [c j hj, gt_snoc (by omega)]⟩
  · rintro ⟨a, b, c⟩
    exact ⟨a, b, fun j hj => by rw [c j hj, gt_snoc (by omega)]⟩
/-- the most of t that stands at the end of l -/
def Mx (l t : List Int) (k : Nat) : Prop := isM l t l.length k ∧ ∀ m, isM l t l.length m → m ≤ k
theorem Mx.eq {l t : List Int} {k q : Nat} (h : Mx l t k) (g : Mx l t q) : k = q := Nat.le_antisymm (g.2 k h.1) (h.2 q g.1)
theorem mx_nil (t : List Int) : Mx [] t 0 := ⟨isM_zero _ _ _, fun _ h => h.1⟩
/-- a candidate for the next character -/
def CandM (l t : List Int) (q : Nat) (r : Int) : Prop := isM l t l.length q ∧ q < t.length ∧ ∀ m, isM l t l.length m → m < t.length → gt t m = r → m ≤ q
theorem candM_less {l t : List Int} {k : Nat} (r : Int) (h : Mx l t k) (hk : k < t.length) : CandM l t k r := ⟨h.1, hk, fun m hm _ _ => h.2 m hm⟩
theorem candM_full {l t : List Int} (r : Int) (h : Mx l t t.length) (ht : 0 < t.length) : CandM l t (br t t.length) r :=
  ⟨isM_border h.1 (br_is t _), br_lt ht, fun m hm hl _ => br_max hl (isM_sub h.1 hm (by omega))⟩
theorem candM_down {l t : List Int} {k : Nat} {r : Int} (h : CandM l t k r) (hk : 0 < k) (hne : gt t k ≠ r) : CandM l t (br t k) r := by
  obtain ⟨h1, h2, h3⟩ := h
  have hl := br_lt (t := t) hk
  refine ⟨isM_border h1 (br_is t k), by omega, fun m hm hlt he => ?_⟩
  have hmk := h3 m hm hlt he
  by_cases hmk2 : m = k
  · subst hmk2; exact absurd he hne
  · exact br_max (by omega) (isM_sub h1 hm hmk)
theorem candM_hit {l t : List Int} {k : Nat} {r : Int} (h : CandM l t k r) (he : gt t k = r) : Mx (l ++ [r]) t (k + 1) := by
  obtain ⟨h1, h2, h3⟩ := h
  unfold Mx
  rw [List.length_append, List.length_singleton]
  refine ⟨isM_succ.2 ⟨(isM_snoc (Nat.le_refl _)).2 h1, h2, by rw [gt_last]; exact he⟩, fun m hm => ?_⟩
  cases m with
  | zero => omega
  | succ m =>
    obtain ⟨a, b, c⟩ := isM_succ.1 hm
    rw [gt_last] at c
    have := h3 m ((isM_snoc (Nat.le_refl _)).1 a) b c
    omega
theorem candM_miss {l t : List Int} {r : Int} (h : CandM l t 0 r) (hne : gt t 0 ≠ r) : Mx (l ++ [r]) t 0 := by
  obtain ⟨h1, h2, h3⟩ := h
  unfold Mx
  rw [List.length_append, List.length_singleton]
  refine ⟨isM_zero _ _ _, fun m hm => ?_⟩
  cases m with
  | zero => omega
  | succ m =>
    obtain ⟨a, b, c⟩ := isM_succ.1 hm
    rw [gt_last] at c
    have := h3 m ((isM_snoc (Nat.le_refl _)).1 a) b c
    obtain rfl : m = 0 := by omega
    exact absurd c hne
/-- does t stand in l? -/
def fndB (l t : List Int) : Bool := (List.range (l.length + 1)).any fun p => standsB l t p
theorem fndB_iff {l t : List Int} : fndB l t = true ↔ ∃ p, standsB l t p = true := by
  unfold fndB
  rw [List.any_eq_true]
  constructor
  · rintro ⟨p, _, h⟩; exact ⟨p, h⟩
  · rintro ⟨p, h⟩; exact ⟨p, List.mem_range.2 (by have := (standsB_iff.1 h).1; omega), h⟩
theorem fndB_snoc {l t : List Int} {r : Int} {k : Nat} (h : Mx (l ++ [r]) t k) : fndB (l ++ [r]) t = (fndB l t || decide (k = t.length)) := by
  rw [Bool.eq_iff_iff, Bool.or_eq_true, decide_eq_true_eq, fndB_iff, fndB_iff]
  have hl : (l ++ [r]).length = l.length + 1 := by simp
  constructor
  · rintro ⟨p, hp⟩
    obtain ⟨a, b⟩ := standsB_iff.1 hp
    by_cases hlt : p + t.length ≤ l.length
    · exact .inl ⟨p, standsB_iff.2 ⟨hlt, fun j hj => by rw [← b j hj, gt_snoc (by omega)]⟩⟩
    · have hm : isM (l ++ [r]) t (l ++ [r]).length t.length := (isM_stands (Nat.le_refl _)).2 ⟨by omega, by rw [show (l ++ [r]).length - t.length = p by omega]; exact hp⟩
      have h1 := h.2 _ hm
      have h2 := h.1.2.1
      exact .inr (by omega)
  · rintro (⟨p, hp⟩ | hk)
    · obtain ⟨a, b⟩ := standsB_iff.1 hp
      exact ⟨p, standsB_iff.2 ⟨by omega, fun j hj => by rw [gt_snoc (by omega)]; exact b j hj⟩⟩
    · subst hk
      exact ⟨_, ((isM_stands (Nat.le_refl _)).1 h.1).2⟩
/-- has what came gone off the text asked for? -/
def offB (l t : List Int) : Bool := (List.range (min l.length t.length)).any fun j => gt t j != gt l j
theorem offB_snoc (l t : List Int) (r : Int) : offB (l ++ [r]) t = (offB l t || (decide (l.length < t.length) && (gt t l.length != r))) := by
  rw [Bool.eq_iff_iff, Bool.or_eq_true, Bool.and_eq_true, decide_eq_true_eq]
  unfold offB
  simp only [List.any_eq_true, List.mem_range, bne_iff_ne, List.length_append, List.length_singleton]
  constructor
  · rintro ⟨j, hj, hne⟩
    by_cases hjl : j < l.length
    · exact .inl ⟨j, by omega, by rw [gt_snoc hjl] at hne; exact hne⟩
    · obtain rfl : j = l.length := by omega
      rw [gt_last] at hne
      exact .inr ⟨by omega, hne⟩
  · rintro (⟨j, hj, hne⟩ | ⟨hlt, hne⟩)
    · exact ⟨j, by omega, by rw [gt_snoc (by omega)]; exact hne⟩
    · exact ⟨l.length, by omega, by rw [gt_last]; exact hne⟩
/-- how many are counted -/
def cameN (l t : List Int) (num : Nat) : Nat := min l.length (max num t.length + 1)
theorem cameN_snoc (l t : List Int) (r : Int) (num : Nat) : cameN (l ++ [r]) t num = if cameN l t num ≤ max num t.length then cameN l t num + 1 else cameN l t num := by
  unfold cameN
  rw [List.length_append, List.length_singleton]
  split <;> omega
theorem mx_none {l : List Int} : Mx l [] 0 := ⟨isM_zero _ _ _, fun _ h => h.2.1⟩
theorem fndB_none (l : List Int) : fndB l [] = true := fndB_iff.2 ⟨0, standsB_iff.2 ⟨by simp, fun j hj => by simp at hj⟩⟩
/-- what found says: only where a text is asked for -/
def fdB (c : Int) (l t : List Int) : Bool := decide (1 ≤ c ∧ c ≤ 5) && fndB l t
theorem off_of (l t : List Int) (r : Int) (num : Nat) : offB (l ++ [r]) t = (offB l t || (decide (cameN l t num < t.length) && (gt t (cameN l t num) != r))) := by
  rw [offB_snoc]
  by_cases h : l.length < t.length
  · have e : cameN l t num = l.length := by unfold cameN; omega
    rw [e]
  · have e : ¬ cameN l t num < t.length := by unfold cameN; omega
    simp [h, e]
theorem cameN_nil (t : List Int) (num : Nat) : cameN [] t num = 0 := by simp [cameN]
theorem offB_nil (t : List Int) : offB [] t = false := by simp [offB]
theorem fndB_nil (t : List Int) : fndB [] t = decide (t.length = 0) := by
  rw [Bool.eq_iff_iff, fndB_iff, decide_eq_true_eq]
  constructor
  · rintro ⟨p, hp⟩
    have := (standsB_iff.1 hp).1
    simp at this
    have := this.2
    simp [this]
  · intro h
    exact ⟨0, standsB_iff.2 ⟨by simp [h], fun j hj => by omega⟩⟩
end Gim
