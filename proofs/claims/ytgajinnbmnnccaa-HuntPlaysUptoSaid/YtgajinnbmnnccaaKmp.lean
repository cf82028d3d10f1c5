/- Plain laws on borders and on search: no program in sight. -/
import Derived.Test.YtgajinnbmnnccaaUtf
namespace Gim

/-- the first k of t are the last k of its first n -/
def isB (t : List Int) (n k : Nat) : Prop := k ≤ n ∧ ∀ j, j < k → gt t j = gt t (n - k + j)

theorem isB_zero (t : List Int) (n : Nat) : isB t n 0 := ⟨by omega, fun j h => by omega⟩
theorem isB_self (t : List Int) (n : Nat) : isB t n n := ⟨by omega, fun j h => by rw [Nat.sub_self, Nat.zero_add]⟩
theorem isB_trans {t : List Int} {n k m : Nat} (h1 : isB t n k) (h2 : isB t k m) : isB t n m := by
  refine ⟨by have := h1.1; have := h2.1; omega, fun j hj => ?_⟩
  have a := h2.2 j hj
  have b := h1.2 (k - m + j) (by have := h2.1; omega)
  rw [a, b]
  congr 1
  have := h1.1; have := h2.1; omega
theorem isB_sub {t : List Int} {n k m : Nat} (h1 : isB t n k) (h2 : isB t n m) (hmk : m ≤ k) : isB t k m := by
  refine ⟨hmk, fun j hj => ?_⟩
  have a := h2.2 j hj
  have b := h1.2 (k - m + j) (by omega)
  rw [a, b]
  congr 1
  have := h1.1; have := h2.1; omega
theorem isB_succ {t : List Int} {n k : Nat} : isB t (n + 1) (k + 1) ↔ isB t n k ∧ gt t k = gt t n := by
  constructor
  · intro h
    have h1 := h.1
    refine ⟨⟨by omega, fun j hj => ?_⟩, ?_⟩
    · have := h.2 j (by omega); rw [this]; congr 1; omega
    · have := h.2 k (by omega); rw [this]; congr 1; omega
  · rintro ⟨h, e⟩
    have h1 := h.1
    refine ⟨by omega, fun j hj => ?_⟩
    by_cases hjk : j < k
    · have := h.2 j hjk; rw [this]; congr 1; omega
    · obtain rfl : j = k := by omega
      rw [e]; congr 1; omega

def isBb (t : List Int) (n k : Nat) : Bool := decide (k ≤ n) && (List.range k).all fun j => gt t j == gt t (n - k + j)
theorem isBb_iff {t : List Int} {n k : Nat} : isBb t n k = true ↔ isB t n k := by simp [isBb, isB]

/-- the greatest border of the first n that is at most m -/
def lastB (t : List Int) (n : Nat) : Nat → Nat
  | 0 => 0
  | m + 1 => if isBb t n (m + 1) then m + 1 else lastB t n m
theorem lastB_le (t : List Int) (n : Nat) : ∀ m, lastB t n m ≤ m
  | 0 => Nat.le_refl _
  | m + 1 => by unfold lastB; split; exact Nat.le_refl _; have := lastB_le t n m; omega
theorem lastB_is (t : List Int) (n : Nat) : ∀ m, isB t n (lastB t n m)
  | 0 => isB_zero t n
  | m + 1 => by unfold lastB; split; exact isBb_iff.1 ‹_›; exact lastB_is t n m
theorem lastB_max (t : List Int) (n : Nat) : ∀ m k, k ≤ m → isB t n k → k ≤ lastB t n m
  | 0, k, h, _ => by omega
  | m + 1, k, h, hb => by
    unfold lastB
    split
    · exact h
    · rename_i hno
      by_cases hk : k = m + 1
      · subst hk; exact absurd (isBb_iff.2 hb) hno
      · exact lastB_max t n m k (by omega) hb
/-- the greatest border of the first n characters, shorter than they -/
def br (t : List Int) (n : Nat) : Nat := lastB t n (n - 1)
theorem br_lt {t : List Int} {n : Nat} (h : 0 < n) : br t n < n := by have := lastB_le t n (n - 1); unfold br; omega
theorem br_is (t : List Int) (n : Nat) : isB t n (br t n) := lastB_is t n _
theorem br_max {t : List Int} {n k : Nat} (h : k < n) (hb : isB t n k) : k ≤ br t n := lastB_max t n _ k (by omega) hb
theorem br_one (t : List Int) : br t 1 = 0 := rfl
theorem br_eq {t : List Int} {n k : Nat} (h : k < n) (hb : isB t n k) (hm : ∀ m, m < n → isB t n m → m ≤ k) : br t n = k :=
  Nat.le_antisymm (hm _ (br_lt (by omega)) (br_is t n)) (br_max h hb)

/-! ### one step of the borders' loop: k goes down its borders till the next character fits -/
/-- k is a border of the first n, and each border of them that the character number n lengthens is at most k -/
def Cand (t : List Int) (n k : Nat) (r : Int) : Prop := isB t n k ∧ k < n ∧ ∀ m, m < n → isB t n m → gt t m = r → m ≤ k
theorem cand_start {t : List Int} {n : Nat} (r : Int) (h : 0 < n) : Cand t n (br t n) r := ⟨br_is t n, br_lt h, fun _ hm hb _ => br_max hm hb⟩
theorem cand_down {t : List Int} {n k : Nat} {r : Int} (h : Cand t n k r) (hk : 0 < k) (hne : gt t k ≠ r) : Cand t n (br t k) r := by
  obtain ⟨h1, h2, h3⟩ := h
  have hl := br_lt (t := t) hk
  refine ⟨isB_trans h1 (br_is t k), by omega, fun m hm hb he => ?_⟩
  have hmk := h3 m hm hb he
  by_cases hmk2 : m = k
  · subst hmk2; exact absurd he hne
  · exact br_max (by omega) (isB_sub h1 hb hmk)
theorem cand_hit {t : List Int} {n k : Nat} (h : Cand t n k (gt t n)) (he : gt t k = gt t n) : br t (n + 1) = k + 1 := by
  obtain ⟨h1, h2, h3⟩ := h
  refine br_eq (by omega) (isB_succ.2 ⟨h1, he⟩) fun m hm hb => ?_
  cases m with
  | zero => omega
  | succ m => have := isB_succ.1 hb; have := h3 m (by omega) this.1 this.2; omega
theorem cand_miss {t : List Int} {n : Nat} (h : Cand t n 0 (gt t n)) (hne : gt t 0 ≠ gt t n) : br t (n + 1) = 0 := by
  obtain ⟨h1, h2, h3⟩ := h
  refine br_eq (by omega) (isB_zero _ _) fun m hm hb => ?_
  cases m with
  | zero => omega
  | succ m =>
    have hb' := isB_succ.1 hb
    have := h3 m (by omega) hb'.1 hb'.2
    obtain rfl : m = 0 := by omega
    exact absurd hb'.2 hne

/-- the table that the loop fills: the first n places done, the others 0 -/
def brTab (t : List Int) (n : Nat) : List Int := (List.range t.length).map fun j => if j < n then (br t (j + 1) : Int) else 0
theorem brTab_length (t : List Int) (n : Nat) : (brTab t n).length = t.length := by simp [brTab]
theorem brTab_get {t : List Int} {n j : Nat} (h : j < t.length) : (brTab t n)[j]? = some (if j < n then (br t (j + 1) : Int) else 0) := by simp [brTab, h]
theorem brTab_set {t : List Int} {n : Nat} (h : n < t.length) : (brTab t n).set n (br t (n + 1) : Int) = brTab t (n + 1) := by
  apply List.ext_getElem?
  intro j
  by_cases hj : j < t.length
  · rw [List.getElem?_set, brTab_get hj, brTab_get hj, brTab_length]
    by_cases hnj : n = j
    · subst hnj; simp [h]
    · rw [if_neg hnj]
      by_cases h1 : j < n
      · rw [if_pos h1, if_pos (by omega)]
      · rw [if_neg h1, if_neg (by omega)]
  · rw [List.getElem?_eq_none (by simp [brTab_length]; omega), List.getElem?_eq_none (by simp [brTab_length]; omega)]
theorem brTab_zero (t : List Int) : brTab t 1 = List.replicate t.length 0 := by
  apply List.ext_getElem?
  intro j
  by_cases hj : j < t.length
  · rw [brTab_get hj, List.getElem?_replicate]
    by_cases h0 : j < 1
    · obtain rfl : j = 0 := by omega
      simp [br_one, hj]
    · simp [h0, hj]
  · rw [List.getElem?_eq_none (by simp [brTab_length]; omega), List.getElem?_eq_none (by simp; omega)]
theorem brTab_zero' (t : List Int) : brTab t 0 = List.replicate t.length 0 := by
  apply List.ext_getElem?
  intro j
  by_cases hj : j < t.length
  · rw [brTab_get hj, List.getElem?_replicate]
    simp [hj]
  · rw [List.getElem?_eq_none (by simp [brTab_length]; omega), List.getElem?_eq_none (by simp; omega)]
theorem brTab_same {t : List Int} {n : Nat} (h : br t (n + 1) = 0) : brTab t n = brTab t (n + 1) := by
  apply List.ext_getElem?
  intro j
  by_cases hj : j < t.length
  · rw [brTab_get hj, brTab_get hj]
    by_cases h1 : j < n
    · rw [if_pos h1, if_pos (by omega)]
    · by_cases h2 : j = n
      · subst h2; simp [h]
      · rw [if_neg h1, if_neg (by omega)]
  · rw [List.getElem?_eq_none (by simp [brTab_length]; omega), List.getElem?_eq_none (by simp [brTab_length]; omega)]
/-- all borders -/
def brs (t : List Int) : List Int := brTab t t.length
theorem brTab_done {t : List Int} {n : Nat} (h : t.length ≤ n) : brTab t n = brs t := by
  apply List.ext_getElem?
  intro j
  unfold brs
  by_cases hj : j < t.length
  · rw [brTab_get hj, brTab_get hj, if_pos (by omega), if_pos hj]
  · rw [List.getElem?_eq_none (by simp [brTab_length]; omega), List.getElem?_eq_none (by simp [brTab_length]; omega)]

/-! ### standing at a place -/
def standsB (l t : List Int) (n : Nat) : Bool := decide (n + t.length ≤ l.length) && (List.range t.length).all fun j => gt l (n + j) == gt t j
theorem standsB_iff {l t : List Int} {n : Nat} : standsB l t n = true ↔ n + t.length ≤ l.length ∧ ∀ j, j < t.length → gt l (n + j) = gt t j := by simp [standsB]
theorem standsB_border {t : List Int} {n k : Nat} (hn : n ≤ t.length) (hk : k ≤ n) : standsB (t.take n) (t.take k) (n - k) = isBb t n k := by
  rw [Bool.eq_iff_iff, standsB_iff, isBb_iff]
  have l1 : (t.take n).length = n := by simp; omega
  have l2 : (t.take k).length = k := by simp; omega
  rw [l1, l2]
  have g : ∀ (m j : Nat), j < m → gt (t.take m) j = gt t j := fun m j h => by simp [gt, h]
  constructor
  · rintro ⟨_, h⟩
    refine ⟨hk, fun j hj => ?_⟩
    have := h j hj
    rw [g n _ (by omega), g k _ hj] at this
    exact this.symm
  · rintro ⟨_, h⟩
    refine ⟨by omega, fun j hj => ?_⟩
    rw [g n _ (by omega), g k _ hj]
    exact (h j hj).symm

theorem brs_get {t : List Int} {j : Nat} (h : j < t.length) : gt (brs t) j = (br t (j + 1) : Int) := by
  unfold gt brs
  rw [brTab_get h, if_pos h]
  rfl
theorem brs_length (t : List Int) : (brs t).length = t.length := brTab_length t _

/-! ### search -/
/-- the first k of t are the last k of the first n of l -/
def isM (l t : List Int) (n k : Nat) : Prop := k ≤ n ∧ k ≤ t.length ∧ ∀ j, j < k → gt t j = gt l (n - k + j)
theorem isM_zero (l t : List Int) (n : Nat) : isM l t n 0 := ⟨by omega, by omega, fun j h => by omega⟩
theorem isM_border {l t : List Int} {n k m : Nat} (h1 : isM l t n k) (h2 : isB t k m) : isM l t n m := by
  obtain ⟨a1, a2, a3⟩ := h1
  refine ⟨by have := h2.1; omega, by have := h2.1; omega, fun j hj => ?_⟩
  have b := a3 (k - m + j) (by have := h2.1; omega)
  rw [h2.2 j hj, b]
  congr 1
  have := h2.1; omega
theorem isM_sub {l t : List Int} {n k m : Nat} (h1 : isM l t n k) (h2 : isM l t n m) (h : m ≤ k) : isB t k m := by
  refine ⟨h, fun j hj => ?_⟩
  rw [h2.2.2 j hj, h1.2.2 (k - m + j) (by omega)]
  congr 1
  have := h1.1; omega
theorem isM_succ {l t : List Int} {n k : Nat} : isM l t (n + 1) (k + 1) ↔ isM l t n k ∧ k < t.length ∧ gt t k = gt l n := by
  constructor
  · rintro ⟨h1, h2, h3⟩
    refine ⟨⟨by omega, by omega, fun j hj => ?_⟩, by omega, ?_⟩
    · rw [h3 j (by omega)]; congr 1; omega
    · rw [h3 k (by omega)]; congr 1; omega
  · rintro ⟨⟨h1, _, h2⟩, h3, e⟩
    refine ⟨by omega, by omega, fun j hj => ?_⟩
    by_cases hjk : j < k
    · rw [h2 j hjk]; congr 1; omega
    · obtain rfl : j = k := by omega
      rw [e]; congr 1; omega
theorem isM_stands {l t : List Int} {n : Nat} (hn : n ≤ l.length) : isM l t n t.length ↔ t.length ≤ n ∧ standsB l t (n - t.length) = true := by
  rw [standsB_iff]
  constructor
  · rintro ⟨h1, _, h3⟩
    exact ⟨h1, by omega, fun j hj => (h3 j hj).symm⟩
  · rintro ⟨h1, _, h3⟩
    exact ⟨h1, Nat.le_refl _, fun j hj => (h3 j hj).symm⟩

/-- behind n characters the most that stands at their end is k, less than all of t, and t has not ended in them yet -/
def Best (l t : List Int) (n k : Nat) : Prop := isM l t n k ∧ k < t.length ∧ (∀ m, isM l t n m → m ≤ k) ∧ ∀ p, p + t.length ≤ n → standsB l t p = false
theorem best_start {l t : List Int} (h : 0 < t.length) : Best l t 0 0 := ⟨isM_zero _ _ _, h, fun m hm => hm.1, fun p hp => by omega⟩
def CandF (l t : List Int) (n k : Nat) (r : Int) : Prop := isM l t n k ∧ k < t.length ∧ (∀ m, isM l t n m → gt t m = r → m ≤ k) ∧ ∀ p, p + t.length ≤ n → standsB l t p = false
theorem candF_start {l t : List Int} {n k : Nat} (r : Int) (h : Best l t n k) : CandF l t n k r := ⟨h.1, h.2.1, fun m hm _ => h.2.2.1 m hm, h.2.2.2⟩
theorem candF_down {l t : List Int} {n k : Nat} {r : Int} (h : CandF l t n k r) (hk : 0 < k) (hne : gt t k ≠ r) : CandF l t n (br t k) r := by
  obtain ⟨h1, h2, h3, h4⟩ := h
  have hl := br_lt (t := t) hk
  refine ⟨isM_border h1 (br_is t k), by omega, fun m hm he => ?_, h4⟩
  have hmk := h3 m hm he
  by_cases hmk2 : m = k
  · subst hmk2; exact absurd he hne
  · exact br_max (by omega) (isM_sub h1 hm hmk)
theorem cand_none {l t : List Int} {n : Nat} (hn : n < l.length) (h : ∀ m, isM l t (n + 1) m → m < t.length) (h4 : ∀ p, p + t.length ≤ n → standsB l t p = false) :
    ∀ p, p + t.length ≤ n + 1 → standsB l t p = false := by
  intro p hp
  by_cases hp2 : p + t.length ≤ n
  · exact h4 p hp2
  · cases hs : standsB l t p
    · rfl
    · have := h t.length ((isM_stands (by omega)).2 ⟨by omega, by rw [show n + 1 - t.length = p by omega]; exact hs⟩)
      omega
theorem candF_hit {l t : List Int} {n k : Nat} (hn : n < l.length) (h : CandF l t n k (gt l n)) (he : gt t k = gt l n) (hk : k + 1 < t.length) : Best l t (n + 1) (k + 1) := by
  obtain ⟨h1, h2, h3, h4⟩ := h
  have hm : ∀ m, isM l t (n + 1) m → m ≤ k + 1 := fun m hm => by
    cases m with
    | zero => omega
    | succ m => have := isM_succ.1 hm; have := h3 m this.1 this.2.2; omega
  exact ⟨isM_succ.2 ⟨h1, h2, he⟩, hk, hm, cand_none hn (fun m h => by have := hm m h; omega) h4⟩
theorem candF_miss {l t : List Int} {n : Nat} (hn : n < l.length) (h : CandF l t n 0 (gt l n)) (hne : gt t 0 ≠ gt l n) : Best l t (n + 1) 0 := by
  obtain ⟨h1, h2, h3, h4⟩ := h
  have hm : ∀ m, isM l t (n + 1) m → m ≤ 0 := fun m hm => by
    cases m with
    | zero => omega
    | succ m =>
      have h' := isM_succ.1 hm
      have := h3 m h'.1 h'.2.2
      obtain rfl : m = 0 := by omega
      exact absurd h'.2.2 hne
  exact ⟨isM_zero _ _ _, h2, hm, cand_none hn (fun m h => by have := hm m h; omega) h4⟩

/-- the first place from n on where t stands in l; -1 -/
def findFrom (l t : List Int) : Nat → Nat → Int
  | 0, _ => -1
  | f + 1, n => if standsB l t n then (n : Int) else findFrom l t f (n + 1)
def findI (l t : List Int) : Int := findFrom l t (l.length + 1) 0
theorem findFrom_found {l t : List Int} {p : Nat} (hp : standsB l t p = true) : ∀ (f n : Nat), n ≤ p → p < n + f → (∀ q, n ≤ q → q < p → standsB l t q = false) → findFrom l t f n = p
  | 0, n, h1, h2, _ => by omega
  | f + 1, n, h1, h2, h => by
    unfold findFrom
    by_cases hn : n = p
    · subst hn; rw [hp]; rfl
    · rw [h n (Nat.le_refl _) (by omega)]
      exact findFrom_found hp f (n + 1) (by omega) (by omega) fun q a b => h q (by omega) b
theorem findFrom_none {l t : List Int} : ∀ (f n : Nat), (∀ q, n ≤ q → q < n + f → standsB l t q = false) → findFrom l t f n = -1
  | 0, n, _ => rfl
  | f + 1, n, h => by
    unfold findFrom
    rw [h n (Nat.le_refl _) (by omega)]
    exact findFrom_none f (n + 1) fun q a b => h q (by omega) (by omega)
theorem findI_found {l t : List Int} {p : Nat} (hp : standsB l t p = true) (h : ∀ q, q < p → standsB l t q = false) : findI l t = p :=
  findFrom_found hp _ 0 (by omega) (by have := (standsB_iff.1 hp).1; omega) fun q _ b => h q b
theorem findI_none {l t : List Int} (h : ∀ q, standsB l t q = false) : findI l t = -1 := findFrom_none _ _ fun q _ _ => h q
theorem findI_empty {l t : List Int} (h : t.length = 0) : findI l t = 0 := by
  have := findI_found (l := l) (t := t) (p := 0) (standsB_iff.2 ⟨by omega, fun j hj => by omega⟩) (fun q hq => by omega)
  simpa using this
theorem candF_full {l t : List Int} {n k : Nat} (hn : n < l.length) (h : CandF l t n k (gt l n)) (he : gt t k = gt l n) (hk : k + 1 = t.length) : findI l t = (n : Int) + 1 - ((k : Int) + 1) ∧ k ≤ n := by
  obtain ⟨h1, h2, h3, h4⟩ := h
  have hf := (isM_stands (l := l) (t := t) (n := n + 1) (by omega)).1 (by rw [← hk]; exact isM_succ.2 ⟨h1, h2, he⟩)
  have := findI_found hf.2 (fun q hq => h4 q (by omega))
  have h0 := h1.1
  refine ⟨?_, h0⟩
  rw [this]
  omega
theorem best_end {l t : List Int} {n k : Nat} (hn : l.length ≤ n) (h : Best l t n k) : findI l t = -1 := findI_none fun q => by
  cases hs : standsB l t q
  · rfl
  · have := (standsB_iff.1 hs).1
    rw [h.2.2.2 q (by omega)] at hs
    exact hs.symm

end Gim
