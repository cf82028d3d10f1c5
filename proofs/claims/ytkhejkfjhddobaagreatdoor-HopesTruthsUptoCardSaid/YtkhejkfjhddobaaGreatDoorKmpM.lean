/- Plain laws on borders and on search: no program in sight. -/
import Derived.Test.YtkhejkfjhddobaaGreatDoorUtfM
set_option maxHeartbeats 1000000
namespace Gim
def isB (t : List Int) (n k : Nat) : Prop := k ≤ n ∧ ∀ j, j < k → gt t j = gt t (n - k + j)
theorem isB_zero (t : List Int) (n : Nat) : isB t n 0 := ⟨by omega, fun j h => by omega⟩
theorem isB_trans {t : List Int} {n k m : Nat} (h1 : isB t n k) (h2 : isB t k m) : isB t n m := by
 refine ⟨by have := h1.1; have := h2.1; omega, fun j hj => ?_⟩
 have a := h2.2 j hj
 have b := h1.2 (k - m + j) (by have := h2.1; omega)
 rw [a, b]
 congr 1
 have := h1.1; have := h2.1; omega
theorem isB_sub {t : List Int} {n k m : Nat} (h1 : isB t n k) (h2 : isB t n m) (hmk : m ≤ k) : isB t k m := by
 refine ⟨hmk, fun j hj => ?_⟩
 have a := h2.2 j hj
 have b := h1.2 (k - m + j) (by omega)
 rw [a, b]
 congr 1
 have := h1.1; have := h2.1; omega
theorem isB_succ {t : List Int} {n k : Nat} : isB t (n + 1) (k + 1) ↔ isB t n k ∧ gt t k = gt t n := by
 constructor
 ·intro h
  have h1 := h.1
  refine ⟨⟨by omega, fun j hj => ?_⟩, ?_⟩
  ·have := h.2 j (by omega); rw [this]; congr 1; omega
  ·have := h.2 k (by omega); rw [this]; congr 1; omega
 ·rintro ⟨h, e⟩
  have h1 := h.1
  refine ⟨by omega, fun j hj => ?_⟩
  by_cases hjk : j < k
  ·have := h.2 j hjk; rw [this]; congr 1; omega
  ·obtain rfl : j = k := by omega
   rw [e]; congr 1; omega
def isBb (t : List Int) (n k : Nat) : Bool := decide (k ≤ n) && (List.range k).all fun j => gt t j == gt t (n - k + j)
theorem isBb_iff {t : List Int} {n k : Nat} : isBb t n k = true ↔ isB t n k := by simp [isBb, isB]
def lastB (t : List Int) (n : Nat) : Nat → Nat
 | 0 => 0
 | m + 1 => if isBb t n (m + 1) then m + 1 else lastB t n m
theorem lastB_le (t : List Int) (n : Nat) : ∀ m, lastB t n m ≤ m
 | 0 => jr _
 | m + 1 => by unfold lastB; split; exact jr _; have := lastB_le t n m; omega
theorem lastB_is (t : List Int) (n : Nat) : ∀ m, isB t n (lastB t n m)
 | 0 => isB_zero t n
 | m + 1 => by unfold lastB; split; exact isBb_iff.1 ‹_›; exact lastB_is t n m
theorem lastB_max (t : List Int) (n : Nat) : ∀ m k, k ≤ m → isB t n k → k ≤ lastB t n m
 | 0, k, h, _ => by omega
 | m + 1, k, h, hb => by
  unfold lastB
  split
  ·exact h
  ·rename_i hno
   by_cases hk : k = m + 1
   ·subst hk; exact absurd (isBb_iff.2 hb) hno
   ·exact lastB_max t n m k (by omega) hb
def br (t : List Int) (n : Nat) : Nat := lastB t n (n - 1)
theorem br_lt {t : List Int} {n : Nat} (h : 0 < n) : br t n < n := by have := lastB_le t n (n - 1); unfold br; omega
theorem br_is (t : List Int) (n : Nat) : isB t n (br t n) := lastB_is t n _
theorem br_max {t : List Int} {n k : Nat} (h : k < n) (hb : isB t n k) : k ≤ br t n := lastB_max t n _ k (by omega) hb
theorem br_one (t : List Int) : br t 1 = 0 := rfl
theorem br_eq {t : List Int} {n k : Nat} (h : k < n) (hb : isB t n k) (hm : ∀ m, m < n → isB t n m → m ≤ k) : br t n = k :=
 Nat.le_antisymm (hm _ (br_lt (by omega)) (br_is t n)) (br_max h hb)
/-! ### one step of the borders' loop: k goes down its borders till the next character fits -/
def Cand (t : List Int) (n k : Nat) (r : Int) : Prop := isB t n k ∧ k < n ∧ ∀ m, m < n → isB t n m → gt t m = r → m ≤ k
theorem cand_start {t : List Int} {n : Nat} (r : Int) (h : 0 < n) : Cand t n (br t n) r := ⟨br_is t n, br_lt h, fun _ hm hb _ => br_max hm hb⟩
theorem cand_down {t : List Int} {n k : Nat} {r : Int} (h : Cand t n k r) (hk : 0 < k) (hne : gt t k ≠ r) : Cand t n (br t k) r := by
 obtain ⟨h1, h2, h3⟩ := h
 have hl := br_lt (t := t) hk
 refine ⟨isB_trans h1 (br_is t k), by omega, fun m hm hb he => ?_⟩
 have hmk := h3 m hm hb he
 by_cases hmk2 : m = k
 ·subst hmk2; exact absurd he hne
 ·exact br_max (by omega) (isB_sub h1 hb hmk)
theorem cand_hit {t : List Int} {n k : Nat} (h : Cand t n k (gt t n)) (he : gt t k = gt t n) : br t (n + 1) = k + 1 := by
 obtain ⟨h1, h2, h3⟩ := h
 refine br_eq (by omega) (isB_succ.2 ⟨h1, he⟩) fun m hm hb => ?_
 cases m with
 | zero => omega
 | succ m => have := isB_succ.1 hb; have := h3 m (by omega) this.1 this.2; omega
theorem cand_miss {t : List Int} {n : Nat} (h : Cand t n 0 (gt t n)) (hne : gt t 0 ≠ gt t n) : br t (n + 1) = 0 := by
 obtain ⟨h1, h2, h3⟩ := h
 refine br_eq (by omega) (isB_zero _ _) fun m hm hb => ?_
 cases m with
 | zero => omega
 | succ m =>
  have hb' := isB_succ.1 hb
  have := h3 m (by omega) hb'.1 hb'.2
  obtain rfl : m = 0 := by omega
  exact absurd hb'.2 hne
def brTab (t : List Int) (n : Nat) : List Int := (List.range t.length).map fun j => if j < n then (br t (j + 1) : Int) else 0
theorem brTab_length (t : List Int) (n : Nat) : (brTab t n).length = t.length := by simp [brTab]
theorem brTab_get {t : List Int} {n j : Nat} (h : j < t.length) : (brTab t n)[j]? = some (if j < n then (br t (j + 1) : Int) else 0) := by simp [brTab, h]
theorem brTab_set {t : List Int} {n : Nat} (h : n < t.length) : (brTab t n).set n (br t (n + 1) : Int) = brTab t (n + 1) := by
 apply List.ext_getElem?
 intro j
 by_cases hj : j < t.length
 ·rw [List.getElem?_set, brTab_get hj, brTab_get hj, brTab_length]
  by_cases hnj : n = j
  ·subst hnj; simp [h]
  ·rw [if_neg hnj]
   by_cases h1 : j < n
   ·rw [if_pos h1, if_pos (by omega)]
   ·rw [if_neg h1, if_neg (by omega)]
 ·rw [List.getElem?_eq_none (by simp [brTab_length]; omega), List.getElem?_eq_none (by simp [brTab_length]; omega)]
theorem brTab_zero (t : List Int) : brTab t 1 = List.replicate t.length 0 := by
 apply List.ext_getElem?
 intro j
 by_cases hj : j < t.length
 ·rw [brTab_get hj, List.getElem?_replicate]
  by_cases h0 : j < 1
  ·obtain rfl : j = 0 := by omega
   simp [br_one, hj]
  ·simp [h0, hj]
 ·rw [List.getElem?_eq_none (by simp [brTab_length]; omega), List.getElem?_eq_none (by simp; omega)]
def brs (t : List Int) : List Int := brTab t t.length
theorem brTab_done {t : List Int} {n : Nat} (h : t.length ≤ n) : brTab t n = brs t := by
 apply List.ext_getElem?
 intro j
 unfold brs
 by_cases hj : j < t.length
 ·rw [brTab_get hj, brTab_get hj, if_pos (by omega), if_pos hj]
 ·rw [List.getElem?_eq_none (by simp [brTab_length]; omega), List.getElem?_eq_none (by simp [brTab_length]; omega)]
/-! ### standing at a place -/
def standsB (l t : List Int) (n : Nat) : Bool := decide (n + t.length ≤ l.length) && (List.range t.length).all fun j => gt l (n + j) == gt t j
theorem standsB_iff {l t : List Int} {n : Nat} : standsB l t n = true ↔ n + t.length ≤ l.length ∧ ∀ j, j < t.length → gt l (n + j) = gt t j := by simp [standsB]
theorem brs_get {t : List Int} {j : Nat} (h : j < t.length) : gt (brs t) j = (br t (j + 1) : Int) := by
 unfold gt brs
 rw [brTab_get h, if_pos h]
 rfl
theorem brs_length (t : List Int) : (brs t).length = t.length := brTab_length t _
/-! ### search -/
def isM (l t : List Int) (n k : Nat) : Prop := k ≤ n ∧ k ≤ t.length ∧ ∀ j, j < k → gt t j = gt l (n - k + j)
theorem isM_zero (l t : List Int) (n : Nat) : isM l t n 0 := ⟨by omega, by omega, fun j h => by omega⟩
theorem isM_border {l t : List Int} {n k m : Nat} (h1 : isM l t n k) (h2 : isB t k m) : isM l t n m := by
 obtain ⟨a1, a2, a3⟩ := h1
 refine ⟨by have := h2.1; omega, by have := h2.1; omega, fun j hj => ?_⟩
 have b := a3 (k - m + j) (by have := h2.1; omega)
 rw [h2.2 j hj, b]
 congr 1
 have := h2.1; omega
theorem isM_sub {l t : List Int} {n k m : Nat} (h1 : isM l t n k) (h2 : isM l t n m) (h : m ≤ k) : isB t k m := by
 refine ⟨h, fun j hj => ?_⟩
 rw [h2.2.2 j hj, h1.2.2 (k - m + j) (by omega)]
 congr 1
 have := h1.1; omega
theorem isM_succ {l t : List Int} {n k : Nat} : isM l t (n + 1) (k + 1) ↔ isM l t n k ∧ k < t.length ∧ gt t k = gt l n := by
 constructor
 ·rintro ⟨h1, h2, h3⟩
  refine ⟨⟨by omega, by omega, fun j hj => ?_⟩, by omega, ?_⟩
  ·rw [h3 j (by omega)]; congr 1; omega
  ·rw [h3 k (by omega)]; congr 1; omega
 ·rintro ⟨⟨h1, _, h2⟩, h3, e⟩
  refine ⟨by omega, by omega, fun j hj => ?_⟩
  by_cases hjk : j < k
  ·rw [h2 j hjk]; congr 1; omega
  ·obtain rfl : j = k := by omega
   rw [e]; congr 1; omega
theorem isM_stands {l t : List Int} {n : Nat} (hn : n ≤ l.length) : isM l t n t.length ↔ t.length ≤ n ∧ standsB l t (n - t.length) = true := by
 rw [standsB_iff]
 constructor
 ·rintro ⟨h1, _, h3⟩
  exact ⟨h1, by omega, fun j hj => (h3 j hj).symm⟩
 ·rintro ⟨h1, _, h3⟩
  exact ⟨h1, jr _, fun j hj => (h3 j hj).symm⟩
def findFrom (l t : List Int) : Nat → Nat → Int
 | 0, _ => -1
 | f + 1, n => if standsB l t n then (n : Int) else findFrom l t f (n + 1)
def findI (l t : List Int) : Int := findFrom l t (l.length + 1) 0
theorem findFrom_found {l t : List Int} {p : Nat} (hp : standsB l t p = true) : ∀ (f n : Nat), n ≤ p → p < n + f → (∀ q, n ≤ q → q < p → standsB l t q = false) → findFrom l t f n = p
 | 0, n, h1, h2, _ => by omega
 | f + 1, n, h1, h2, h => by
  unfold findFrom
  by_cases hn : n = p
  ·subst hn; rw [hp]; rfl
  ·rw [h n (jr _) (by omega)]
   exact findFrom_found hp f (n + 1) (by omega) (by omega) fun q a b => h q (by omega) b
theorem findFrom_none {l t : List Int} : ∀ (f n : Nat), (∀ q, n ≤ q → q < n + f → standsB l t q = false) → findFrom l t f n = -1
 | 0, n, _ => rfl
 | f + 1, n, h => by
  unfold findFrom
  rw [h n (jr _) (by omega)]
  exact findFrom_none f (n + 1) fun q a b => h q (by omega) (by omega)
theorem findI_found {l t : List Int} {p : Nat} (hp : standsB l t p = true) (h : ∀ q, q < p → standsB l t q = false) : findI l t = p :=
 findFrom_found hp _ 0 (by omega) (by have := (standsB_iff.1 hp).1; omega) fun q _ b => h q b
theorem findI_none {l t : List Int} (h : ∀ q, standsB l t q = false) : findI l t = -1 := findFrom_none _ _ fun q _ _ => h q
theorem gt_snoc {l : List Int} {r : Int} {j : Nat} (h : j < l.length) : gt (l ++ [r]) j = gt l j := by
 unfold gt
 rw [List.getElem?_append_left h]
theorem gt_last (l : List Int) (r : Int) : gt (l ++ [r]) l.length = r := by
 unfold gt
 rw [List.getElem?_append_right (jr _), Nat.sub_self]
 rfl
theorem isM_snoc {l t : List Int} {r : Int} {n k : Nat} (h : n ≤ l.length) : isM (l ++ [r]) t n k ↔ isM l t n k := by
 constructor
 ·rintro ⟨a, b, c⟩
  exact ⟨a, b, fun j hj => by rw [c j hj, gt_snoc (by omega)]⟩
 ·rintro ⟨a, b, c⟩
  exact ⟨a, b, fun j hj => by rw [c j hj, gt_snoc (by omega)]⟩
def Mx (l t : List Int) (k : Nat) : Prop := isM l t l.length k ∧ ∀ m, isM l t l.length m → m ≤ k
theorem Mx.eq {l t : List Int} {k q : Nat} (h : Mx l t k) (g : Mx l t q) : k = q := Nat.le_antisymm (g.2 k h.1) (h.2 q g.1)
theorem mx_nil (t : List Int) : Mx [] t 0 := ⟨isM_zero _ _ _, fun _ h => h.1⟩
def CandM (l t : List Int) (q : Nat) (r : Int) : Prop := isM l t l.length q ∧ q < t.length ∧ ∀ m, isM l t l.length m → m < t.length → gt t m = r → m ≤ q
theorem candM_less {l t : List Int} {k : Nat} (r : Int) (h : Mx l t k) (hk : k < t.length) : CandM l t k r := ⟨h.1, hk, fun m hm _ _ => h.2 m hm⟩
theorem candM_full {l t : List Int} (r : Int) (h : Mx l t t.length) (ht : 0 < t.length) : CandM l t (br t t.length) r :=
 ⟨isM_border h.1 (br_is t _), br_lt ht, fun m hm hl _ => br_max hl (isM_sub h.1 hm (by omega))⟩
theorem candM_down {l t : List Int} {k : Nat} {r : Int} (h : CandM l t k r) (hk : 0 < k) (hne : gt t k ≠ r) : CandM l t (br t k) r := by
 obtain ⟨h1, h2, h3⟩ := h
 have hl := br_lt (t := t) hk
 refine ⟨isM_border h1 (br_is t k), by omega, fun m hm hlt he => ?_⟩
 have hmk := h3 m hm hlt he
 by_cases hmk2 : m = k
 ·subst hmk2; exact absurd he hne
 ·exact br_max (by omega) (isM_sub h1 hm hmk)
theorem candM_hit {l t : List Int} {k : Nat} {r : Int} (h : CandM l t k r) (he : gt t k = r) : Mx (l ++ [r]) t (k + 1) := by
 obtain ⟨h1, h2, h3⟩ := h
 unfold Mx
 rw [jp, List.length_singleton]
 refine ⟨isM_succ.2 ⟨(isM_snoc (jr _)).2 h1, h2, by rw [gt_last]; exact he⟩, fun m hm => ?_⟩
 cases m with
 | zero => omega
 | succ m =>
  obtain ⟨a, b, c⟩ := isM_succ.1 hm
  rw [gt_last] at c
  have := h3 m ((isM_snoc (jr _)).1 a) b c
  omega
theorem candM_miss {l t : List Int} {r : Int} (h : CandM l t 0 r) (hne : gt t 0 ≠ r) : Mx (l ++ [r]) t 0 := by
 obtain ⟨h1, h2, h3⟩ := h
 unfold Mx
 rw [jp, List.length_singleton]
 refine ⟨isM_zero _ _ _, fun m hm => ?_⟩
 cases m with
 | zero => omega
 | succ m =>
  obtain ⟨a, b, c⟩ := isM_succ.1 hm
  rw [gt_last] at c
  have := h3 m ((isM_snoc (jr _)).1 a) b c
  obtain rfl : m = 0 := by omega
  exact absurd c hne
def fndB (l t : List Int) : Bool := (List.range (l.length + 1)).any fun p => standsB l t p
theorem fndB_iff {l t : List Int} : fndB l t = true ↔ ∃ p, standsB l t p = true := by
 unfold fndB
 rw [List.any_eq_true]
 constructor
 ·rintro ⟨p, _, h⟩; exact ⟨p, h⟩
 ·rintro ⟨p, h⟩; exact ⟨p, List.mem_range.2 (by have := (standsB_iff.1 h).1; omega), h⟩
theorem fndB_snoc {l t : List Int} {r : Int} {k : Nat} (h : Mx (l ++ [r]) t k) : fndB (l ++ [r]) t = (fndB l t || decide (k = t.length)) := by
 rw [Bool.eq_iff_iff, Bool.or_eq_true, decide_eq_true_eq, fndB_iff, fndB_iff]
 have hl : (l ++ [r]).length = l.length + 1 := by simp
 constructor
 ·rintro ⟨p, hp⟩
  obtain ⟨a, b⟩ := standsB_iff.1 hp
  by_cases hlt : p + t.length ≤ l.length
  ·exact .inl ⟨p, standsB_iff.2 ⟨hlt, fun j hj => by rw [← b j hj, gt_snoc (by omega)]⟩⟩
  ·have hm : isM (l ++ [r]) t (l ++ [r]).length t.length := (isM_stands (jr _)).2 ⟨by omega, by rw [show (l ++ [r]).length - t.length = p by omega]; exact hp⟩
   have h1 := h.2 _ hm
   have h2 := h.1.2.1
   exact .inr (by omega)
 ·rintro (⟨p, hp⟩ | hk)
  ·obtain ⟨a, b⟩ := standsB_iff.1 hp
   exact ⟨p, standsB_iff.2 ⟨by omega, fun j hj => by rw [gt_snoc (by omega)]; exact b j hj⟩⟩
  ·subst hk
   exact ⟨_, ((isM_stands (jr _)).1 h.1).2⟩
def offB (l t : List Int) : Bool := (List.range (min l.length t.length)).any fun j => gt t j != gt l j
theorem offB_snoc (l t : List Int) (r : Int) : offB (l ++ [r]) t = (offB l t || (decide (l.length < t.length) && (gt t l.length != r))) := by
 rw [Bool.eq_iff_iff, Bool.or_eq_true, jb, decide_eq_true_eq]
 unfold offB
 simp only [List.any_eq_true, List.mem_range, bne_iff_ne, jp, List.length_singleton]
 constructor
 ·rintro ⟨j, hj, hne⟩
  by_cases hjl : j < l.length
  ·exact .inl ⟨j, by omega, by rw [gt_snoc hjl] at hne; exact hne⟩
  ·obtain rfl : j = l.length := by omega
   rw [gt_last] at hne
   exact .inr ⟨by omega, hne⟩
 ·rintro (⟨j, hj, hne⟩ | ⟨hlt, hne⟩)
  ·exact ⟨j, by omega, by rw [gt_snoc (by omega)]; exact hne⟩
  ·exact ⟨l.length, by omega, by rw [gt_last]; exact hne⟩
def cameN (l t : List Int) (num : Nat) : Nat := min l.length (max num t.length + 1)
theorem cameN_snoc (l t : List Int) (r : Int) (num : Nat) : cameN (l ++ [r]) t num = if cameN l t num ≤ max num t.length then cameN l t num + 1 else cameN l t num := by
 unfold cameN
 rw [jp, List.length_singleton]
 split <;> omega
theorem mx_none {l : List Int} : Mx l [] 0 := ⟨isM_zero _ _ _, fun _ h => h.2.1⟩
theorem fndB_none (l : List Int) : fndB l [] = true := fndB_iff.2 ⟨0, standsB_iff.2 ⟨by simp, fun j hj => by simp at hj⟩⟩
def fdB (c : Int) (l t : List Int) : Bool := decide (1 ≤ c ∧ c ≤ 5) && fndB l t
theorem off_of (l t : List Int) (r : Int) (num : Nat) : offB (l ++ [r]) t = (offB l t || (decide (cameN l t num < t.length) && (gt t (cameN l t num) != r))) := by
 rw [offB_snoc]
 by_cases h : l.length < t.length
 ·have e : cameN l t num = l.length := by unfold cameN; omega
  rw [e]
 ·have e : ¬ cameN l t num < t.length := by unfold cameN; omega
  simp [h, e]
theorem cameN_nil (t : List Int) (num : Nat) : cameN [] t num = 0 := by simp [cameN]
theorem offB_nil (t : List Int) : offB [] t = false := by simp [offB]
theorem fndB_nil (t : List Int) : fndB [] t = decide (t.length = 0) := by
 rw [Bool.eq_iff_iff, fndB_iff, decide_eq_true_eq]
 constructor
 ·rintro ⟨p, hp⟩
  have := (standsB_iff.1 hp).1
  simp at this
  have := this.2
  simp [this]
 ·intro h
  exact ⟨0, standsB_iff.2 ⟨by simp [h], fun j hj => by omega⟩⟩
end Gim
namespace Go.Proofs.YtkhejkfjhddobaaGreatDoor
open Go.RowKit Gim
theorem info_rune : (Tryz.prog.info? 21).map (fun i => (i.zero, i.size, i.bytes)) = some (some (.int .i32 0), 1, 4) := by kernel_rfl
theorem wordsRunes (s : ByteArray) (w : World) (hs : s.size ≤ 1099511627776) :
  Calls Tryz.prog 125 #[.string s] w (GivesRow w 21 .i32 (rs s)) := by
 obtain ⟨i0, hi, hz0, hz1, hz2⟩ := info_parts info_rune
 go_enter Tryz.func125, Tryz.ntmps125
 go_wp2_with (at_make; refine wpList_make_own _ rfl _ _ 138 rfl w.heap.size 21 i0 (.int .i32 0) 1 Tryz.underlying138 hi hz0 hz1 _ _ _ s.size rfl rfl (by omega) (by rw [hz2]; omega) (by unfold maxLen; omega) (jr _) ?_; intro w1 hown1 hgrow1)
 have hb1 : Below w.heap.size w w1 := (jf _ _).grown hgrow1 (jr _) (fun k hk => by cases hk)
 have hz := hb1.size
 go_loopw [3] (fun v wr => ∃ (pos : Nat) (done : List Int), wr.heap[w1.heap.size]? = some (.stringIter s pos) ∧ Row wr w.heap.size 21 .i32 v done ∧ Below w.heap.size w wr ∧ Hid (done ++ rsAt s pos = rs s) ∧ done.length ≤ pos) (fun _ wr => s.size - wr.iterPos w1.heap.size)
 case atStart => exact ⟨0, [], World.iter_heap w1 s 0, hown1.alloc _, hb1.alloc hz _, rfl, by simp⟩
 case round =>
  obtain ⟨pos, done, hit, hown, hbw, HS, hlen⟩ := hrel
  have hpos0 := iterPos_of hit
  by_cases hp : pos < s.size
  ·obtain ⟨W1, hnx, hw1⟩ := next_some (P := Tryz.prog) hit hp
   have hwd := Lib.decode_width_pos s pos hp
   have hown2 := hw1.owns _ _ _ _ _ _ hown
   have hbw2 := hw1.below _ _ hbw hz
   have hz2' := hbw2.size
   clear hit hown hbw
   go_wp2_with (at_builtin; refine wpList_append_own _ rfl _ _ 138 rfl w.heap.size 21 i0 (.int .i32 0) 1 4 Tryz.underlying138 hi hz0 hz1 hz2 rfl (by decide) _ _ _ rfl (hown2.alloc _) ⟨W1.heap.size, 0, none⟩ 1 1 [.int .i32 ((Utf8.decode s pos).1 : Int)] rfl rfl (one_new _ _ _) (fun x hx => by simp at hx; rcases hx with rfl; rfl) (by unfold maxLen; omega) (by omega) (by simp; omega) ?_; intro v' w3 hown' hgrow3 hnil3)
   have hit3 := iter_grown (hown2.alloc _) hgrow3 ((Below.heap_alloc _ _ _ (lt_of_block hw1.it)).trans hw1.it)
   have hbw3 : Below w.heap.size w w3 := (hbw2.alloc hz2' _).grown hgrow3 (by simp; omega) (fun j hj => (hown2.lt _ hj).1)
   go_roundw
   case rel => exact ⟨_, done ++ [_], hit3, by unfold Row; simpa using hown', hbw3, by have := HS.out; rw [rsAt_next hp] at this; simpa [Hid] using this, by simp; omega⟩
   case measure => rw [iterPos_of hit3, hpos0]; omega
  ·have hnx : ∀ ty, (Instr.next (.pointer (some ⟨w1.heap.size, 0, none⟩)) true ty).run Tryz.prog wr = _ := fun ty => Lib.run_next_end_at wr w1.heap.size s pos ty hit hp
   have e : done = rs s := by have := HS.out; rw [rsAt_end hp] at this; simpa using this
   subst e
   go_wp2
   go_ret
   exact ⟨_, rfl, hown, hbw⟩
theorem refRunes (s : ByteArray) (w : World) (hs : s.size ≤ 1099511627776) :
  Calls Tryz.prog 71 #[.string s] w (GivesRow w 21 .i32 (rs s)) := by
 obtain ⟨i0, hi, hz0, hz1, hz2⟩ := info_parts info_rune
 go_enter Tryz.func71, Tryz.ntmps71
 go_wp2
 go_loopw [3] (fun v wr => ∃ (pos : Nat) (done : List Int), wr.heap[w.heap.size]? = some (.stringIter s pos) ∧ Row wr w.heap.size 21 .i32 v done ∧ Below w.heap.size w wr ∧ Hid (done ++ rsAt s pos = rs s) ∧ done.length ≤ pos) (fun _ wr => s.size - wr.iterPos w.heap.size)
 case atStart => exact ⟨0, [], World.iter_heap w s 0, World.ownsRow_nil _ _ _ _, (jf _ _).alloc (jr _) _, rfl, by simp⟩
 case round =>
  obtain ⟨pos, done, hit, hown, hbw, HS, hlen⟩ := hrel
  have hpos0 := iterPos_of hit
  by_cases hp : pos < s.size
  ·obtain ⟨W1, hnx, hw1⟩ := next_some (P := Tryz.prog) hit hp
   have hwd := Lib.decode_width_pos s pos hp
   have hown2 := hw1.owns _ _ _ _ _ _ hown
   have hbw2 := hw1.below _ _ hbw (jr _)
   have hz2' := hbw2.size
   clear hit hown hbw
   go_wp2_with (at_builtin; refine wpList_append_own _ rfl _ _ 138 rfl w.heap.size 21 i0 (.int .i32 0) 1 4 Tryz.underlying138 hi hz0 hz1 hz2 rfl (by decide) _ _ _ rfl (hown2.alloc _) ⟨W1.heap.size, 0, none⟩ 1 1 [.int .i32 ((Utf8.decode s pos).1 : Int)] rfl rfl (one_new _ _ _) (fun x hx => by simp at hx; rcases hx with rfl; rfl) (by unfold maxLen; omega) (by omega) (by simp; omega) ?_; intro v' w3 hown' hgrow3 hnil3)
   have hit3 := iter_grown (hown2.alloc _) hgrow3 ((Below.heap_alloc _ _ _ (lt_of_block hw1.it)).trans hw1.it)
   have hbw3 : Below w.heap.size w w3 := (hbw2.alloc hz2' _).grown hgrow3 (by simp; omega) (fun j hj => (hown2.lt _ hj).1)
   go_roundw
   case rel => exact ⟨_, done ++ [_], hit3, by unfold Row; simpa using hown', hbw3, by have := HS.out; rw [rsAt_next hp] at this; simpa [Hid] using this, by simp; omega⟩
   case measure => rw [iterPos_of hit3, hpos0]; omega
  ·have hnx : ∀ ty, (Instr.next (.pointer (some ⟨w.heap.size, 0, none⟩)) true ty).run Tryz.prog wr = _ := fun ty => Lib.run_next_end_at wr w.heap.size s pos ty hit hp
   have e : done = rs s := by have := HS.out; rw [rsAt_end hp] at this; simpa using this
   subst e
   go_wp2
   go_ret
   exact ⟨_, rfl, hown, hbw⟩
theorem stands (a0 : Option Addr) (n0 c0 : Nat) (l : List Int) (a1 : Option Addr) (n1 c1 : Nat) (t : List Int) (n : Nat) (w : World)
  (h0 : Rd w .i32 a0 n0 c0 l) (h1 : Rd w .i32 a1 n1 c1 t) (hn : n ≤ 1099511627776) (hl : n0 ≤ 1099511627776) (ht : n1 ≤ 1099511627776) :
  Calls Tryz.prog 128 #[.slice a0 n0 c0, .slice a1 n1 c1, .int .i64 n] w fun e w' => e = .returned (.bool (standsB l t n)) ∧ Drew w w' := by
 have H0 := jh h0.len
 have H1 := jh h1.len
 by_cases hlt : n + n1 ≤ n0
 ·have hlt' : ¬ (n0 : Int) < n + n1 := by omega
  go_enter Tryz.func128, Tryz.ntmps128
  go_wp2
  go_loopw [7] (fun i wr => ∃ k : Nat, k ≤ n1 ∧ i = .int .i64 k ∧ Hid (∀ j, j < k → gt l (n + j) = gt t j) ∧ Drew w wr) (fun i _ => n1 - (intOf i).toNat)
  case atStart => exact ⟨0, by omega, rfl, fun j hj => by omega, Drew.refl _⟩
  case round =>
   obtain ⟨k, hk, rfl, Hall, hbw⟩ := hrel
   by_cases hkn : k < n1
   ·obtain ⟨b0, o0, rfl, hb0, hc0⟩ := (h0.below (hbw.below _)).cell 0 (by omega)
    obtain ⟨b1, o1, rfl, hb1, hc1⟩ := (h1.below (hbw.below _)).cell 0 (by omega)
    have hx := hc0 (n + k) (by omega)
    have hy := hc1 k hkn
    have hix : (n : Int) + k < n0 := by omega
    clear hc0 hc1
    cases he : (gt l (n + k) != gt t k)
    ·go_wp2
     go_quiet (fail)
     go_wp2
     go_roundw
     case rel => exact ⟨k + 1, by omega, by go_num, fun j hj => by
      by_cases hjk : j < k
      ·exact Hall.out j hjk
      ·obtain rfl : j = k := by omega
       simpa using he, hbw.drewN _⟩
     case measure => simp [intOf]; omega
    ·go_wp2
     go_quiet (fail)
     go_wp2
     go_ret
     exact ⟨by
      have : standsB l t n = false := by
       cases hs : standsB l t n
       ·rfl
       ·have := (standsB_iff.1 hs).2 k (by rw [H1.out]; exact hkn)
        simp at he
        exact absurd this he
      rw [this]; rfl, hbw.drewN _⟩
   ·have : standsB l t n = true := standsB_iff.2 ⟨by rw [H0.out, H1.out]; exact hlt, fun j hj => Hall.out j (by rw [H1.out] at hj; omega)⟩
    have HT := jh this
    clear this
    go_wp2
    go_ret
    exact ⟨by rw [HT.out]; rfl, hbw⟩
 ·have hlt' : (n0 : Int) < n + n1 := by omega
  have : standsB l t n = false := by
   cases hs : standsB l t n
   ·rfl
   ·have := (standsB_iff.1 hs).1
    rw [H0.out, H1.out] at this
    omega
  have HT := jh this
  clear this
  go_enter Tryz.func128, Tryz.ntmps128
  go_wp2
  go_ret
  exact ⟨by rw [HT.out]; rfl, Drew.refl _⟩
theorem info_int : (Tryz.prog.info? 3).map (fun i => (i.zero, i.size, i.bytes)) = some (some (.int .i64 0), 1, 8) := by kernel_rfl
theorem borders (a0 : Option Addr) (n0 c0 : Nat) (t : List Int) (w : World) (h0 : Rd w .i32 a0 n0 c0 t) (hl : n0 ≤ 1099511627776) :
  Calls Tryz.prog 124 #[.slice a0 n0 c0] w (GivesFull w 3 .i64 (brs t)) := by
 obtain ⟨i0, hi, hz0, hz1, hz2⟩ := info_parts info_int
 have H0 := jh h0.len
 go_enter Tryz.func124, Tryz.ntmps124
 go_wp2_with (at_make; refine wpList_make_full _ rfl _ _ 53 rfl w.heap.size 3 i0 (.int .i64 0) 1 Tryz.underlying53 hi hz0 hz1 _ _ _ _ n0 rfl rfl rfl rfl (by rw [hz2]; omega) (by unfold maxLen; omega) (jr _) ?_; intro w1 hown1 hgrow1)
 have hb1 : Below w.heap.size w w1 := (jf _ _).grown hgrow1 (jr _) (fun k hk => by cases hk)
 rw [madeInts] at hown1
 have hrow1 : Row w1 w.heap.size 3 .i64 (.slice (some ⟨w.heap.size, 0, none⟩) n0 n0) (brTab t 1) := by
  unfold Row; rw [brTab_length, brTab_zero, H0.out]; exact hown1
 clear hown1 hgrow1
 go_loopw [4] (fun v wr => ∃ m : Nat, v = .int .i64 ((m : Int) + 1) ∧ Row wr w.heap.size 3 .i64 (.slice (some ⟨w.heap.size, 0, none⟩) n0 n0) (brTab t (m + 1)) ∧ Below w.heap.size w wr) (fun v _ => n0 - (intOf v).toNat)
 case atStart => exact ⟨0, rfl, hrow1, hb1⟩
 case round =>
  obtain ⟨m, rfl, hrow, hbw⟩ := hrel
  by_cases hm : m + 1 < n0
  ·have hm' : (m : Int) + 1 < n0 := by omega
   have hlen := jh (brTab_length t (m + 1))
   have hc : wr.cell? ⟨w.heap.size, m, none⟩ = some (.int .i64 (br t (m + 1) : Int)) := by
    rw [hrow.cell (by rw [hlen.out, H0.out]; omega)]
    have := brTab_get (t := t) (n := m + 1) (j := m) (by rw [H0.out]; omega)
    simp [gt, this]
   have hbr := br_lt (t := t) (n := m + 1) (by omega)
   obtain ⟨wo, rfl⟩ : ∃ wo : World, wo = wr := ⟨_, rfl⟩
   obtain ⟨q0, hq0⟩ : ∃ q, q = br t (m + 1) := ⟨_, rfl⟩
   rw [← hq0] at hc hbr
   have HQ := jh hq0
   clear hq0
   have HC := jh (show Cand t (m + 1) q0 (gt t (m + 1)) by rw [HQ.out]; exact cand_start _ (by omega))
   go_wp2
   clear hc HQ hbr
   go_loopw [5] (fun v wi => ∃ q : Nat, v = .int .i64 q ∧ Hid (Cand t (m + 1) q (gt t (m + 1))) ∧ Row wi w.heap.size 3 .i64 (.slice (some ⟨w.heap.size, 0, none⟩) n0 n0) (brTab t (m + 1)) ∧ Below w.heap.size w wi) (fun v _ => (intOf v).toNat)
   case atStart => exact ⟨q0, rfl, HC, hrow, hbw⟩
   case round =>
    clear hrow hbw HC
    obtain ⟨q, rfl, HC, hrow, hbw⟩ := hrel
    have hqm : q < m + 1 := HC.out.2.1
    obtain ⟨b0, o0, rfl, hb0, hc0⟩ := (h0.below hbw).cell 0 (by omega)
    have hx := hc0 (m + 1) hm
    have hy := hc0 q (by omega)
    have hfr := hrow.free (m + 1)
    have hold := hrow.cell (j := m + 1) (by rw [hlen.out, H0.out]; omega)
    have hnn : (0 : Int) ≤ m := by omega
    clear hc0
    by_cases heq : gt t q = gt t (m + 1)
    ·have he : (gt t q == gt t (m + 1)) = true := by simpa using heq
     have hne : (gt t q != gt t (m + 1)) = false := by simpa using heq
     have HB := jh (cand_hit HC.out heq)
     have HS : Hid (∀ n, Row ((wr.drewN n).setCell ⟨w.heap.size, m + 1, none⟩ (.int .i64 ((q : Int) + 1))) w.heap.size 3 .i64 (.slice (some ⟨w.heap.size, 0, none⟩) n0 n0) (brTab t (m + 1 + 1))) := fun n => by
      have := (hrow.drewN n).set' (m + 1) ((q : Int) + 1)
      rwa [show (brTab t (m + 1)).set (m + 1) ((q : Int) + 1) = brTab t (m + 1 + 1) from by rw [show ((q : Int) + 1) = ((br t (m + 1 + 1) : Nat) : Int) from by rw [HB.out]; omega]; exact brTab_set (by rw [H0.out]; exact hm)] at this
     clear heq
     by_cases hq : 0 < q
     ·have hd : decide ((0 : Int) < (q : Int)) = true := by simpa using hq
      go_wp2
      go_quiet (fail)
      go_wp2
      go_quiet (fail)
      go_wp2
      go_roundw
      case rel => exact ⟨m + 1, by go_num, HS.out _, (below_drewN hbw _).setCell (jr _) _⟩
      case measure => simp [intOf]; omega
     ·obtain rfl : q = 0 := by omega
      rw [Nat.add_zero] at hy
      go_wp2
      go_quiet (fail)
      go_wp2
      go_quiet (fail)
      go_wp2
      go_roundw
      case rel => exact ⟨m + 1, by go_num, HS.out _, (below_drewN hbw _).setCell (jr _) _⟩
      case measure => simp [intOf]; omega
    ·have he : (gt t q == gt t (m + 1)) = false := by simpa using heq
     have hne : (gt t q != gt t (m + 1)) = true := by simpa using heq
     by_cases hq : 0 < q
     ·have hc : wr.cell? ⟨w.heap.size, q - 1, none⟩ = some (.int .i64 (br t q : Int)) := by
       rw [hrow.cell (by rw [hlen.out, H0.out]; omega)]
       have := brTab_get (t := t) (n := m + 1) (j := q - 1) (by rw [H0.out]; omega)
       simp [gt, this, show q - 1 < m + 1 by omega, show q - 1 + 1 = q by omega]
      have HC2 := jh (cand_down HC.out hq heq)
      have hbl := br_lt (t := t) hq
      have hd : decide ((0 : Int) < (q : Int)) = true := by simpa using hq
      clear heq
      go_wp2
      go_quiet (fail)
      go_wp2
      go_roundw
      case rel => exact ⟨br t q, rfl, HC2, hrow.drewN _, below_drewN hbw _⟩
      case measure => simp [intOf]; omega
     ·obtain rfl : q = 0 := by omega
      rw [Nat.add_zero] at hy
      have HB := jh (cand_miss HC.out heq)
      have HS : Hid (∀ n, Row ((wr.drewN n).setCell ⟨w.heap.size, m + 1, none⟩ (.int .i64 0)) w.heap.size 3 .i64 (.slice (some ⟨w.heap.size, 0, none⟩) n0 n0) (brTab t (m + 1 + 1))) := fun n => by
       have := (hrow.drewN n).set' (m + 1) 0
       rwa [show (brTab t (m + 1)).set (m + 1) 0 = brTab t (m + 1 + 1) from by rw [show (0 : Int) = ((br t (m + 1 + 1) : Nat) : Int) from by rw [HB.out]; rfl]; exact brTab_set (by rw [H0.out]; exact hm)] at this
      clear heq
      go_wp2
      go_quiet (fail)
      go_wp2
      go_quiet (fail)
      go_wp2
      go_roundw
      case rel => exact ⟨m + 1, by go_num, HS.out _, (below_drewN hbw _).setCell (jr _) _⟩
      case measure => simp [intOf]; omega
  ·have hm' : ¬ (m : Int) + 1 < n0 := by omega
   have HD := jh (brTab_done (t := t) (n := m + 1) (by rw [H0.out]; omega))
   go_wp2
   go_ret
   rw [HD.out] at hrow
   have HLN := jh (show (brs t).length = n0 by rw [brs_length, H0.out])
   exact ⟨w.heap.size, by rw [HLN.out]; rfl, by rw [HLN.out]; exact hrow, hbw⟩
theorem border (s : ByteArray) (w : World) (hs : s.size ≤ 1099511627776) :
  Calls Tryz.prog 101 #[.string s] w (GivesFull w 3 .i64 (brs (rs s))) := by
 have l1 := rs_length s
 go_enter Tryz.func101, Tryz.ntmps101
 go_wp2_with fail
 refine (wordsRunes _ _ hs).mono ?_
 rintro e w1 ⟨v1, rfl, hr1, hb1⟩
 obtain ⟨a1, c1, rfl, rd1⟩ := hr1.rd
 go_wp2_with fail
 refine (borders _ _ _ _ _ rd1 (by omega)).mono ?_
 rintro e w2 ⟨g2, rfl, hr2, hb2⟩
 go_wp2_with fail
 go_ret
 exact ⟨g2, rfl, hr2.mono hb1.size, hb1.trans (hb2.mono hb1.size)⟩
end Go.Proofs.YtkhejkfjhddobaaGreatDoor
