/- Plain laws on yKv and on search: no program in sight. -/
import Derived.Test.YtkhejkfjhddobaaGreatDoorUtfM
set_option maxHeartbeats 1000000
namespace Gim
def isB (t : List Int) (n k : Nat) : Prop := k ≤ n ∧ ∀ j, j < k → gt t j = gt t (n - k + j)
theorem yM3 (t : List Int) (n : Nat) : isB t n 0 := ⟨by omega, fun j h => by omega⟩
theorem yPI {t : List Int} {n k m : Nat} (h1 : isB t n k) (h2 : isB t k m) : isB t n m := by refine ⟨by have := h1.1; have := h2.1; omega, fun j hj => ?_⟩; have a := h2.2 j hj; have b := h1.2 (k - m + j) (by have := h2.1; omega); rw [a, b]; congr 1; have := h1.1; have := h2.1; omega
theorem ySj {t : List Int} {n k m : Nat} (h1 : isB t n k) (h2 : isB t n m) (hmk : m ≤ k) : isB t k m := by refine ⟨hmk, fun j hj => ?_⟩; have a := h2.2 j hj; have b := h1.2 (k - m + j) (by omega); rw [a, b]; congr 1; have := h1.1; have := h2.1; omega
theorem yH4 {t : List Int} {n k : Nat} : isB t (n + 1) (k + 1) ↔ isB t n k ∧ gt t k = gt t n := by
 constructor
 ·intro h; have h1 := h.1; refine ⟨⟨by omega, fun j hj => ?_⟩, ?_⟩
  ·have := h.2 j (by omega); rw [this]; congr 1; omega
  ·have := h.2 k (by omega); rw [this]; congr 1; omega
 ·rintro ⟨h, e⟩; have h1 := h.1; refine ⟨by omega, fun j hj => ?_⟩; by_cases hjk : j < k
  ·have := h.2 j hjk; rw [this]; congr 1; omega
  ·obtain rfl : j = k := by omega
   rw [e]; congr 1; omega
def yS6 (t : List Int) (n k : Nat) : Bool := decide (k ≤ n) && (List.range k).all fun j => gt t j == gt t (n - k + j)
theorem yLw {t : List Int} {n k : Nat} : yS6 t n k = true ↔ isB t n k := by simp [yS6, isB]
def yHE (t : List Int) (n : Nat) : Nat → Nat
 | 0 => 0
 | m + 1 => if yS6 t n (m + 1) then m + 1 else yHE t n m
theorem yMt (t : List Int) (n : Nat) : ∀ m, yHE t n m ≤ m
 | 0 => jr _
 | m + 1 => by unfold yHE; split; exact jr _; have := yMt t n m; omega
theorem yMR (t : List Int) (n : Nat) : ∀ m, isB t n (yHE t n m)
 | 0 => yM3 t n
 | m + 1 => by unfold yHE; split; exact yLw.1 ‹_›; exact yMR t n m
theorem yKi (t : List Int) (n : Nat) : ∀ m k, k ≤ m → isB t n k → k ≤ yHE t n m
 | 0, k, h, _ => by omega
 | m + 1, k, h, hb => by
  unfold yHE; split
  ·exact h
  ·rename_i hno; by_cases hk : k = m + 1
   ·subst hk; exact absurd (yLw.2 hb) hno
   ·exact yKi t n m k (by omega) hb
def br (t : List Int) (n : Nat) : Nat := yHE t n (n - 1)
theorem yHk {t : List Int} {n : Nat} (h : 0 < n) : br t n < n := by have := yMt t n (n - 1); unfold br; omega
theorem yLN (t : List Int) (n : Nat) : isB t n (br t n) := yMR t n _
theorem yIF {t : List Int} {n k : Nat} (h : k < n) (hb : isB t n k) : k ≤ br t n := yKi t n _ k (by omega) hb
theorem yTp (t : List Int) : br t 1 = 0 := rfl
theorem ySX {t : List Int} {n k : Nat} (h : k < n) (hb : isB t n k) (hm : ∀ m, m < n → isB t n m → m ≤ k) : br t n = k :=
 Nat.le_antisymm (hm _ (yHk (by omega)) (yLN t n)) (yIF h hb)
/-! ### one step of the borders' loop: k goes down its yKv till the next character fits -/
def yNy (t : List Int) (n k : Nat) (r : Int) : Prop := isB t n k ∧ k < n ∧ ∀ m, m < n → isB t n m → gt t m = r → m ≤ k
theorem yN0 {t : List Int} {n : Nat} (r : Int) (h : 0 < n) : yNy t n (br t n) r := ⟨yLN t n, yHk h, fun _ hm hb _ => yIF hm hb⟩
theorem yQl {t : List Int} {n k : Nat} {r : Int} (h : yNy t n k r) (hk : 0 < k) (hne : gt t k ≠ r) : yNy t n (br t k) r := by
 obtain ⟨h1, h2, h3⟩ := h; have hl := yHk (t := t) hk; refine ⟨yPI h1 (yLN t k), by omega, fun m hm hb he => ?_⟩; have hmk := h3 m hm hb he; by_cases hmk2 : m = k
 ·subst hmk2; exact absurd he hne
 ·exact yIF (by omega) (ySj h1 hb hmk)
theorem yR3 {t : List Int} {n k : Nat} (h : yNy t n k (gt t n)) (he : gt t k = gt t n) : br t (n + 1) = k + 1 := by
 obtain ⟨h1, h2, h3⟩ := h; refine ySX (by omega) (yH4.2 ⟨h1, he⟩) fun m hm hb => ?_
 cases m with
 | zero => omega
 | succ m => have := yH4.1 hb; have := h3 m (by omega) this.1 this.2; omega
theorem yQb {t : List Int} {n : Nat} (h : yNy t n 0 (gt t n)) (hne : gt t 0 ≠ gt t n) : br t (n + 1) = 0 := by
 obtain ⟨h1, h2, h3⟩ := h; refine ySX (by omega) (yM3 _ _) fun m hm hb => ?_
 cases m with
 | zero => omega
 | succ m =>
  have hb' := yH4.1 hb; have := h3 m (by omega) hb'.1 hb'.2; obtain rfl : m = 0 := by omega
  exact absurd hb'.2 hne
def yCw (t : List Int) (n : Nat) : List Int := (List.range t.length).map fun j => if j < n then (br t (j + 1) : Int) else 0
theorem yA3 (t : List Int) (n : Nat) : (yCw t n).length = t.length := by simp [yCw]
theorem yCf {t : List Int} {n j : Nat} (h : j < t.length) : (yCw t n)[j]? = some (if j < n then (br t (j + 1) : Int) else 0) := by simp [yCw, h]
theorem yJy {t : List Int} {n : Nat} (h : n < t.length) : (yCw t n).set n (br t (n + 1) : Int) = yCw t (n + 1) := by
 apply List.ext_getElem?; intro j; by_cases hj : j < t.length
 ·rw [List.getElem?_set, yCf hj, yCf hj, yA3]; by_cases hnj : n = j
  ·subst hnj; simp [h]
  ·rw [if_neg hnj]; by_cases h1 : j < n
   ·rw [if_pos h1, if_pos (by omega)]
   ·rw [if_neg h1, if_neg (by omega)]
 ·rw [List.getElem?_eq_none (by simp [yA3]; omega), List.getElem?_eq_none (by simp [yA3]; omega)]
theorem yNI (t : List Int) : yCw t 1 = List.replicate t.length 0 := by
 apply List.ext_getElem?; intro j; by_cases hj : j < t.length
 ·rw [yCf hj, List.getElem?_replicate]; by_cases h0 : j < 1
  ·obtain rfl : j = 0 := by omega
   simp [yTp, hj]
  ·simp [h0, hj]
 ·rw [List.getElem?_eq_none (by simp [yA3]; omega), List.getElem?_eq_none (by simp; omega)]
def brs (t : List Int) : List Int := yCw t t.length
theorem yNR {t : List Int} {n : Nat} (h : t.length ≤ n) : yCw t n = brs t := by
 apply List.ext_getElem?; intro j; unfold brs; by_cases hj : j < t.length
 ·rw [yCf hj, yCf hj, if_pos (by omega), if_pos hj]
 ·rw [List.getElem?_eq_none (by simp [yA3]; omega), List.getElem?_eq_none (by simp [yA3]; omega)]
/-! ### standing at a place -/
def yAj (l t : List Int) (n : Nat) : Bool := decide (n + t.length ≤ l.length) && (List.range t.length).all fun j => gt l (n + j) == gt t j
theorem yAs {l t : List Int} {n : Nat} : yAj l t n = true ↔ n + t.length ≤ l.length ∧ ∀ j, j < t.length → gt l (n + j) = gt t j := by simp [yAj]
theorem ySq {t : List Int} {j : Nat} (h : j < t.length) : gt (brs t) j = (br t (j + 1) : Int) := by unfold gt brs; rw [yCf h, if_pos h]; rfl
theorem yIC (t : List Int) : (brs t).length = t.length := yA3 t _
/-! ### search -/
def isM (l t : List Int) (n k : Nat) : Prop := k ≤ n ∧ k ≤ t.length ∧ ∀ j, j < k → gt t j = gt l (n - k + j)
theorem yIW (l t : List Int) (n : Nat) : isM l t n 0 := ⟨by omega, by omega, fun j h => by omega⟩
theorem yHZ {l t : List Int} {n k m : Nat} (h1 : isM l t n k) (h2 : isB t k m) : isM l t n m := by obtain ⟨a1, a2, a3⟩ := h1; refine ⟨by have := h2.1; omega, by have := h2.1; omega, fun j hj => ?_⟩; have b := a3 (k - m + j) (by have := h2.1; omega); rw [h2.2 j hj, b]; congr 1; have := h2.1; omega
theorem yO7 {l t : List Int} {n k m : Nat} (h1 : isM l t n k) (h2 : isM l t n m) (h : m ≤ k) : isB t k m := by refine ⟨h, fun j hj => ?_⟩; rw [h2.2.2 j hj, h1.2.2 (k - m + j) (by omega)]; congr 1; have := h1.1; omega
theorem yH0 {l t : List Int} {n k : Nat} : isM l t (n + 1) (k + 1) ↔ isM l t n k ∧ k < t.length ∧ gt t k = gt l n := by
 constructor
 ·rintro ⟨h1, h2, h3⟩; refine ⟨⟨by omega, by omega, fun j hj => ?_⟩, by omega, ?_⟩
  ·rw [h3 j (by omega)]; congr 1; omega
  ·rw [h3 k (by omega)]; congr 1; omega
 ·rintro ⟨⟨h1, _, h2⟩, h3, e⟩; refine ⟨by omega, by omega, fun j hj => ?_⟩; by_cases hjk : j < k
  ·rw [h2 j hjk]; congr 1; omega
  ·obtain rfl : j = k := by omega
   rw [e]; congr 1; omega
theorem yFG {l t : List Int} {n : Nat} (hn : n ≤ l.length) : isM l t n t.length ↔ t.length ≤ n ∧ yAj l t (n - t.length) = true := by
 rw [yAs]; constructor
 ·rintro ⟨h1, _, h3⟩; exact ⟨h1, by omega, fun j hj => (h3 j hj).symm⟩
 ·rintro ⟨h1, _, h3⟩; exact ⟨h1, jr _, fun j hj => (h3 j hj).symm⟩
def yCr (l t : List Int) : Nat → Nat → Int
 | 0, _ => -1
 | f + 1, n => if yAj l t n then (n : Int) else yCr l t f (n + 1)
def yDL (l t : List Int) : Int := yCr l t (l.length + 1) 0
theorem yEl {l t : List Int} {p : Nat} (hp : yAj l t p = true) : ∀ (f n : Nat), n ≤ p → p < n + f → (∀ q, n ≤ q → q < p → yAj l t q = false) → yCr l t f n = p
 | 0, n, h1, h2, _ => by omega
 | f + 1, n, h1, h2, h => by
  unfold yCr; by_cases hn : n = p
  ·subst hn; rw [hp]; rfl
  ·rw [h n (jr _) (by omega)]; exact yEl hp f (n + 1) (by omega) (by omega) fun q a b => h q (by omega) b
theorem yFj {l t : List Int} : ∀ (f n : Nat), (∀ q, n ≤ q → q < n + f → yAj l t q = false) → yCr l t f n = -1
 | 0, n, _ => rfl
 | f + 1, n, h => by unfold yCr; rw [h n (jr _) (by omega)]; exact yFj f (n + 1) fun q a b => h q (by omega) (by omega)
theorem yNd {l t : List Int} {p : Nat} (hp : yAj l t p = true) (h : ∀ q, q < p → yAj l t q = false) : yDL l t = p :=
 yEl hp _ 0 (by omega) (by have := (yAs.1 hp).1; omega) fun q _ b => h q b
theorem yNn {l t : List Int} (h : ∀ q, yAj l t q = false) : yDL l t = -1 := yFj _ _ fun q _ _ => h q
theorem yER {l : List Int} {r : Int} {j : Nat} (h : j < l.length) : gt (l ++ [r]) j = gt l j := by unfold gt; rw [List.getElem?_append_left h]
theorem yGe (l : List Int) (r : Int) : gt (l ++ [r]) l.length = r := by unfold gt; rw [List.getElem?_append_right (jr _), Nat.sub_self]; rfl
theorem yIe {l t : List Int} {r : Int} {n k : Nat} (h : n ≤ l.length) : isM (l ++ [r]) t n k ↔ isM l t n k := by
 constructor
 ·rintro ⟨a, b, c⟩; exact ⟨a, b, fun j hj => by rw [c j hj, yER (by omega)]⟩
 ·rintro ⟨a, b, c⟩; exact ⟨a, b, fun j hj => by rw [c j hj, yER (by omega)]⟩
def Mx (l t : List Int) (k : Nat) : Prop := isM l t l.length k ∧ ∀ m, isM l t l.length m → m ≤ k
theorem Mx.eq {l t : List Int} {k q : Nat} (h : Mx l t k) (g : Mx l t q) : k = q := Nat.le_antisymm (g.2 k h.1) (h.2 q g.1)
theorem yTt (t : List Int) : Mx [] t 0 := ⟨yIW _ _ _, fun _ h => h.1⟩
def yHh (l t : List Int) (q : Nat) (r : Int) : Prop := isM l t l.length q ∧ q < t.length ∧ ∀ m, isM l t l.length m → m < t.length → gt t m = r → m ≤ q
theorem yNE {l t : List Int} {k : Nat} (r : Int) (h : Mx l t k) (hk : k < t.length) : yHh l t k r := ⟨h.1, hk, fun m hm _ _ => h.2 m hm⟩
theorem yNZ {l t : List Int} (r : Int) (h : Mx l t t.length) (ht : 0 < t.length) : yHh l t (br t t.length) r :=
 ⟨yHZ h.1 (yLN t _), yHk ht, fun m hm hl _ => yIF hl (yO7 h.1 hm (by omega))⟩
theorem yOs {l t : List Int} {k : Nat} {r : Int} (h : yHh l t k r) (hk : 0 < k) (hne : gt t k ≠ r) : yHh l t (br t k) r := by
 obtain ⟨h1, h2, h3⟩ := h; have hl := yHk (t := t) hk; refine ⟨yHZ h1 (yLN t k), by omega, fun m hm hlt he => ?_⟩; have hmk := h3 m hm hlt he; by_cases hmk2 : m = k
 ·subst hmk2; exact absurd he hne
 ·exact yIF (by omega) (yO7 h1 hm hmk)
theorem yQd {l t : List Int} {k : Nat} {r : Int} (h : yHh l t k r) (he : gt t k = r) : Mx (l ++ [r]) t (k + 1) := by
 obtain ⟨h1, h2, h3⟩ := h; unfold Mx; rw [jp, List.length_singleton]; refine ⟨yH0.2 ⟨(yIe (jr _)).2 h1, h2, by rw [yGe]; exact he⟩, fun m hm => ?_⟩; cases m with
 | zero => omega
 | succ m =>
  obtain ⟨a, b, c⟩ := yH0.1 hm; rw [yGe] at c; have := h3 m ((yIe (jr _)).1 a) b c; omega
theorem yN2 {l t : List Int} {r : Int} (h : yHh l t 0 r) (hne : gt t 0 ≠ r) : Mx (l ++ [r]) t 0 := by
 obtain ⟨h1, h2, h3⟩ := h; unfold Mx; rw [jp, List.length_singleton]; refine ⟨yIW _ _ _, fun m hm => ?_⟩; cases m with
 | zero => omega
 | succ m =>
  obtain ⟨a, b, c⟩ := yH0.1 hm; rw [yGe] at c; have := h3 m ((yIe (jr _)).1 a) b c; obtain rfl : m = 0 := by omega
  exact absurd c hne
def yHM (l t : List Int) : Bool := (List.range (l.length + 1)).any fun p => yAj l t p
theorem yEs {l t : List Int} : yHM l t = true ↔ ∃ p, yAj l t p = true := by
 unfold yHM; rw [List.any_eq_true]; constructor
 ·rintro ⟨p, _, h⟩; exact ⟨p, h⟩
 ·rintro ⟨p, h⟩; exact ⟨p, List.mem_range.2 (by have := (yAs.1 h).1; omega), h⟩
theorem yQm {l t : List Int} {r : Int} {k : Nat} (h : Mx (l ++ [r]) t k) : yHM (l ++ [r]) t = (yHM l t || decide (k = t.length)) := by
 rw [Bool.eq_iff_iff, Bool.or_eq_true, decide_eq_true_eq, yEs, yEs]; have hl : (l ++ [r]).length = l.length + 1 := by simp
 constructor
 ·rintro ⟨p, hp⟩; obtain ⟨a, b⟩ := yAs.1 hp; by_cases hlt : p + t.length ≤ l.length
  ·exact .inl ⟨p, yAs.2 ⟨hlt, fun j hj => by rw [← b j hj, yER (by omega)]⟩⟩
  ·have hm : isM (l ++ [r]) t (l ++ [r]).length t.length := (yFG (jr _)).2 ⟨by omega, by rw [show (l ++ [r]).length - t.length = p by omega]; exact hp⟩; have h1 := h.2 _ hm; have h2 := h.1.2.1; exact .inr (by omega)
 ·rintro (⟨p, hp⟩ | hk)
  ·obtain ⟨a, b⟩ := yAs.1 hp; exact ⟨p, yAs.2 ⟨by omega, fun j hj => by rw [yER (by omega)]; exact b j hj⟩⟩
  ·subst hk; exact ⟨_, ((yFG (jr _)).1 h.1).2⟩
def yCt (l t : List Int) : Bool := (List.range (min l.length t.length)).any fun j => gt t j != gt l j
theorem yJO (l t : List Int) (r : Int) : yCt (l ++ [r]) t = (yCt l t || (decide (l.length < t.length) && (gt t l.length != r))) := by
 rw [Bool.eq_iff_iff, Bool.or_eq_true, jb, decide_eq_true_eq]; unfold yCt; simp only [List.any_eq_true, List.mem_range, bne_iff_ne, jp, List.length_singleton]; constructor
 ·rintro ⟨j, hj, hne⟩; by_cases hjl : j < l.length
  ·exact .inl ⟨j, by omega, by rw [yER hjl] at hne; exact hne⟩
  ·obtain rfl : j = l.length := by omega
   rw [yGe] at hne; exact .inr ⟨by omega, hne⟩
 ·rintro (⟨j, hj, hne⟩ | ⟨hlt, hne⟩)
  ·exact ⟨j, by omega, by rw [yER (by omega)]; exact hne⟩
  ·exact ⟨l.length, by omega, by rw [yGe]; exact hne⟩
def yBD (l t : List Int) (num : Nat) : Nat := min l.length (max num t.length + 1)
theorem yID (l t : List Int) (r : Int) (num : Nat) : yBD (l ++ [r]) t num = if yBD l t num ≤ max num t.length then yBD l t num + 1 else yBD l t num := by unfold yBD; rw [jp, List.length_singleton]; split <;> omega
theorem yKI {l : List Int} : Mx l [] 0 := ⟨yIW _ _ _, fun _ h => h.2.1⟩
theorem yJG (l : List Int) : yHM l [] = true := yEs.2 ⟨0, yAs.2 ⟨by simp, fun j hj => by simp at hj⟩⟩
def fdB (c : Int) (l t : List Int) : Bool := decide (1 ≤ c ∧ c ≤ 5) && yHM l t
theorem yS4 (l t : List Int) (r : Int) (num : Nat) : yCt (l ++ [r]) t = (yCt l t || (decide (yBD l t num < t.length) && (gt t (yBD l t num) != r))) := by
 rw [yJO]; by_cases h : l.length < t.length
 ·have e : yBD l t num = l.length := by unfold yBD; omega
  rw [e]
 ·have e : ¬ yBD l t num < t.length := by unfold yBD; omega
  simp [h, e]
theorem yKr (t : List Int) (num : Nat) : yBD [] t num = 0 := by simp [yBD]
theorem yLu (t : List Int) : yCt [] t = false := by simp [yCt]
theorem yRr (t : List Int) : yHM [] t = decide (t.length = 0) := by
 rw [Bool.eq_iff_iff, yEs, decide_eq_true_eq]; constructor
 ·rintro ⟨p, hp⟩; have := (yAs.1 hp).1; simp at this; have := this.2; simp [this]
 ·intro h; exact ⟨0, yAs.2 ⟨by simp [h], fun j hj => by omega⟩⟩
end Gim
namespace Go.Proofs.YtkhejkfjhddobaaGreatDoor
open Go.RowKit Gim
theorem yJP : (Tryz.prog.info? 21).map (fun i => (i.zero, i.size, i.bytes)) = some (some (.int .i32 0), 1, 4) := by kernel_rfl
theorem yNS (s : ByteArray) (w : World) (hs : s.size ≤ 1099511627776) :
  Calls Tryz.prog 125 #[.string s] w (yIJ w 21 .i32 (rs s)) := by
 obtain ⟨i0, hi, hz0, hz1, hz2⟩ := info_parts yJP; go_enter Tryz.func125, Tryz.ntmps125; go_wp2_with (at_make; refine wpList_make_own _ rfl _ _ 138 rfl w.heap.size 21 i0 (.int .i32 0) 1 Tryz.underlying138 hi hz0 hz1 _ _ _ s.size rfl rfl (by omega) (by rw [hz2]; omega) (by unfold maxLen; omega) (jr _) ?_; intro w1 hown1 hgrow1); have hb1 : Below w.heap.size w w1 := (jf _ _).grown hgrow1 (jr _) (fun k hk => by cases hk); have hz := hb1.size; go_loopw [3] (fun v wr => ∃ (pos : Nat) (done : List Int), wr.heap[w1.heap.size]? = some (.stringIter s pos) ∧ Row wr w.heap.size 21 .i32 v done ∧ Below w.heap.size w wr ∧ Hid (done ++ yDX s pos = rs s) ∧ done.length ≤ pos) (fun _ wr => s.size - wr.iterPos w1.heap.size)
 case atStart => exact ⟨0, [], World.iter_heap w1 s 0, hown1.alloc _, hb1.alloc hz _, rfl, by simp⟩
 case round =>
  obtain ⟨pos, done, hit, hown, hbw, HS, hlen⟩ := hrel; have hpos0 := iterPos_of hit; by_cases hp : pos < s.size
  ·obtain ⟨W1, hnx, hw1⟩ := yDY (P := Tryz.prog) hit hp; have hwd := Lib.decode_width_pos s pos hp; have hown2 := hw1.owns _ _ _ _ _ _ hown; have hbw2 := hw1.below _ _ hbw hz; have hz2' := hbw2.size; clear hit hown hbw; go_wp2_with (at_builtin; refine wpList_append_own _ rfl _ _ 138 rfl w.heap.size 21 i0 (.int .i32 0) 1 4 Tryz.underlying138 hi hz0 hz1 hz2 rfl (by decide) _ _ _ rfl (hown2.alloc _) ⟨W1.heap.size, 0, none⟩ 1 1 [.int .i32 ((Utf8.decode s pos).1 : Int)] rfl rfl (yHP _ _ _) (fun x hx => by simp at hx; rcases hx with rfl; rfl) (by unfold maxLen; omega) (by omega) (by simp; omega) ?_; intro v' w3 hown' hgrow3 hnil3); have hit3 := yIw (hown2.alloc _) hgrow3 ((Below.heap_alloc _ _ _ (lt_of_block hw1.it)).trans hw1.it); have hbw3 : Below w.heap.size w w3 := (hbw2.alloc hz2' _).grown hgrow3 (by simp; omega) (fun j hj => (hown2.lt _ hj).1); go_roundw
   case rel => exact ⟨_, done ++ [_], hit3, by unfold Row; simpa using hown', hbw3, by have := HS.out; rw [yC9 hp] at this; simpa [Hid] using this, by simp; omega⟩
   case measure => rw [iterPos_of hit3, hpos0]; omega
  ·have hnx : ∀ ty, (Instr.next (.pointer (some ⟨w1.heap.size, 0, none⟩)) true ty).run Tryz.prog wr = _ := fun ty => Lib.run_next_end_at wr w1.heap.size s pos ty hit hp
   have e : done = rs s := by have := HS.out; rw [yDk hp] at this; simpa using this
   subst e; go_wp2; go_ret; exact ⟨_, rfl, hown, hbw⟩
theorem yCp (s : ByteArray) (w : World) (hs : s.size ≤ 1099511627776) :
  Calls Tryz.prog 71 #[.string s] w (yIJ w 21 .i32 (rs s)) := by
 obtain ⟨i0, hi, hz0, hz1, hz2⟩ := info_parts yJP; go_enter Tryz.func71, Tryz.ntmps71; go_wp2; go_loopw [3] (fun v wr => ∃ (pos : Nat) (done : List Int), wr.heap[w.heap.size]? = some (.stringIter s pos) ∧ Row wr w.heap.size 21 .i32 v done ∧ Below w.heap.size w wr ∧ Hid (done ++ yDX s pos = rs s) ∧ done.length ≤ pos) (fun _ wr => s.size - wr.iterPos w.heap.size)
 case atStart => exact ⟨0, [], World.iter_heap w s 0, World.ownsRow_nil _ _ _ _, (jf _ _).alloc (jr _) _, rfl, by simp⟩
 case round =>
  obtain ⟨pos, done, hit, hown, hbw, HS, hlen⟩ := hrel; have hpos0 := iterPos_of hit; by_cases hp : pos < s.size
  ·obtain ⟨W1, hnx, hw1⟩ := yDY (P := Tryz.prog) hit hp; have hwd := Lib.decode_width_pos s pos hp; have hown2 := hw1.owns _ _ _ _ _ _ hown; have hbw2 := hw1.below _ _ hbw (jr _); have hz2' := hbw2.size; clear hit hown hbw; go_wp2_with (at_builtin; refine wpList_append_own _ rfl _ _ 138 rfl w.heap.size 21 i0 (.int .i32 0) 1 4 Tryz.underlying138 hi hz0 hz1 hz2 rfl (by decide) _ _ _ rfl (hown2.alloc _) ⟨W1.heap.size, 0, none⟩ 1 1 [.int .i32 ((Utf8.decode s pos).1 : Int)] rfl rfl (yHP _ _ _) (fun x hx => by simp at hx; rcases hx with rfl; rfl) (by unfold maxLen; omega) (by omega) (by simp; omega) ?_; intro v' w3 hown' hgrow3 hnil3); have hit3 := yIw (hown2.alloc _) hgrow3 ((Below.heap_alloc _ _ _ (lt_of_block hw1.it)).trans hw1.it); have hbw3 : Below w.heap.size w w3 := (hbw2.alloc hz2' _).grown hgrow3 (by simp; omega) (fun j hj => (hown2.lt _ hj).1); go_roundw
   case rel => exact ⟨_, done ++ [_], hit3, by unfold Row; simpa using hown', hbw3, by have := HS.out; rw [yC9 hp] at this; simpa [Hid] using this, by simp; omega⟩
   case measure => rw [iterPos_of hit3, hpos0]; omega
  ·have hnx : ∀ ty, (Instr.next (.pointer (some ⟨w.heap.size, 0, none⟩)) true ty).run Tryz.prog wr = _ := fun ty => Lib.run_next_end_at wr w.heap.size s pos ty hit hp
   have e : done = rs s := by have := HS.out; rw [yDk hp] at this; simpa using this
   subst e; go_wp2; go_ret; exact ⟨_, rfl, hown, hbw⟩
theorem yKP (a0 : Option Addr) (n0 c0 : Nat) (l : List Int) (a1 : Option Addr) (n1 c1 : Nat) (t : List Int) (n : Nat) (w : World)
  (h0 : Rd w .i32 a0 n0 c0 l) (h1 : Rd w .i32 a1 n1 c1 t) (hn : n ≤ 1099511627776) (hl : n0 ≤ 1099511627776) (ht : n1 ≤ 1099511627776) :
  Calls Tryz.prog 128 #[.slice a0 n0 c0, .slice a1 n1 c1, .int .i64 n] w fun e w' => e = .returned (.bool (yAj l t n)) ∧ yAJ w w' := by
 have H0 := jh h0.len; have H1 := jh h1.len; by_cases hlt : n + n1 ≤ n0
 ·have hlt' : ¬ (n0 : Int) < n + n1 := by omega
  go_enter Tryz.func128, Tryz.ntmps128; go_wp2; go_loopw [7] (fun i wr => ∃ k : Nat, k ≤ n1 ∧ i = .int .i64 k ∧ Hid (∀ j, j < k → gt l (n + j) = gt t j) ∧ yAJ w wr) (fun i _ => n1 - (intOf i).toNat)
  case atStart => exact ⟨0, by omega, rfl, fun j hj => by omega, yAJ.refl _⟩
  case round =>
   obtain ⟨k, hk, rfl, Hall, hbw⟩ := hrel; by_cases hkn : k < n1
   ·obtain ⟨b0, o0, rfl, hb0, hc0⟩ := (h0.below (hbw.below _)).cell 0 (by omega); obtain ⟨b1, o1, rfl, hb1, hc1⟩ := (h1.below (hbw.below _)).cell 0 (by omega); have hx := hc0 (n + k) (by omega); have hy := hc1 k hkn; have hix : (n : Int) + k < n0 := by omega
    clear hc0 hc1; cases he : (gt l (n + k) != gt t k)
    ·go_wp2; go_quiet (fail); go_wp2; go_roundw
     case rel => exact ⟨k + 1, by omega, by go_num, fun j hj => by
      by_cases hjk : j < k
      ·exact Hall.out j hjk
      ·obtain rfl : j = k := by omega
       simpa using he, hbw.drewN _⟩
     case measure => simp [intOf]; omega
    ·go_wp2; go_quiet (fail); go_wp2; go_ret; exact ⟨by
      have : yAj l t n = false := by
       cases hs : yAj l t n
       ·rfl
       ·have := (yAs.1 hs).2 k (by rw [H1.out]; exact hkn); simp at he; exact absurd this he
      rw [this]; rfl, hbw.drewN _⟩
   ·have : yAj l t n = true := yAs.2 ⟨by rw [H0.out, H1.out]; exact hlt, fun j hj => Hall.out j (by rw [H1.out] at hj; omega)⟩; have HT := jh this; clear this; go_wp2; go_ret; exact ⟨by rw [HT.out]; rfl, hbw⟩
 ·have hlt' : (n0 : Int) < n + n1 := by omega
  have : yAj l t n = false := by
   cases hs : yAj l t n
   ·rfl
   ·have := (yAs.1 hs).1; rw [H0.out, H1.out] at this; omega
  have HT := jh this; clear this; go_enter Tryz.func128, Tryz.ntmps128; go_wp2; go_ret; exact ⟨by rw [HT.out]; rfl, yAJ.refl _⟩
theorem yDT : (Tryz.prog.info? 3).map (fun i => (i.zero, i.size, i.bytes)) = some (some (.int .i64 0), 1, 8) := by kernel_rfl
theorem yKv (a0 : Option Addr) (n0 c0 : Nat) (t : List Int) (w : World) (h0 : Rd w .i32 a0 n0 c0 t) (hl : n0 ≤ 1099511627776) :
  Calls Tryz.prog 124 #[.slice a0 n0 c0] w (yDJ w 3 .i64 (brs t)) := by
 obtain ⟨i0, hi, hz0, hz1, hz2⟩ := info_parts yDT; have H0 := jh h0.len; go_enter Tryz.func124, Tryz.ntmps124; go_wp2_with (at_make; refine wpList_make_full _ rfl _ _ 53 rfl w.heap.size 3 i0 (.int .i64 0) 1 Tryz.underlying53 hi hz0 hz1 _ _ _ _ n0 rfl rfl rfl rfl (by rw [hz2]; omega) (by unfold maxLen; omega) (jr _) ?_; intro w1 hown1 hgrow1); have hb1 : Below w.heap.size w w1 := (jf _ _).grown hgrow1 (jr _) (fun k hk => by cases hk); rw [yRa] at hown1; have hrow1 : Row w1 w.heap.size 3 .i64 (.slice (some ⟨w.heap.size, 0, none⟩) n0 n0) (yCw t 1) := by unfold Row; rw [yA3, yNI, H0.out]; exact hown1
 clear hown1 hgrow1; go_loopw [4] (fun v wr => ∃ m : Nat, v = .int .i64 ((m : Int) + 1) ∧ Row wr w.heap.size 3 .i64 (.slice (some ⟨w.heap.size, 0, none⟩) n0 n0) (yCw t (m + 1)) ∧ Below w.heap.size w wr) (fun v _ => n0 - (intOf v).toNat)
 case atStart => exact ⟨0, rfl, hrow1, hb1⟩
 case round =>
  obtain ⟨m, rfl, hrow, hbw⟩ := hrel; by_cases hm : m + 1 < n0
  ·have hm' : (m : Int) + 1 < n0 := by omega
   have hlen := jh (yA3 t (m + 1)); have hc : wr.cell? ⟨w.heap.size, m, none⟩ = some (.int .i64 (br t (m + 1) : Int)) := by rw [hrow.cell (by rw [hlen.out, H0.out]; omega)]; have := yCf (t := t) (n := m + 1) (j := m) (by rw [H0.out]; omega); simp [gt, this]
   have hbr := yHk (t := t) (n := m + 1) (by omega); obtain ⟨wo, rfl⟩ : ∃ wo : World, wo = wr := ⟨_, rfl⟩
   obtain ⟨q0, hq0⟩ : ∃ q, q = br t (m + 1) := ⟨_, rfl⟩
   rw [← hq0] at hc hbr; have HQ := jh hq0; clear hq0; have HC := jh (show yNy t (m + 1) q0 (gt t (m + 1)) by rw [HQ.out]; exact yN0 _ (by omega)); go_wp2; clear hc HQ hbr; go_loopw [5] (fun v wi => ∃ q : Nat, v = .int .i64 q ∧ Hid (yNy t (m + 1) q (gt t (m + 1))) ∧ Row wi w.heap.size 3 .i64 (.slice (some ⟨w.heap.size, 0, none⟩) n0 n0) (yCw t (m + 1)) ∧ Below w.heap.size w wi) (fun v _ => (intOf v).toNat)
   case atStart => exact ⟨q0, rfl, HC, hrow, hbw⟩
   case round =>
    clear hrow hbw HC; obtain ⟨q, rfl, HC, hrow, hbw⟩ := hrel; have hqm : q < m + 1 := HC.out.2.1; obtain ⟨b0, o0, rfl, hb0, hc0⟩ := (h0.below hbw).cell 0 (by omega); have hx := hc0 (m + 1) hm; have hy := hc0 q (by omega); have hfr := hrow.free (m + 1); have hold := hrow.cell (j := m + 1) (by rw [hlen.out, H0.out]; omega); have hnn : (0 : Int) ≤ m := by omega
    clear hc0; by_cases heq : gt t q = gt t (m + 1)
    ·have he : (gt t q == gt t (m + 1)) = true := by simpa using heq
     have hne : (gt t q != gt t (m + 1)) = false := by simpa using heq
     have HB := jh (yR3 HC.out heq); have HS : Hid (∀ n, Row ((wr.drewN n).setCell ⟨w.heap.size, m + 1, none⟩ (.int .i64 ((q : Int) + 1))) w.heap.size 3 .i64 (.slice (some ⟨w.heap.size, 0, none⟩) n0 n0) (yCw t (m + 1 + 1))) := fun n => by have := (hrow.drewN n).set' (m + 1) ((q : Int) + 1); rwa [show (yCw t (m + 1)).set (m + 1) ((q : Int) + 1) = yCw t (m + 1 + 1) from by rw [show ((q : Int) + 1) = ((br t (m + 1 + 1) : Nat) : Int) from by rw [HB.out]; omega]; exact yJy (by rw [H0.out]; exact hm)] at this
     clear heq; by_cases hq : 0 < q
     ·have hd : decide ((0 : Int) < (q : Int)) = true := by simpa using hq
      go_wp2; go_quiet (fail); go_wp2; go_quiet (fail); go_wp2; go_roundw
      case rel => exact ⟨m + 1, by go_num, HS.out _, (below_drewN hbw _).setCell (jr _) _⟩
      case measure => simp [intOf]; omega
     ·obtain rfl : q = 0 := by omega
      rw [Nat.add_zero] at hy; go_wp2; go_quiet (fail); go_wp2; go_quiet (fail); go_wp2; go_roundw
      case rel => exact ⟨m + 1, by go_num, HS.out _, (below_drewN hbw _).setCell (jr _) _⟩
      case measure => simp [intOf]; omega
    ·have he : (gt t q == gt t (m + 1)) = false := by simpa using heq
     have hne : (gt t q != gt t (m + 1)) = true := by simpa using heq
     by_cases hq : 0 < q
     ·have hc : wr.cell? ⟨w.heap.size, q - 1, none⟩ = some (.int .i64 (br t q : Int)) := by rw [hrow.cell (by rw [hlen.out, H0.out]; omega)]; have := yCf (t := t) (n := m + 1) (j := q - 1) (by rw [H0.out]; omega); simp [gt, this, show q - 1 < m + 1 by omega, show q - 1 + 1 = q by omega]
      have HC2 := jh (yQl HC.out hq heq); have hbl := yHk (t := t) hq; have hd : decide ((0 : Int) < (q : Int)) = true := by simpa using hq
      clear heq; go_wp2; go_quiet (fail); go_wp2; go_roundw
      case rel => exact ⟨br t q, rfl, HC2, hrow.drewN _, below_drewN hbw _⟩
      case measure => simp [intOf]; omega
     ·obtain rfl : q = 0 := by omega
      rw [Nat.add_zero] at hy; have HB := jh (yQb HC.out heq); have HS : Hid (∀ n, Row ((wr.drewN n).setCell ⟨w.heap.size, m + 1, none⟩ (.int .i64 0)) w.heap.size 3 .i64 (.slice (some ⟨w.heap.size, 0, none⟩) n0 n0) (yCw t (m + 1 + 1))) := fun n => by have := (hrow.drewN n).set' (m + 1) 0; rwa [show (yCw t (m + 1)).set (m + 1) 0 = yCw t (m + 1 + 1) from by rw [show (0 : Int) = ((br t (m + 1 + 1) : Nat) : Int) from by rw [HB.out]; rfl]; exact yJy (by rw [H0.out]; exact hm)] at this
      clear heq; go_wp2; go_quiet (fail); go_wp2; go_quiet (fail); go_wp2; go_roundw
      case rel => exact ⟨m + 1, by go_num, HS.out _, (below_drewN hbw _).setCell (jr _) _⟩
      case measure => simp [intOf]; omega
  ·have hm' : ¬ (m : Int) + 1 < n0 := by omega
   have HD := jh (yNR (t := t) (n := m + 1) (by rw [H0.out]; omega)); go_wp2; go_ret; rw [HD.out] at hrow; have HLN := jh (show (brs t).length = n0 by rw [yIC, H0.out]); exact ⟨w.heap.size, by rw [HLN.out]; rfl, by rw [HLN.out]; exact hrow, hbw⟩
theorem yTr (s : ByteArray) (w : World) (hs : s.size ≤ 1099511627776) :
  Calls Tryz.prog 101 #[.string s] w (yDJ w 3 .i64 (brs (rs s))) := by have l1 := yAX s; go_enter Tryz.func101, Tryz.ntmps101; go_wp2_with fail; refine (yNS _ _ hs).mono ?_; rintro e w1 ⟨v1, rfl, hr1, hb1⟩; obtain ⟨a1, c1, rfl, rd1⟩ := hr1.rd; go_wp2_with fail; refine (yKv _ _ _ _ _ rd1 (by omega)).mono ?_; rintro e w2 ⟨g2, rfl, hr2, hb2⟩; go_wp2_with fail; go_ret; exact ⟨g2, rfl, hr2.mono hb1.size, hb1.trans (hb2.mono hb1.size)⟩
end Go.Proofs.YtkhejkfjhddobaaGreatDoor
