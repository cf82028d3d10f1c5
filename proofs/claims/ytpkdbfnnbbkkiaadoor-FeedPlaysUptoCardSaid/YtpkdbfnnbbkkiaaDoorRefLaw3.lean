/- The document's characters are Go's, one after another: plain. -/
import Derived.Test.YtpkdbfnnbbkkiaaDoorRefLaw2
namespace Gim
open Go Go.Lib
theorem decB_shape (t : List Int) (h : 1 ≤ t.length) (hb : ∀ j, bn t j < 256) : Ch ((decB t).1 : Int) ∧ ((decB t).1 < 128 → (decB t).2 = 1) ∧ 1 ≤ (decB t).2 ∧ (decB t).2 ≤ 4 := by
  have h0 := hb 0
  rw [decB, if_neg (by omega)]
  unfold Ch
  rcases decodeN_shape t.length (bn t 0) (bn t 1) (bn t 2) (bn t 3) with ⟨c, e⟩ | ⟨c1, c2, c3, cv, e⟩ | ⟨c1, c2, c3, c4, cv, cs, e⟩ | ⟨c1, c2, c3, c4, c5, cv, cw, e⟩ | e
  all_goals
    rw [e]
    dsimp only
    exact ⟨by omega, fun _ => by omega, by omega, by omega⟩
/-- what lies at a place of bytes -/
inductive Step (xs : List Int) (p : Nat) : Prop
  | whole (m : Nat) (hF : frontB xs p = (m, m)) (h1 : 1 ≤ m) (h4 : m ≤ 4) (hl : p + m ≤ xs.length) (hf : fullB (xs.drop p) = true) (hv : validB (xs.drop p) = true) (hd : (decB (xs.drop p)).2 = m) (hV : ((decB (xs.drop p)).1 : Int) = valB ((xs.drop p).take m)) (hok : ¬ ((decB (xs.drop p)).1 = 65533 ∧ m ≤ 1))
  | waits (k n : Nat) (hF : frontB xs p = (k, n)) (hk : p + k = xs.length) (hkn : k < n) (hf : fullB (xs.drop p) = false) (hd : decB (xs.drop p) = (65533, 1)) (hp : pieceN xs p = k)
  | wrong (k n : Nat) (hF : frontB xs p = (k, n)) (hk : p + k < xs.length) (hkn : n = 0 ∧ k = 0 ∨ 1 ≤ k ∧ k < n) (hf : fullB (xs.drop p) = true) (hv : validB (xs.drop p) = false) (hd : decB (xs.drop p) = (65533, 1)) (hp : pieceN xs p = k)
theorem step {xs : List Int} {p : Nat} (hb : ∀ x ∈ xs, 0 ≤ x ∧ x ≤ 255) (hp : p < xs.length) : Step xs p := by
  have hbd : ∀ x ∈ xs.drop p, 0 ≤ x ∧ x ≤ 255 := fun x hx => hb x (List.mem_of_mem_drop hx)
  have hl : (xs.drop p).length = xs.length - p := List.length_drop
  have hfr := frontB_drop (xs := xs) (p := p) (by omega)
  rcases alike (by omega) (bn_lt hbd) with ⟨n, hF, h1, h4, hle, hf, hd, hv, hok⟩ | ⟨n, hF, hlt, hf, hd⟩ | ⟨k, n, hF, hk, hf, hd⟩
  · exact .whole n (hfr ▸ hF) h1 h4 (by omega) hf (by unfold validB; rw [hd, decide_eq_false hok]; rfl) hd hv hok
  · rw [hfr] at hF
    exact .waits _ n hF (by omega) hlt hf hd (piece_front hb hp hF (.inl (by omega)))
  · rw [hfr] at hF
    refine .wrong k n hF (by omega) (by omega) hf (by unfold validB; rw [hd]; rfl) hd (piece_front hb hp hF (by omega))
/-- the characters: place, character, width -/
def chF (xs : List Int) : Nat → Nat → List (Int × Int × Int)
  | 0, _ => []
  | f + 1, p => if p < xs.length then ((p : Int), ((decB (xs.drop p)).1 : Int), ((decB (xs.drop p)).2 : Int)) :: chF xs f (p + (decB (xs.drop p)).2) else []
def chAt (xs : List Int) (p : Nat) : List (Int × Int × Int) := chF xs (xs.length - p) p
def chB (xs : List Int) : List (Int × Int × Int) := chAt xs 0
theorem chF_end {xs : List Int} {p : Nat} : ∀ f, ¬ p < xs.length → chF xs f p = []
  | 0, _ => rfl
  | f + 1, h => by rw [chF, if_neg h]
theorem chF_fuel {xs : List Int} : ∀ (f g p : Nat), xs.length ≤ p + f → xs.length ≤ p + g → chF xs f p = chF xs g p
  | 0, g, p, h, _ => by rw [chF_end g (by omega)]; rfl
  | f + 1, g, p, h, h2 => by
    by_cases hc : p < xs.length
    · obtain ⟨g, rfl⟩ : ∃ g', g = g' + 1 := ⟨g - 1, by omega⟩
      have hw := decB_width (xs := xs.drop p) (by rw [List.length_drop]; omega)
      rw [chF, chF, if_pos hc, if_pos hc, chF_fuel f g _ (by omega) (by omega)]
    · rw [chF_end _ hc, chF_end _ hc]
theorem chAt_next {xs : List Int} {p : Nat} (h : p < xs.length) : chAt xs p = ((p : Int), ((decB (xs.drop p)).1 : Int), ((decB (xs.drop p)).2 : Int)) :: chAt xs (p + (decB (xs.drop p)).2) := by
  unfold chAt
  have hw := decB_width (xs := xs.drop p) (by rw [List.length_drop]; omega)
  obtain ⟨f, hf⟩ : ∃ f, xs.length - p = f + 1 := ⟨xs.length - p - 1, by omega⟩
  rw [hf, chF, if_pos h, chF_fuel f (xs.length - (p + (decB (xs.drop p)).2)) _ (by omega) (by omega)]
theorem chAt_end {xs : List Int} {p : Nat} (h : ¬ p < xs.length) : chAt xs p = [] := chF_end _ h
theorem chF_length {xs : List Int} : ∀ (f p : Nat), (chF xs f p).length ≤ f
  | 0, _ => Nat.le_refl _
  | f + 1, p => by
    rw [chF]
    split
    · have := chF_length (xs := xs) f (p + (decB (xs.drop p)).2)
      simp only [List.length_cons]
      omega
    · simp
theorem chB_length (xs : List Int) : (chB xs).length ≤ xs.length := chF_length _ _
/-- bytes as Lean's -/
def unb (xs : List Int) : List UInt8 := xs.map fun n => UInt8.ofNat n.toNat
theorem bz_unb {xs : List Int} (h : ∀ x ∈ xs, 0 ≤ x ∧ x ≤ 255) : bz (unb xs) = xs := by
  unfold bz unb
  rw [List.map_map]
  conv => rhs; rw [← List.map_id xs]
  refine List.map_congr_left fun x hx => ?_
  have := h x hx
  simp only [Function.comp, id, UInt8.toNat_ofNat', Nat.reducePow]
  omega
theorem dec_str {xs : List Int} (h : ∀ x ∈ xs, 0 ≤ x ∧ x ≤ 255) {p : Nat} (hp : p < xs.length) : Utf8.decode (strOfNums xs) p = decB (xs.drop p) := by
  rw [← decodeL_drop, show (strOfNums xs).data.toList = unb xs from rfl, show (unb xs).drop p = unb (xs.drop p) from List.map_drop.symm]
  rw [← decB_bz (l := unb (xs.drop p)) (by unfold unb; simp; omega), bz_unb (fun x hx => h x (List.mem_of_mem_drop hx))]
theorem prAt_ch {xs : List Int} (h : ∀ x ∈ xs, 0 ≤ x ∧ x ≤ 255) : ∀ (f p : Nat), xs.length ≤ p + f → prAt (strOfNums xs) p = (chAt xs p).map fun c => (c.1.toNat, c.2.1)
  | 0, p, hf => by rw [prAt_end (by rw [strOfNums_size]; omega), chAt_end (by omega)]; rfl
  | f + 1, p, hf => by
    by_cases hp : p < xs.length
    · have hw := decB_width (xs := xs.drop p) (by rw [List.length_drop]; omega)
      rw [prAt_next (by rw [strOfNums_size]; exact hp), chAt_next hp, dec_str h hp, prAt_ch h f _ (by omega)]
      rfl
    · rw [prAt_end (by rw [strOfNums_size]; omega), chAt_end (by omega)]; rfl
theorem rsAt_ch {xs : List Int} (h : ∀ x ∈ xs, 0 ≤ x ∧ x ≤ 255) : ∀ (f p : Nat), xs.length ≤ p + f → rsAt (strOfNums xs) p = (chAt xs p).map fun c => c.2.1
  | 0, p, hf => by rw [rsAt_end (by rw [strOfNums_size]; omega), chAt_end (by omega)]; rfl
  | f + 1, p, hf => by
    by_cases hp : p < xs.length
    · have hw := decB_width (xs := xs.drop p) (by rw [List.length_drop]; omega)
      rw [rsAt_next (by rw [strOfNums_size]; exact hp), chAt_next hp, dec_str h hp, rsAt_ch h f _ (by omega)]
      rfl
    · rw [rsAt_end (by rw [strOfNums_size]; omega), chAt_end (by omega)]; rfl
theorem str_bz (s : ByteArray) : strOfNums (bz s.data.toList) = s := Lz.strOfNums_map _
theorem bz_by (l : List UInt8) : ∀ x ∈ bz l, 0 ≤ x ∧ x ≤ 255 := fun _ h => bz_byte h
theorem rs_ch_eq (s : ByteArray) : rs s = (chB (bz s.data.toList)).map fun c => c.2.1 := by
  have := rsAt_ch (bz_by s.data.toList) (bz s.data.toList).length 0 (by omega)
  rw [str_bz] at this
  exact this
theorem prAt_ch_eq (s : ByteArray) : prAt s 0 = (chB (bz s.data.toList)).map fun c => (c.1.toNat, c.2.1) := by
  have := prAt_ch (bz_by s.data.toList) (bz s.data.toList).length 0 (by omega)
  rw [str_bz] at this
  exact this
/-- the document's way to a place -/
def stepQ (xs : List Int) (s : Int × Int × Int) (c : Int × Int × Int) : Int × Int × Int :=
  let e := decide (c.2.1 = 10) || (decide (c.2.1 = 13) && !(decide (c.1 + c.2.2 < xs.length) && decide (gt xs (c.1 + c.2.2).toNat = 10)))
  (s.1 + 1, if e then s.2.1 + 1 else s.2.1, if e then 1 else s.2.2 + 1)
/-- bounds of the characters of bytes -/
structure ChI (n : Nat) (c : Int × Int × Int) : Prop where
  at0 : 0 ≤ c.1
  ch : Ch c.2.1
  w1 : 1 ≤ c.2.2
  w4 : c.2.2 ≤ 4
  hi : c.1 + c.2.2 ≤ n
  one : c.2.1 < 128 → c.2.2 = 1
theorem chAt_inv {xs : List Int} (h : ∀ x ∈ xs, 0 ≤ x ∧ x ≤ 255) : ∀ (f p : Nat), xs.length ≤ p + f → ∀ c ∈ chAt xs p, ChI xs.length c
  | 0, p, hf, c, hc => by rw [chAt_end (by omega)] at hc; cases hc
  | f + 1, p, hf, c, hc => by
    by_cases hp : p < xs.length
    · rw [chAt_next hp] at hc
      have hl : (xs.drop p).length = xs.length - p := List.length_drop
      have hs := decB_shape (xs.drop p) (by omega) (bn_lt (fun x hx => h x (List.mem_of_mem_drop hx)))
      have hle := decB_le (xs := xs.drop p) (by omega)
      rcases List.mem_cons.1 hc with rfl | hc
      · exact ⟨by simp, hs.1, by simp only []; omega, by simp only []; omega, by simp only []; omega, fun k => by have := hs.2.1; simp only [] at k ⊢; omega⟩
      · exact chAt_inv h f _ (by omega) c hc
    · rw [chAt_end hp] at hc; cases hc
theorem chB_inv {xs : List Int} (h : ∀ x ∈ xs, 0 ≤ x ∧ x ≤ 255) : ∀ c ∈ chB xs, ChI xs.length c := chAt_inv h xs.length 0 (by omega)
theorem stepQ_eq {xs : List Int} {n : Nat} {c : Int × Int × Int} (hc : ChI n c) (s : Int × Int × Int) : stepQ xs s c = stepP xs s (c.1.toNat, c.2.1) := by
  obtain ⟨h0, _, h1, h4, hi, ho⟩ := hc
  unfold stepQ stepP lineEnd
  by_cases h13 : c.2.1 = 13
  · have hw := ho (by omega)
    rw [hw]
    have e1 : (c.1 + 1).toNat = c.1.toNat + 1 := by omega
    have e2 : decide (c.1 + 1 < (xs.length : Int)) = decide (c.1.toNat + 1 < xs.length) := by
      congr 1
      exact propext (by omega)
    rw [e1, e2]
  · rw [decide_eq_false h13]
    simp
theorem placeB_ch {xs : List Int} (h : ∀ x ∈ xs, 0 ≤ x ∧ x ≤ 255) (m : Nat) : placeB xs m = (chB (xs.take m)).foldl (stepQ xs) (0, 1, 1) := by
  have hb : ∀ x ∈ xs.take m, 0 ≤ x ∧ x ≤ 255 := fun x hx => h x (List.mem_of_mem_take hx)
  unfold placeB
  rw [prAt_ch hb (xs.take m).length 0 (by omega), List.foldl_map]
  have hi := chB_inv hb
  unfold chB at hi ⊢
  generalize chAt (xs.take m) 0 = l at hi ⊢
  generalize ((0 : Int), (1 : Int), (1 : Int)) = s
  induction l generalizing s with
  | nil => rfl
  | cons c l ih =>
    rw [List.foldl_cons, List.foldl_cons, stepQ_eq (hi c List.mem_cons_self) s]
    exact ih (fun x hx => hi x (List.mem_cons_of_mem _ hx)) _
end Gim
