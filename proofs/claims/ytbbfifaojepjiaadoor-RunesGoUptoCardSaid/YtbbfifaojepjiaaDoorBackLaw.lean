/- A character's bytes and their beginnings: plain. -/
import Derived.Test.YtbbfifaojepjiaaDoorOrdA
import Derived.Test.YtbbfifaojepjiaaDoorNext2Walk
import Derived.Lib.RuneBytes
import Derived.Lib.DecodeNEq
import Derived.Lib.LazyBuf
namespace Gim
open Go Go.Lib
def fixR (r : Int) : Int := if r < 0 ∨ 1114111 < r ∨ (55296 ≤ r ∧ r ≤ 57343) then 65533 else r
theorem fix_ch (r : Int) : Ch (fixR r) := by unfold fixR Ch; split <;> omega
theorem z_fix (r : Int) : encodeRuneZ r = encodeRuneZ (fixR r) := by
  unfold fixR
  split
  · rw [encodeRuneZ_bad (by omega)]; decide
  · rfl
theorem z_enc {v : Int} (h : Ch v) : encodeRuneZ v = bz (enc v) := by
  have hv := h
  unfold Ch at hv
  obtain ⟨n, rfl, ⟨h1, e⟩ | ⟨h1, h2, e⟩ | ⟨h1, h2, e⟩ | ⟨h1, h2, e⟩⟩ := enc_cases h
  · rw [e, encodeRuneZ_one (by omega) (by omega)]
    simp only [bz, List.map_cons, List.map_nil, UInt8.toNat_ofNat', Nat.reducePow, List.cons.injEq, and_true]
    omega
  · rw [e, encodeRuneZ_two (by omega) (by omega)]
    simp only [bz, List.map_cons, List.map_nil, UInt8.toNat_ofNat', Nat.reducePow, List.cons.injEq, and_true]
    omega
  · rw [e, encodeRuneZ_three (by omega)]
    simp only [bz, List.map_cons, List.map_nil, UInt8.toNat_ofNat', Nat.reducePow, List.cons.injEq, and_true]
    omega
  · rw [e, encodeRuneZ_four (by omega) (by omega)]
    simp only [bz, List.map_cons, List.map_nil, UInt8.toNat_ofNat', Nat.reducePow, List.cons.injEq, and_true]
    omega
theorem decB_bz {l : List UInt8} (h : l ≠ []) : decB (bz l) = decodeL l := by
  have hb : ∀ j, bn (bz l) j = (l.getD j 0).toNat := fun j => by
    unfold bn gt bz
    rw [List.getElem?_map, List.getD_eq_getElem?_getD]
    cases l[j]? <;> simp
  have hn : ¬ (bz l).length = 0 := by rw [bz_length]; exact fun k => h (List.eq_nil_of_length_eq_zero k)
  rw [decodeL_N, decB, if_neg hn, hb, hb, hb, hb, bz_length]
theorem fullN_part {n b0 b1 b2 : Nat} (h : n < firstT b0 % 8) (h1 : 1 < n → accLo (firstT b0 / 16) ≤ b1 ∧ b1 ≤ accHi (firstT b0 / 16)) (h2 : 2 < n → 128 ≤ b2 ∧ b2 ≤ 191) : fullN n b0 b1 b2 = false := by
  unfold fullN
  rw [if_neg (by omega), if_neg (by omega), if_neg (by omega)]
theorem fullN_whole {n b0 b1 b2 : Nat} (h : firstT b0 % 8 ≤ n) : fullN n b0 b1 b2 = true := by
  unfold fullN
  rw [if_pos h]
theorem full1 (a : Nat) : fullB [(a : Int)] = fullN 1 a 0 0 := by simp [fullB, bn, gt]
theorem full2 (a b : Nat) : fullB [(a : Int), b] = fullN 2 a b 0 := by simp [fullB, bn, gt]
theorem full3 (a b c : Nat) : fullB [(a : Int), b, c] = fullN 3 a b c := by simp [fullB, bn, gt]
theorem full4 (a b c d : Nat) : fullB [(a : Int), b, c, d] = fullN 4 a b c := by simp [fullB, bn, gt]
theorem validB_of {xs : List Int} {v : Int} (h : ((decB xs).1 : Int) = v ∧ (decB xs).2 = xs.length) (k : ¬ (v = 65533 ∧ xs.length ≤ 1)) : validB xs = true := by
  unfold validB
  rw [decide_eq_false (by omega)]; rfl
/-- the beginnings of a character's bytes -/
structure Whole (xs : List Int) (v : Int) : Prop where
  len : 1 ≤ xs.length ∧ xs.length ≤ 4
  part : ∀ i, i + 1 < xs.length → fullB (xs.take (i + 1)) = false
  full : fullB xs = true
  dec : ((decB xs).1 : Int) = v ∧ (decB xs).2 = xs.length
  ok : ¬ (v = 65533 ∧ xs.length ≤ 1)
theorem whole {v : Int} (h : Ch v) : Whole (encodeRuneZ v) v := by
  have hv := h
  unfold Ch at hv
  have hz := z_enc h
  have hd := dec_enc h []
  rw [List.append_nil, ← decB_bz (enc_ne h), ← hz, show (enc v).length = (encodeRuneZ v).length by rw [hz, bz_length]] at hd
  have hdec : ((decB (encodeRuneZ v)).1 : Int) = v ∧ (decB (encodeRuneZ v)).2 = (encodeRuneZ v).length := by
    rw [hd]; exact ⟨by simp only []; omega, rfl⟩
  obtain ⟨n, rfl⟩ := Int.eq_ofNat_of_zero_le (show 0 ≤ v by omega)
  refine ⟨encodeRuneZ_length n, ?_, ?_, hdec, ?_⟩
  all_goals clear hz hd hdec
  all_goals
    rcases Nat.lt_or_ge n 128 with h1 | h1
    · have e : encodeRuneZ n = [((n : Nat) : Int)] := encodeRuneZ_one (by omega) (by omega)
      rw [e]
      first
        | (intro i hi; simp at hi; done)
        | (rw [full1]; exact fullN_whole (by have : firstT n = 240 := (by unfold firstT; rw [if_pos h1]); omega))
        | (rintro ⟨k, _⟩; omega)
    rcases Nat.lt_or_ge n 2048 with h2 | h2
    · have e : encodeRuneZ n = [((192 + n / 64 : Nat) : Int), ((128 + n % 64 : Nat) : Int)] := by
        rw [encodeRuneZ_two (by omega) (by omega)]; congr 1
      have hf : firstT (192 + n / 64) = 2 := firstT_C2 (by omega)
      rw [e]
      first
        | (intro i hi; simp at hi; obtain rfl : i = 0 := by omega
           rw [show [((192 + n / 64 : Nat) : Int), ((128 + n % 64 : Nat) : Int)].take (0 + 1) = [((192 + n / 64 : Nat) : Int)] from rfl, full1]
           exact fullN_part (by rw [hf]; omega) (by omega) (by omega))
        | (rw [full2]; exact fullN_whole (by omega))
        | (simp)
    rcases Nat.lt_or_ge n 65536 with h3 | h3
    · have e : encodeRuneZ n = [((224 + n / 4096 : Nat) : Int), ((128 + n / 64 % 64 : Nat) : Int), ((128 + n % 64 : Nat) : Int)] := by
        rw [encodeRuneZ_three (by omega)]; congr 1
      have hf : firstT (224 + n / 4096) % 8 = 3 ∧ accLo (firstT (224 + n / 4096) / 16) ≤ 128 + n / 64 % 64 ∧ 128 + n / 64 % 64 ≤ accHi (firstT (224 + n / 4096) / 16) := by
        by_cases k0 : n / 4096 = 0
        · rw [firstT_E0 (by omega)]; simp [accLo, accHi]; omega
        by_cases k1 : n / 4096 = 13
        · rw [firstT_ED (by omega)]; simp [accLo, accHi]; omega
        · rw [firstT_E1 (by omega)]; simp [accLo, accHi]; omega
      rw [e]
      first
        | (intro i hi; simp at hi; obtain rfl | rfl : i = 0 ∨ i = 1 := by omega
           · rw [show [((224 + n / 4096 : Nat) : Int), ((128 + n / 64 % 64 : Nat) : Int), ((128 + n % 64 : Nat) : Int)].take (0 + 1) = [((224 + n / 4096 : Nat) : Int)] from rfl, full1]
             exact fullN_part (by omega) (by omega) (by omega)
           · rw [show [((224 + n / 4096 : Nat) : Int), ((128 + n / 64 % 64 : Nat) : Int), ((128 + n % 64 : Nat) : Int)].take (1 + 1) = [((224 + n / 4096 : Nat) : Int), ((128 + n / 64 % 64 : Nat) : Int)] from rfl, full2]
             exact fullN_part (by omega) (fun _ => hf.2) (by omega))
        | (rw [full3]; exact fullN_whole (by omega))
        | (simp)
    · have e : encodeRuneZ n = [((240 + n / 262144 : Nat) : Int), ((128 + n / 4096 % 64 : Nat) : Int), ((128 + n / 64 % 64 : Nat) : Int), ((128 + n % 64 : Nat) : Int)] := by
        rw [encodeRuneZ_four (by omega) (by omega)]; congr 1
      have hf : firstT (240 + n / 262144) % 8 = 4 ∧ accLo (firstT (240 + n / 262144) / 16) ≤ 128 + n / 4096 % 64 ∧ 128 + n / 4096 % 64 ≤ accHi (firstT (240 + n / 262144) / 16) := by
        by_cases k0 : n / 262144 = 0
        · rw [firstT_F0 (by omega)]; simp [accLo, accHi]; omega
        by_cases k1 : n / 262144 = 4
        · rw [firstT_F4 (by omega)]; simp [accLo, accHi]; omega
        · rw [firstT_F1 (by omega)]; simp [accLo, accHi]; omega
      rw [e]
      first
        | (intro i hi; simp at hi; obtain rfl | rfl | rfl : i = 0 ∨ i = 1 ∨ i = 2 := by omega
           · rw [show [((240 + n / 262144 : Nat) : Int), ((128 + n / 4096 % 64 : Nat) : Int), ((128 + n / 64 % 64 : Nat) : Int), ((128 + n % 64 : Nat) : Int)].take (0 + 1) = [((240 + n / 262144 : Nat) : Int)] from rfl, full1]
             exact fullN_part (by omega) (by omega) (by omega)
           · rw [show [((240 + n / 262144 : Nat) : Int), ((128 + n / 4096 % 64 : Nat) : Int), ((128 + n / 64 % 64 : Nat) : Int), ((128 + n % 64 : Nat) : Int)].take (1 + 1) = [((240 + n / 262144 : Nat) : Int), ((128 + n / 4096 % 64 : Nat) : Int)] from rfl, full2]
             exact fullN_part (by omega) (fun _ => hf.2) (by omega)
           · rw [show [((240 + n / 262144 : Nat) : Int), ((128 + n / 4096 % 64 : Nat) : Int), ((128 + n / 64 % 64 : Nat) : Int), ((128 + n % 64 : Nat) : Int)].take (2 + 1) = [((240 + n / 262144 : Nat) : Int), ((128 + n / 4096 % 64 : Nat) : Int), ((128 + n / 64 % 64 : Nat) : Int)] from rfl, full3]
             exact fullN_part (by omega) (fun _ => hf.2) (by omega))
        | (rw [full4]; exact fullN_whole (by omega))
        | (simp)
/-! ### Good -/
def goodF (xs : List Int) : Nat → Nat → Nat
  | 0, at_ => at_
  | f + 1, at_ => if at_ < xs.length ∧ fullB (xs.drop at_) = true ∧ validB (xs.drop at_) = true then goodF xs f (at_ + (decB (xs.drop at_)).2) else at_
def goodAt (xs : List Int) (at_ : Nat) : Nat := goodF xs (xs.length - at_) at_
/-- what Good answers -/
def goodB (xs : List Int) : Nat := goodAt xs 0 + pieceN xs (goodAt xs 0)
theorem goodF_end {xs : List Int} {at_ : Nat} : ∀ f, ¬ (at_ < xs.length ∧ fullB (xs.drop at_) = true ∧ validB (xs.drop at_) = true) → goodF xs f at_ = at_
  | 0, _ => rfl
  | f + 1, h => by rw [goodF, if_neg h]
theorem goodF_fuel {xs : List Int} : ∀ (f g at_ : Nat), xs.length ≤ at_ + f → xs.length ≤ at_ + g → goodF xs f at_ = goodF xs g at_
  | 0, g, at_, h, _ => by rw [goodF_end g (fun k => by omega)]; rfl
  | f + 1, g, at_, h, h2 => by
    by_cases hc : at_ < xs.length ∧ fullB (xs.drop at_) = true ∧ validB (xs.drop at_) = true
    · obtain ⟨g, rfl⟩ : ∃ g', g = g' + 1 := ⟨g - 1, by omega⟩
      have hw := decB_width (xs := xs.drop at_) (by rw [List.length_drop]; omega)
      rw [goodF, goodF, if_pos hc, if_pos hc, goodF_fuel f g _ (by omega) (by omega)]
    · rw [goodF_end _ hc, goodF_end _ hc]
theorem goodAt_next {xs : List Int} {at_ : Nat} (h : at_ < xs.length) (h2 : fullB (xs.drop at_) = true) (h3 : validB (xs.drop at_) = true) : goodAt xs at_ = goodAt xs (at_ + (decB (xs.drop at_)).2) := by
  unfold goodAt
  have hw := decB_width (xs := xs.drop at_) (by rw [List.length_drop]; omega)
  obtain ⟨f, hf⟩ : ∃ f, xs.length - at_ = f + 1 := ⟨xs.length - at_ - 1, by omega⟩
  rw [hf, goodF, if_pos ⟨h, h2, h3⟩, goodF_fuel f (xs.length - (at_ + (decB (xs.drop at_)).2)) _ (by omega) (by omega)]
theorem goodAt_end {xs : List Int} {at_ : Nat} (h : ¬ (at_ < xs.length ∧ fullB (xs.drop at_) = true ∧ validB (xs.drop at_) = true)) : goodAt xs at_ = at_ := goodF_end _ h
theorem Whole.begins {xs : List Int} {v : Int} (h : Whole xs v) (i : Nat) (hi : i < xs.length) : beginsB (xs.take (i + 1)) = true := by
  unfold beginsB
  by_cases hl : i + 1 < xs.length
  · rw [h.part i hl]; rfl
  · rw [List.take_of_length_le (by omega), validB_of h.dec h.ok]; simp
theorem runF_all {ys : List Int} (h : ∀ m, m < ys.length → beginsB (ys.take (m + 1)) = true) : ∀ f n, n + f = ys.length → runF ys 0 f n = ys.length
  | 0, n, e => by rw [runF]; omega
  | f + 1, n, e => by
    rw [runF, if_pos ⟨by omega, by rw [List.drop_zero]; exact h n (by omega)⟩]
    exact runF_all h f (n + 1) (by omega)
theorem Whole.good {xs : List Int} {v : Int} (h : Whole xs v) (i : Nat) (hi : i < xs.length) : goodB (xs.take (i + 1)) = i + 1 := by
  have hl : (xs.take (i + 1)).length = i + 1 := by rw [List.length_take]; omega
  by_cases hp : i + 1 < xs.length
  · have ha : goodAt (xs.take (i + 1)) 0 = 0 := goodAt_end (by rw [List.drop_zero, h.part i hp]; simp)
    unfold goodB pieceN
    rw [ha, runF_all (fun m hm => by rw [List.take_take, Nat.min_eq_left (by omega)]; exact h.begins m (by omega)) _ 0 (by omega), hl]
    omega
  · have he : xs.take (i + 1) = xs := List.take_of_length_le (by omega)
    rw [he]
    have ha : goodAt xs 0 = xs.length := by
      rw [goodAt_next (by omega) (by rw [List.drop_zero]; exact h.full) (by rw [List.drop_zero]; exact validB_of h.dec h.ok), List.drop_zero, h.dec.2]
      exact (goodAt_end (by omega)).trans (by omega)
    unfold goodB pieceN
    rw [ha, Nat.sub_self]
    show xs.length + 0 = i + 1
    omega
/-- what Next answers at the beginning of such bytes -/
theorem Whole.next {xs : List Int} {v : Int} (h : Whole xs v) (i : Nat) (hi : i < xs.length) :
    nextB (xs.take (i + 1)) 0 = if i + 1 < xs.length then (0, (i : Int) + 1, 1, 0) else (v, (xs.length : Int), 0, 0) := by
  have hl : (xs.take (i + 1)).length = i + 1 := by rw [List.length_take]; omega
  unfold nextB
  rw [hl, if_neg (by omega), if_neg (by omega), Int.toNat_zero, List.drop_zero]
  by_cases hp : i + 1 < xs.length
  · rw [if_pos (h.part i hp), if_pos hp]; simp
  · have he : xs.take (i + 1) = xs := List.take_of_length_le (by omega)
    rw [he, h.full, if_neg (by simp), if_neg hp, h.dec.2, h.dec.1, if_neg (by have := h.ok; have := h.dec; omega)]
theorem z_str {v : Int} (h : Ch v) : strOfNums (encodeRuneZ v) = Utf8.encode v := by
  rw [z_enc h]
  show strOfNums ((enc v).map fun b => (b.toNat : Int)) = _
  rw [Lz.strOfNums_map]
  rfl
end Gim
