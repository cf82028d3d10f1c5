/- Plain laws: texts that are made of characters are ordered by their bytes as by their characters. No program in sight. -/
import Derived.Test.YtgajinnbmnnccaaOrdMath
namespace Gim
open Go

/-- a character's bytes -/
def enc (r : Int) : List UInt8 := (Utf8.encode r).data.toList
def encs (l : List Int) : List UInt8 := l.flatMap enc

theorem u8_lt {m n : Nat} (hm : m < 256) (hn : n < 256) : (UInt8.ofNat m < UInt8.ofNat n) ↔ m < n := by
  rw [UInt8.lt_iff_toNat_lt, UInt8.toNat_ofNat', UInt8.toNat_ofNat']; simp only [Nat.reducePow]; omega
theorem u8_eq {m n : Nat} (hm : m < 256) (hn : n < 256) : (UInt8.ofNat m = UInt8.ofNat n) ↔ m = n := by
  rw [← UInt8.toNat_inj, UInt8.toNat_ofNat', UInt8.toNat_ofNat']; simp only [Nat.reducePow]; omega

theorem encode_arms (n : Nat) (hv : Utf8.valid (n : Int) = true) : Utf8.encode (n : Int) =
    if n < 128 then ⟨#[UInt8.ofNat n]⟩ else if n < 2048 then ⟨#[UInt8.ofNat (192 + n / 64), UInt8.ofNat (128 + n % 64)]⟩
    else if n < 65536 then ⟨#[UInt8.ofNat (224 + n / 4096), UInt8.ofNat (128 + n / 64 % 64), UInt8.ofNat (128 + n % 64)]⟩
    else ⟨#[UInt8.ofNat (240 + n / 262144), UInt8.ofNat (128 + n / 4096 % 64), UInt8.ofNat (128 + n / 64 % 64), UInt8.ofNat (128 + n % 64)]⟩ := by
  unfold Utf8.encode
  simp only [hv, if_true, Int.toNat_natCast]
set_option maxRecDepth 1000000 in
theorem enc_cases {r : Int} (h : Ch r) : ∃ n : Nat, r = n ∧
    ((n < 128 ∧ enc r = [UInt8.ofNat n]) ∨
     (128 ≤ n ∧ n < 2048 ∧ enc r = [UInt8.ofNat (192 + n / 64), UInt8.ofNat (128 + n % 64)]) ∨
     (2048 ≤ n ∧ n < 65536 ∧ enc r = [UInt8.ofNat (224 + n / 4096), UInt8.ofNat (128 + n / 64 % 64), UInt8.ofNat (128 + n % 64)]) ∨
     (65536 ≤ n ∧ n ≤ 1114111 ∧ enc r = [UInt8.ofNat (240 + n / 262144), UInt8.ofNat (128 + n / 4096 % 64), UInt8.ofNat (128 + n / 64 % 64), UInt8.ofNat (128 + n % 64)])) := by
  have hv := ch_valid h
  unfold Ch at h
  obtain ⟨n, rfl⟩ := Int.eq_ofNat_of_zero_le (show 0 ≤ r by omega)
  refine ⟨n, rfl, ?_⟩
  unfold enc
  rw [encode_arms n hv]
  by_cases h1 : n < 128
  · exact .inl ⟨h1, by rw [if_pos h1]⟩
  · rw [if_neg h1]
    by_cases h2 : n < 2048
    · exact .inr (.inl ⟨by omega, h2, by rw [if_pos h2]⟩)
    · rw [if_neg h2]
      by_cases h3 : n < 65536
      · exact .inr (.inr (.inl ⟨by omega, h3, by rw [if_pos h3]⟩))
      · exact .inr (.inr (.inr ⟨by omega, by omega, by rw [if_neg h3]⟩))
theorem enc_ne {r : Int} (h : Ch r) : enc r ≠ [] := by
  obtain ⟨n, _, ⟨_, e⟩ | ⟨_, _, e⟩ | ⟨_, _, e⟩ | ⟨_, _, e⟩⟩ := enc_cases h <;> rw [e] <;> simp

/-- one place after another: the first unlike byte decides -/
theorem less_cons {m n : Nat} (hm : m < 256) (hn : n < 256) (L T : List UInt8) :
    Op.bytesLess (UInt8.ofNat m :: L) (UInt8.ofNat n :: T) = (decide (m < n) || (decide (m = n) && Op.bytesLess L T)) := by
  have e1 : decide (UInt8.ofNat m < UInt8.ofNat n) = decide (m < n) := by simp only [u8_lt hm hn]
  have e2 : (UInt8.ofNat m == UInt8.ofNat n) = decide (m = n) := by
    rw [Bool.eq_iff_iff]; simp [u8_eq hm hn]
  simp only [Op.bytesLess, e1, e2]

theorem enc_less {a b : Int} (ha : Ch a) (hb : Ch b) (h : a < b) (L T : List UInt8) : Op.bytesLess (enc a ++ L) (enc b ++ T) = true ∧ Op.bytesLess (enc b ++ T) (enc a ++ L) = false := by
  obtain ⟨m, rfl, hm⟩ := enc_cases ha
  obtain ⟨n, rfl, hn⟩ := enc_cases hb
  have hlt : m < n := by omega
  rcases hm with ⟨m1, e⟩ | ⟨m1, m2, e⟩ | ⟨m1, m2, e⟩ | ⟨m1, m2, e⟩ <;> rcases hn with ⟨n1, f⟩ | ⟨n1, n2, f⟩ | ⟨n1, n2, f⟩ | ⟨n1, n2, f⟩ <;> rw [e, f] <;> clear e f ha hb <;>
    (first | omega | skip) <;> simp only [List.cons_append, List.nil_append] <;> constructor <;>
    (repeat rw [less_cons (by omega) (by omega)]) <;> simp only [Bool.or_eq_true, Bool.and_eq_true, decide_eq_true_eq, Bool.or_eq_false_iff, Bool.and_eq_false_iff, decide_eq_false_iff_not] <;> omega

theorem less_app : ∀ (P A B : List UInt8), Op.bytesLess (P ++ A) (P ++ B) = Op.bytesLess A B
  | [], _, _ => rfl
  | p :: P, A, B => by
    have h : ¬ p < p := by rw [UInt8.lt_iff_toNat_lt]; omega
    simp only [List.cons_append, Op.bytesLess, h, decide_false, Bool.false_or, beq_self_eq_true, Bool.true_and]
    exact less_app P A B
theorem less_encs : ∀ {l t : List Int}, (∀ r ∈ l, Ch r) → (∀ r ∈ t, Ch r) → Op.bytesLess (encs l) (encs t) = decide (ordI l t < 0)
  | [], [], _, _ => by simp [encs, Op.bytesLess, ordI]
  | [], b :: t, _, h2 => by
    have hb := enc_ne (h2 b List.mem_cons_self)
    simp only [encs, List.flatMap_nil, List.flatMap_cons]
    cases he : enc b with
    | nil => exact absurd he hb
    | cons x y => simp [Op.bytesLess, ordI]
  | a :: l, [], _, _ => by
    simp only [encs, List.flatMap_nil]
    cases (List.flatMap enc (a :: l)) <;> simp [Op.bytesLess, ordI]
  | a :: l, b :: t, h1, h2 => by
    have ih := less_encs (l := l) (t := t) (fun r h => h1 r (List.mem_cons_of_mem _ h)) (fun r h => h2 r (List.mem_cons_of_mem _ h))
    have ha := h1 a List.mem_cons_self
    have hb := h2 b List.mem_cons_self
    simp only [encs, List.flatMap_cons] at *
    rcases Int.lt_trichotomy a b with h | h | h
    · rw [(enc_less ha hb h _ _).1]; simp [ordI, h]
    · subst h; rw [less_app, ih]; simp [ordI]
    · rw [(enc_less hb ha h _ _).2]
      have : ¬ a < b := by omega
      simp [ordI, h, this]
theorem encs_inj {l t : List Int} (hl : ∀ r ∈ l, Ch r) (ht : ∀ r ∈ t, Ch r) : encs l = encs t ↔ l = t := by
  refine ⟨fun e => ?_, fun e => by rw [e]⟩
  have h1 := less_encs hl ht
  have h2 := less_encs ht hl
  have h3 := less_encs hl hl
  rw [e] at h1
  rw [e] at h2
  rw [e, ordI_self] at h3
  have hn := ordI_neg l t
  rw [h3] at h1 h2
  simp at h1 h2
  exact ordI_zero (by omega)

theorem runesBytes_fold : ∀ (l : List Int) (s : ByteArray), (l.foldl (fun r n => r ++ Utf8.encode n) s).data.toList = s.data.toList ++ encs l
  | [], s => by simp [encs]
  | a :: l, s => by
    rw [List.foldl_cons, runesBytes_fold l]
    simp [encs, enc, ByteArray.data_append]
theorem runesBytes_list (l : List Int) : (runesBytes l).data.toList = encs l := by
  unfold runesBytes
  rw [runesBytes_fold]
  simp
theorem runesBytes_less {l t : List Int} (hl : ∀ r ∈ l, Ch r) (ht : ∀ r ∈ t, Ch r) : Op.bytesLess (runesBytes l).toList (runesBytes t).toList = decide (ordI l t < 0) := by
  rw [ByteArray.toList_eq, ByteArray.toList_eq, runesBytes_list, runesBytes_list, less_encs hl ht]
theorem runesBytes_eq {l t : List Int} (hl : ∀ r ∈ l, Ch r) (ht : ∀ r ∈ t, Ch r) : ((runesBytes l).toList == (runesBytes t).toList) = (ordI l t == 0) := by
  rw [ByteArray.toList_eq, ByteArray.toList_eq, runesBytes_list, runesBytes_list, Bool.eq_iff_iff]
  simp [encs_inj hl ht, ordI_zero_iff]
end Gim
