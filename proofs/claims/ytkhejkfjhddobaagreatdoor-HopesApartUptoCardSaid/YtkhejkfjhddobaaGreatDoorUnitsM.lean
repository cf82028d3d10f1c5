/- The walks of words.units, words.CompareUnits, words.Sub. -/
import Derived.Test.YtkhejkfjhddobaaGreatDoorHuntAddM
set_option maxRecDepth 1000000
namespace Gim
open Go
/-! ### the order of lists -/
theorem yJ9 : ∀ {l t : List Int}, yBa l t = 0 → l = t
 | [], [], _ => rfl
 | [], _ :: _, h => by simp [yBa] at h
 | _ :: _, [], h => by simp [yBa] at h
 | a :: l, b :: t, h => by
  simp only [yBa] at h; split at h
  ·omega
  ·split at h
   ·omega
   ·rw [yJ9 h, show a = b by omega]
theorem yJq {l t : List Int} : yBa l t = 0 ↔ l = t := ⟨yJ9, fun h => h ▸ yGB _⟩
/-! ### characters -/
def Ch (r : Int) : Prop := (0 ≤ r ∧ r < 55296) ∨ (57344 ≤ r ∧ r ≤ 1114111)
theorem yQV {r : Int} (h : Ch r) : Utf8.valid r = true := by unfold Ch at h; simp only [Utf8.valid, Bool.or_eq_true, jb, decide_eq_true_eq]; omega
theorem yRR {r : Int} (h : Utf8.valid r = true) : Ch r := by simp only [Utf8.valid, Bool.or_eq_true, jb, decide_eq_true_eq] at h; unfold Ch; omega
theorem yJ7 (s : ByteArray) (p : Nat) : Ch (Utf8.decode s p).1 := by
 have hb : ∀ k, (s.get! (p + k)).toNat < 256 := fun k => (s.get! (p + k)).toNat_lt
 have h0 := hb 0; have h1 := hb 1; have h2 := hb 2; have h3 := hb 3; have hw : Ch (Utf8.runeError : Nat) := by unfold Ch Utf8.runeError; omega
 simp only [Utf8.decode]
 repeat' split
 all_goals first
  | exact hw
  | (rename_i h; simp only [jb, decide_eq_true_eq] at h; exact yRR h.2)
  | (unfold Ch; simp only [jb, beq_iff_eq, decide_eq_true_eq, ge_iff_le] at *; omega)
theorem yTh (s : ByteArray) : ∀ (f p : Nat), ∀ r ∈ rsF s f p, Ch r := by
 intro f
 induction f with
 | zero => intro p r h; simp [rsF] at h
 | succ f ih =>
  intro p r h; simp only [rsF] at h; split at h
  ·rcases List.mem_cons.1 h with h | h
   ·subst h; exact yJ7 s p
   ·exact ih _ r h
  ·simp at h
theorem yOZ (s : ByteArray) : ∀ r ∈ rs s, Ch r := yTh s _ 0
/-! ### units -/
def parts (a b : Int) : Prop := 65535 < max a b ∧ 57344 ≤ min a b ∧ min a b ≤ 65535
instance (a b : Int) : Decidable (parts a b) := by unfold parts; infer_instance
def enc (r : Int) : List UInt8 := (Utf8.encode r).data.toList
def encs (l : List Int) : List UInt8 := l.flatMap enc
theorem yTz {m n : Nat} (hm : m < 256) (hn : n < 256) : (UInt8.ofNat m < UInt8.ofNat n) ↔ m < n := by rw [UInt8.lt_iff_toNat_lt, UInt8.toNat_ofNat', UInt8.toNat_ofNat']; simp only [Nat.reducePow]; omega
theorem yTE {m n : Nat} (hm : m < 256) (hn : n < 256) : (UInt8.ofNat m = UInt8.ofNat n) ↔ m = n := by rw [← UInt8.toNat_inj, UInt8.toNat_ofNat', UInt8.toNat_ofNat']; simp only [Nat.reducePow]; omega
theorem yNf (n : Nat) (hv : Utf8.valid (n : Int) = true) : Utf8.encode (n : Int) =
  if n < 128 then ⟨#[UInt8.ofNat n]⟩ else if n < 2048 then ⟨#[UInt8.ofNat (192 + n / 64), UInt8.ofNat (128 + n % 64)]⟩
  else if n < 65536 then ⟨#[UInt8.ofNat (224 + n / 4096), UInt8.ofNat (128 + n / 64 % 64), UInt8.ofNat (128 + n % 64)]⟩
  else ⟨#[UInt8.ofNat (240 + n / 262144), UInt8.ofNat (128 + n / 4096 % 64), UInt8.ofNat (128 + n / 64 % 64), UInt8.ofNat (128 + n % 64)]⟩ := by unfold Utf8.encode; simp only [hv, if_true, Int.toNat_natCast]
theorem yCJ {r : Int} (h : Ch r) : ∃ n : Nat, r = n ∧
  ((n < 128 ∧ enc r = [UInt8.ofNat n]) ∨
   (128 ≤ n ∧ n < 2048 ∧ enc r = [UInt8.ofNat (192 + n / 64), UInt8.ofNat (128 + n % 64)]) ∨
   (2048 ≤ n ∧ n < 65536 ∧ enc r = [UInt8.ofNat (224 + n / 4096), UInt8.ofNat (128 + n / 64 % 64), UInt8.ofNat (128 + n % 64)]) ∨
   (65536 ≤ n ∧ n ≤ 1114111 ∧ enc r = [UInt8.ofNat (240 + n / 262144), UInt8.ofNat (128 + n / 4096 % 64), UInt8.ofNat (128 + n / 64 % 64), UInt8.ofNat (128 + n % 64)])) := by
 have hv := yQV h; unfold Ch at h; obtain ⟨n, rfl⟩ := Int.eq_ofNat_of_zero_le (show 0 ≤ r by omega); refine ⟨n, rfl, ?_⟩; unfold enc; rw [yNf n hv]; by_cases h1 : n < 128
 ·exact .inl ⟨h1, by rw [if_pos h1]⟩
 ·rw [if_neg h1]; by_cases h2 : n < 2048
  ·exact .inr (.inl ⟨by omega, h2, by rw [if_pos h2]⟩)
  ·rw [if_neg h2]; by_cases h3 : n < 65536
   ·exact .inr (.inr (.inl ⟨by omega, h3, by rw [if_pos h3]⟩))
   ·exact .inr (.inr (.inr ⟨by omega, by omega, by rw [if_neg h3]⟩))
theorem yTs {r : Int} (h : Ch r) : enc r ≠ [] := by
 obtain ⟨n, _, ⟨_, e⟩ | ⟨_, _, e⟩ | ⟨_, _, e⟩ | ⟨_, _, e⟩⟩ := yCJ h <;> rw [e] <;> simp
theorem yQI {m n : Nat} (hm : m < 256) (hn : n < 256) (L T : List UInt8) :
  Op.bytesLess (UInt8.ofNat m :: L) (UInt8.ofNat n :: T) = (decide (m < n) || (decide (m = n) && Op.bytesLess L T)) := by
 have e1 : decide (UInt8.ofNat m < UInt8.ofNat n) = decide (m < n) := by simp only [yTz hm hn]
 have e2 : (UInt8.ofNat m == UInt8.ofNat n) = decide (m = n) := by rw [Bool.eq_iff_iff]; simp [yTE hm hn]
 simp only [Op.bytesLess, e1, e2]
theorem yMi {a b : Int} (ha : Ch a) (hb : Ch b) (h : a < b) (L T : List UInt8) : Op.bytesLess (enc a ++ L) (enc b ++ T) = true ∧ Op.bytesLess (enc b ++ T) (enc a ++ L) = false := by
 obtain ⟨m, rfl, hm⟩ := yCJ ha; obtain ⟨n, rfl, hn⟩ := yCJ hb; have hlt : m < n := by omega
 rcases hm with ⟨m1, e⟩ | ⟨m1, m2, e⟩ | ⟨m1, m2, e⟩ | ⟨m1, m2, e⟩ <;> rcases hn with ⟨n1, f⟩ | ⟨n1, n2, f⟩ | ⟨n1, n2, f⟩ | ⟨n1, n2, f⟩ <;> rw [e, f] <;> clear e f ha hb <;>
  (first | omega | skip) <;> simp only [List.cons_append, List.nil_append] <;> constructor <;>
  (repeat rw [yQI (by omega) (by omega)]) <;> simp only [Bool.or_eq_true, jb, decide_eq_true_eq, Bool.or_eq_false_iff, Bool.and_eq_false_iff, decide_eq_false_iff_not] <;> omega
theorem yMn : ∀ (P A B : List UInt8), Op.bytesLess (P ++ A) (P ++ B) = Op.bytesLess A B
 | [], _, _ => rfl
 | p :: P, A, B => by
  have h : ¬ p < p := by rw [UInt8.lt_iff_toNat_lt]; omega
  simp only [List.cons_append, Op.bytesLess, h, decide_false, Bool.false_or, beq_self_eq_true, Bool.true_and]; exact yMn P A B
theorem yJE : ∀ {l t : List Int}, (∀ r ∈ l, Ch r) → (∀ r ∈ t, Ch r) → Op.bytesLess (encs l) (encs t) = decide (yBa l t < 0)
 | [], [], _, _ => by simp [encs, Op.bytesLess, yBa]
 | [], b :: t, _, h2 => by
  have hb := yTs (h2 b List.mem_cons_self); simp only [encs, List.flatMap_nil, List.flatMap_cons]; cases he : enc b with
  | nil => exact absurd he hb
  | cons x y => simp [Op.bytesLess, yBa]
 | a :: l, [], _, _ => by simp only [encs, List.flatMap_nil]; cases (List.flatMap enc (a :: l)) <;> simp [Op.bytesLess, yBa]
 | a :: l, b :: t, h1, h2 => by
  have ih := yJE (l := l) (t := t) (fun r h => h1 r (List.mem_cons_of_mem _ h)) (fun r h => h2 r (List.mem_cons_of_mem _ h)); have ha := h1 a List.mem_cons_self; have hb := h2 b List.mem_cons_self; simp only [encs, List.flatMap_cons] at *
  rcases Int.lt_trichotomy a b with h | h | h
  ·rw [(yMi ha hb h _ _).1]; simp [yBa, h]
  ·subst h; rw [yMn, ih]; simp [yBa]
  ·rw [(yMi hb ha h _ _).2]; have : ¬ a < b := by omega
   simp [yBa, h, this]
theorem yEf : ∀ (l : List Int) (s : ByteArray), (l.foldl (fun r n => r ++ Utf8.encode n) s).data.toList = s.data.toList ++ encs l
 | [], s => by simp [encs]
 | a :: l, s => by rw [List.foldl_cons, yEf l]; simp [encs, enc, ByteArray.data_append]
theorem yC0 (l : List Int) : (runesBytes l).data.toList = encs l := by unfold runesBytes; rw [yEf]; simp
theorem yHJ {l t : List Int} (hl : ∀ r ∈ l, Ch r) (ht : ∀ r ∈ t, Ch r) : Op.bytesLess (runesBytes l).toList (runesBytes t).toList = decide (yBa l t < 0) := by rw [ByteArray.toList_eq, ByteArray.toList_eq, yC0, yC0, yJE hl ht]
end Gim
