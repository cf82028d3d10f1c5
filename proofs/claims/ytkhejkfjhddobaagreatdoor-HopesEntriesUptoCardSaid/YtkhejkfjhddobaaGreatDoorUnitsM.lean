/- The walks of words.units, words.CompareUnits, words.Sub. -/
import Derived.Test.YtkhejkfjhddobaaGreatDoorHuntAddM
section
namespace Gim
/-- the units of 16 bits of a character -/
def un1 (r : Int) : List Int := if 65535 < r then [55296 + (r - 65536) / 1024, 56320 + (r - 65536) % 1024] else [r]
def unI (l : List Int) : List Int := l.flatMap un1
theorem unI_snoc (l : List Int) (r : Int) : unI (l ++ [r]) = unI l ++ un1 r := by simp [unI]
theorem un1_length (r : Int) : (un1 r).length ≤ 2 := by unfold un1; split <;> simp
theorem unI_length : ∀ l : List Int, (unI l).length ≤ 2 * l.length
  | [] => by simp [unI]
  | a :: l => by
    have := un1_length a
    have ih := unI_length l
    simp only [unI, List.flatMap_cons, List.length_append, List.length_cons] at *
    omega
theorem take_step {l : List Int} {n : Nat} (h : n < l.length) : l.take (n + 1) = l.take n ++ [gt l n] := by
  rw [List.take_succ_eq_append_getElem h, gt_lt h]
/-- so many characters from that one on -/
def subI (l : List Int) (a c : Int) : List Int := if c ≤ 0 then [] else if a < 0 then l.take (a + c).toNat else (l.drop a.toNat).take c.toNat
end Gim
namespace Go.Proofs.YtkhejkfjhddobaaGreatDoor
open Go.RowKit Gim

end Go.Proofs.YtkhejkfjhddobaaGreatDoor

end

section
namespace Gim
open Go

/-! ### the order of lists -/
theorem ordI_app : ∀ (P A B : List Int), ordI (P ++ A) (P ++ B) = ordI A B
  | [], _, _ => rfl
  | p :: P, A, B => by simp only [List.cons_append, ordI, Int.lt_irrefl, if_false]; exact ordI_app P A B
theorem ordI_neg : ∀ l t : List Int, ordI t l = - ordI l t
  | [], [] => rfl
  | [], _ :: _ => rfl
  | _ :: _, [] => rfl
  | a :: l, b :: t => by
    simp only [ordI]
    by_cases h1 : a < b
    · have h2 : ¬ b < a := by omega
      simp [h1, h2]
    · by_cases h2 : b < a
      · simp [h1, h2]
      · simp only [h1, h2, if_false]; exact ordI_neg l t
theorem ordI_range : ∀ l t : List Int, -1 ≤ ordI l t ∧ ordI l t ≤ 1
  | [], [] => by simp [ordI]
  | [], _ :: _ => by simp [ordI]
  | _ :: _, [] => by simp [ordI]
  | a :: l, b :: t => by
    have := ordI_range l t
    simp only [ordI]
    split
    · omega
    · split <;> omega
theorem ordI_zero : ∀ {l t : List Int}, ordI l t = 0 → l = t
  | [], [], _ => rfl
  | [], _ :: _, h => by simp [ordI] at h
  | _ :: _, [], h => by simp [ordI] at h
  | a :: l, b :: t, h => by
    simp only [ordI] at h
    split at h
    · omega
    · split at h
      · omega
      · rw [ordI_zero h, show a = b by omega]
theorem ordI_zero_iff {l t : List Int} : ordI l t = 0 ↔ l = t := ⟨ordI_zero, fun h => h ▸ ordI_self _⟩

/-! ### characters -/
/-- r is a character -/
def Ch (r : Int) : Prop := (0 ≤ r ∧ r < 55296) ∨ (57344 ≤ r ∧ r ≤ 1114111)
theorem ch_valid {r : Int} (h : Ch r) : Utf8.valid r = true := by
  unfold Ch at h
  simp only [Utf8.valid, Bool.or_eq_true, Bool.and_eq_true, decide_eq_true_eq]
  omega
theorem valid_ch {r : Int} (h : Utf8.valid r = true) : Ch r := by
  simp only [Utf8.valid, Bool.or_eq_true, Bool.and_eq_true, decide_eq_true_eq] at h
  unfold Ch
  omega
theorem decode_ch (s : ByteArray) (p : Nat) : Ch (Utf8.decode s p).1 := by
  have hb : ∀ k, (s.get! (p + k)).toNat < 256 := fun k => (s.get! (p + k)).toNat_lt
  have h0 := hb 0; have h1 := hb 1; have h2 := hb 2; have h3 := hb 3
  have hw : Ch (Utf8.runeError : Nat) := by unfold Ch Utf8.runeError; omega
  simp only [Utf8.decode]
  repeat' split
  all_goals first
    | exact hw
    | (rename_i h; simp only [Bool.and_eq_true, decide_eq_true_eq] at h; exact valid_ch h.2)
    | (unfold Ch; simp only [Bool.and_eq_true, beq_iff_eq, decide_eq_true_eq, ge_iff_le] at *; omega)
theorem rsF_ch (s : ByteArray) : ∀ (f p : Nat), ∀ r ∈ rsF s f p, Ch r := by
  intro f
  induction f with
  | zero => intro p r h; simp [rsF] at h
  | succ f ih =>
    intro p r h
    simp only [rsF] at h
    split at h
    · rcases List.mem_cons.1 h with h | h
      · subst h; exact decode_ch s p
      · exact ih _ r h
    · simp at h
theorem rs_ch (s : ByteArray) : ∀ r ∈ rs s, Ch r := rsF_ch s _ 0

/-! ### units -/
theorem unI_cons (a : Int) (l : List Int) : unI (a :: l) = un1 a ++ unI l := by simp [unI]
theorem unI_app (P A : List Int) : unI (P ++ A) = unI P ++ unI A := by simp [unI]
theorem un1_ne (a : Int) : un1 a ≠ [] := by unfold un1; split <;> simp
/-- the two orders part at these two characters -/
def parts (a b : Int) : Prop := 65535 < max a b ∧ 57344 ≤ min a b ∧ min a b ≤ 65535
instance (a b : Int) : Decidable (parts a b) := by unfold parts; infer_instance
theorem parts_lt {a b : Int} (h : a < b) : parts a b ↔ 65535 < b ∧ 57344 ≤ a ∧ a ≤ 65535 := by
  unfold parts
  rw [Int.max_eq_right (by omega), Int.min_eq_left (by omega)]
theorem un_less {a b : Int} (ha : Ch a) (hb : Ch b) (h : a < b) (L T : List Int) : ordI (un1 a ++ L) (un1 b ++ T) = if parts a b then 1 else -1 := by
  unfold Ch at ha hb
  have hp := parts_lt h
  unfold un1
  by_cases h1 : 65535 < a
  · have h2 : 65535 < b := by omega
    rw [if_pos h1, if_pos h2, if_neg (fun x => by have := hp.1 x; omega)]
    simp only [List.cons_append, List.nil_append, ordI]
    by_cases h3 : (a - 65536) / 1024 < (b - 65536) / 1024
    · rw [if_pos (by omega)]
    · rw [if_neg (by omega), if_neg (by omega), if_pos (by omega)]
  · rw [if_neg h1]
    by_cases h2 : 65535 < b
    · rw [if_pos h2]
      simp only [List.cons_append, List.nil_append, ordI]
      by_cases h3 : 57344 ≤ a
      · rw [if_neg (by omega), if_pos (by omega), if_pos (hp.2 (by omega))]
      · rw [if_pos (by omega), if_neg (fun x => by have := hp.1 x; omega)]
    · rw [if_neg h2]
      simp only [List.cons_append, List.nil_append, ordI]
      rw [if_pos h, if_neg (fun x => by have := hp.1 x; omega)]
theorem parts_comm (a b : Int) : parts a b ↔ parts b a := by unfold parts; rw [Int.max_comm, Int.min_comm]
theorem un_greater {a b : Int} (ha : Ch a) (hb : Ch b) (h : b < a) (L T : List Int) : ordI (un1 a ++ L) (un1 b ++ T) = if parts a b then -1 else 1 := by
  rw [ordI_neg (un1 b ++ T) (un1 a ++ L), un_less hb ha h]
  by_cases hp : parts a b
  · rw [if_pos hp, if_pos ((parts_comm _ _).1 hp)]
  · rw [if_neg hp, if_neg (fun h => hp ((parts_comm _ _).1 h))]; rfl
theorem un_nil_left {b : Int} (T : List Int) : ordI [] (un1 b ++ T) = -1 := by
  cases h : un1 b ++ T with
  | nil => exact absurd (List.append_eq_nil_iff.1 h).1 (un1_ne b)
  | cons x y => rfl
theorem un_nil_right {b : Int} (T : List Int) : ordI (un1 b ++ T) [] = 1 := by rw [ordI_neg [] _, un_nil_left]; rfl
theorem unI_zero : ∀ {l t : List Int}, (∀ r ∈ l, Ch r) → (∀ r ∈ t, Ch r) → (ordI (unI l) (unI t) = 0 ↔ l = t)
  | [], [], _, _ => by simp [unI, ordI]
  | [], b :: t, _, _ => by rw [unI_cons, show unI [] = [] from rfl, un_nil_left]; simp
  | a :: l, [], _, _ => by rw [unI_cons, show unI [] = [] from rfl, un_nil_right]; simp
  | a :: l, b :: t, h1, h2 => by
    have ih := unI_zero (l := l) (t := t) (fun r h => h1 r (List.mem_cons_of_mem _ h)) (fun r h => h2 r (List.mem_cons_of_mem _ h))
    have ha := h1 a List.mem_cons_self
    have hb := h2 b List.mem_cons_self
    rw [unI_cons, unI_cons]
    rcases Int.lt_trichotomy a b with h | h | h
    · rw [un_less ha hb h]
      constructor
      · intro e; split at e <;> omega
      · intro e; cases e; omega
    · subst h
      rw [ordI_app, ih]; simp
    · rw [un_greater ha hb h]
      constructor
      · intro e; split at e <;> omega
      · intro e; cases e; omega
theorem take_same {l t : List Int} {k : Nat} (h1 : k ≤ l.length) (h2 : k ≤ t.length) (h : ∀ j, j < k → gt l j = gt t j) : l.take k = t.take k :=
  gt_ext (by simp; omega) fun j hj => by
    have hj' : j < k := by simp at hj; omega
    rw [show gt (l.take k) j = gt l j by simp [gt, hj'], show gt (t.take k) j = gt t j by simp [gt, hj']]
    exact h j hj'
/-- both orders behind a common beginning -/
theorem both_drop {l t : List Int} {k : Nat} (h1 : k ≤ l.length) (h2 : k ≤ t.length) (h : ∀ j, j < k → gt l j = gt t j) :
    ordI l t = ordI (l.drop k) (t.drop k) ∧ ordI (unI l) (unI t) = ordI (unI (l.drop k)) (unI (t.drop k)) := by
  have e := take_same h1 h2 h
  constructor
  · exact ordI_eq k l t h1 h2 h
  · rw [← ordI_app (unI (l.take k)) (unI (l.drop k)), ← unI_app, List.take_append_drop]
    rw [e, ← unI_app, List.take_append_drop]
/-- at the first unlike characters -/
theorem both_differ {l t : List Int} {k : Nat} (hl : ∀ r ∈ l, Ch r) (ht : ∀ r ∈ t, Ch r) (h1 : k < l.length) (h2 : k < t.length) (h : ∀ j, j < k → gt l j = gt t j) (hne : gt l k ≠ gt t k) :
    (ordI l t != ordI (unI l) (unI t)) = decide (parts (gt l k) (gt t k)) := by
  obtain ⟨e1, e2⟩ := both_drop (by omega) (by omega) h
  rw [e1, e2, drop_gt h1, drop_gt h2, unI_cons, unI_cons]
  have ha := hl _ (gt_mem h1)
  have hb := ht _ (gt_mem h2)
  rcases Int.lt_trichotomy (gt l k) (gt t k) with hh | hh | hh
  · rw [un_less ha hb hh]
    simp only [ordI]
    rw [if_pos hh]
    by_cases hp : parts (gt l k) (gt t k) <;> simp [hp]
  · exact absurd hh hne
  · rw [un_greater ha hb hh]
    simp only [ordI]
    rw [if_neg (by omega), if_pos hh]
    by_cases hp : parts (gt l k) (gt t k) <;> simp [hp]
/-- where no unlike pair stands -/
theorem both_same {l t : List Int} (h : ∀ j, j < l.length → j < t.length → gt l j = gt t j) : ordI l t = ordI (unI l) (unI t) := by
  rcases Nat.lt_or_ge l.length t.length with hh | hh
  · obtain ⟨e1, e2⟩ := both_drop (l := l) (t := t) (k := l.length) (by omega) (by omega) (fun j hj => h j hj (by omega))
    rw [e1, e2, drop_gt hh]
    simp only [List.drop_length, unI_cons]
    rw [show unI [] = [] from rfl, un_nil_left]; rfl
  · obtain ⟨e1, e2⟩ := both_drop (l := l) (t := t) (k := t.length) (by omega) (by omega) (fun j hj => h j (by omega) hj)
    rw [e1, e2, List.drop_length]
    cases hd : l.drop t.length with
    | nil => simp [unI, ordI]
    | cons a r => rw [unI_cons, show unI [] = [] from rfl, un_nil_right]; rfl
end Gim

end

section
namespace Gim
open Go

/-- a character's bytes -/
def enc (r : Int) : List UInt8 := (Utf8.encode r).data.toList
def encs (l : List Int) : List UInt8 := l.flatMap enc

theorem u8_lt {m n : Nat} (hm : m < 256) (hn : n < 256) : (UInt8.ofNat m < UInt8.ofNat n) ↔ m < n := by
  rw [UInt8.lt_iff_toNat_lt, UInt8.toNat_ofNat', UInt8.toNat_ofNat']; simp only [Nat.reducePow]; omega
theorem u8_eq {m n : Nat} (hm : m < 256) (hn : n < 256) : (UInt8.ofNat m = UInt8.ofNat n) ↔ m = n := by
  rw [← UInt8.toNat_inj, UInt8.toNat_ofNat', UInt8.toNat_ofNat']; simp only [Nat.reducePow]; omega

theorem encode_arms (n : Nat) (hv : Utf8.valid (n : Int) = true) : Utf8.encode (n : Int) =
    if n < 128 then ⟨#[UInt8.ofNat n]⟩ else if n < 2048 then ⟨#[UInt8.ofNat (192 + n / 64), UInt8.ofNat (128 + n % 64)]⟩
    else if n < 65536 then ⟨#[UInt8.ofNat (224 + n / 4096), UInt8.ofNat (128 + n / 64 % 64), UInt8.ofNat (128 + n % 64)]⟩
    else ⟨#[UInt8.ofNat (240 + n / 262144), UInt8.ofNat (128 + n / 4096 % 64), UInt8.ofNat (128 + n / 64 % 64), UInt8.ofNat (128 + n % 64)]⟩ := by
  unfold Utf8.encode
  simp only [hv, if_true, Int.toNat_natCast]
set_option maxRecDepth 1000000 in
theorem enc_cases {r : Int} (h : Ch r) : ∃ n : Nat, r = n ∧
    ((n < 128 ∧ enc r = [UInt8.ofNat n]) ∨
     (128 ≤ n ∧ n < 2048 ∧ enc r = [UInt8.ofNat (192 + n / 64), UInt8.ofNat (128 + n % 64)]) ∨
     (2048 ≤ n ∧ n < 65536 ∧ enc r = [UInt8.ofNat (224 + n / 4096), UInt8.ofNat (128 + n / 64 % 64), UInt8.ofNat (128 + n % 64)]) ∨
     (65536 ≤ n ∧ n ≤ 1114111 ∧ enc r = [UInt8.ofNat (240 + n / 262144), UInt8.ofNat (128 + n / 4096 % 64), UInt8.ofNat (128 + n / 64 % 64), UInt8.ofNat (128 + n % 64)])) := by
  have hv := ch_valid h
  unfold Ch at h
  obtain ⟨n, rfl⟩ := Int.eq_ofNat_of_zero_le (show 0 ≤ r by omega)
  refine ⟨n, rfl, ?_⟩
  unfold enc
  rw [encode_arms n hv]
  by_cases h1 : n < 128
  · exact .inl ⟨h1, by rw [if_pos h1]⟩
  · rw [if_neg h1]
    by_cases h2 : n < 2048
    · exact .inr (.inl ⟨by omega, h2, by rw [if_pos h2]⟩)
    · rw [if_neg h2]
      by_cases h3 : n < 65536
      · exact .inr (.inr (.inl ⟨by omega, h3, by rw [if_pos h3]⟩))
      · exact .inr (.inr (.inr ⟨by omega, by omega, by rw [if_neg h3]⟩))
theorem enc_ne {r : Int} (h : Ch r) : enc r ≠ [] := by
  obtain ⟨n, _, ⟨_, e⟩ | ⟨_, _, e⟩ | ⟨_, _, e⟩ | ⟨_, _, e⟩⟩ := enc_cases h <;> rw [e] <;> simp

/-- one place after another: the first unlike byte decides -/
theorem less_cons {m n : Nat} (hm : m < 256) (hn : n < 256) (L T : List UInt8) :
    Op.bytesLess (UInt8.ofNat m :: L) (UInt8.ofNat n :: T) = (decide (m < n) || (decide (m = n) && Op.bytesLess L T)) := by
  have e1 : decide (UInt8.ofNat m < UInt8.ofNat n) = decide (m < n) := by simp only [u8_lt hm hn]
  have e2 : (UInt8.ofNat m == UInt8.ofNat n) = decide (m = n) := by
    rw [Bool.eq_iff_iff]; simp [u8_eq hm hn]
  simp only [Op.bytesLess, e1, e2]

theorem enc_less {a b : Int} (ha : Ch a) (hb : Ch b) (h : a < b) (L T : List UInt8) : Op.bytesLess (enc a ++ L) (enc b ++ T) = true ∧ Op.bytesLess (enc b ++ T) (enc a ++ L) = false := by
  obtain ⟨m, rfl, hm⟩ := enc_cases ha
  obtain ⟨n, rfl, hn⟩ := enc_cases hb
  have hlt : m < n := by omega
  rcases hm with ⟨m1, e⟩ | ⟨m1, m2, e⟩ | ⟨m1, m2, e⟩ | ⟨m1, m2, e⟩ <;> rcases hn with ⟨n1, f⟩ | ⟨n1, n2, f⟩ | ⟨n1, n2, f⟩ | ⟨n1, n2, f⟩ <;> rw [e, f] <;> clear e f ha hb <;>
    (first | omega | skip) <;> simp only [List.cons_append, List.nil_append] <;> constructor <;>
    (repeat rw [less_cons (by omega) (by omega)]) <;> simp only [Bool.or_eq_true, Bool.and_eq_true, decide_eq_true_eq, Bool.or_eq_false_iff, Bool.and_eq_false_iff, decide_eq_false_iff_not] <;> omega

theorem less_app : ∀ (P A B : List UInt8), Op.bytesLess (P ++ A) (P ++ B) = Op.bytesLess A B
  | [], _, _ => rfl
  | p :: P, A, B => by
    have h : ¬ p < p := by rw [UInt8.lt_iff_toNat_lt]; omega
    simp only [List.cons_append, Op.bytesLess, h, decide_false, Bool.false_or, beq_self_eq_true, Bool.true_and]
    exact less_app P A B
theorem less_encs : ∀ {l t : List Int}, (∀ r ∈ l, Ch r) → (∀ r ∈ t, Ch r) → Op.bytesLess (encs l) (encs t) = decide (ordI l t < 0)
  | [], [], _, _ => by simp [encs, Op.bytesLess, ordI]
  | [], b :: t, _, h2 => by
    have hb := enc_ne (h2 b List.mem_cons_self)
    simp only [encs, List.flatMap_nil, List.flatMap_cons]
    cases he : enc b with
    | nil => exact absurd he hb
    | cons x y => simp [Op.bytesLess, ordI]
  | a :: l, [], _, _ => by
    simp only [encs, List.flatMap_nil]
    cases (List.flatMap enc (a :: l)) <;> simp [Op.bytesLess, ordI]
  | a :: l, b :: t, h1, h2 => by
    have ih := less_encs (l := l) (t := t) (fun r h => h1 r (List.mem_cons_of_mem _ h)) (fun r h => h2 r (List.mem_cons_of_mem _ h))
    have ha := h1 a List.mem_cons_self
    have hb := h2 b List.mem_cons_self
    simp only [encs, List.flatMap_cons] at *
    rcases Int.lt_trichotomy a b with h | h | h
    · rw [(enc_less ha hb h _ _).1]; simp [ordI, h]
    · subst h; rw [less_app, ih]; simp [ordI]
    · rw [(enc_less hb ha h _ _).2]
      have : ¬ a < b := by omega
      simp [ordI, h, this]
theorem encs_inj {l t : List Int} (hl : ∀ r ∈ l, Ch r) (ht : ∀ r ∈ t, Ch r) : encs l = encs t ↔ l = t := by
  refine ⟨fun e => ?_, fun e => by rw [e]⟩
  have h1 := less_encs hl ht
  have h2 := less_encs ht hl
  have h3 := less_encs hl hl
  rw [e] at h1
  rw [e] at h2
  rw [e, ordI_self] at h3
  have hn := ordI_neg l t
  rw [h3] at h1 h2
  simp at h1 h2
  exact ordI_zero (by omega)

theorem runesBytes_fold : ∀ (l : List Int) (s : ByteArray), (l.foldl (fun r n => r ++ Utf8.encode n) s).data.toList = s.data.toList ++ encs l
  | [], s => by simp [encs]
  | a :: l, s => by
    rw [List.foldl_cons, runesBytes_fold l]
    simp [encs, enc, ByteArray.data_append]
theorem runesBytes_list (l : List Int) : (runesBytes l).data.toList = encs l := by
  unfold runesBytes
  rw [runesBytes_fold]
  simp
theorem runesBytes_less {l t : List Int} (hl : ∀ r ∈ l, Ch r) (ht : ∀ r ∈ t, Ch r) : Op.bytesLess (runesBytes l).toList (runesBytes t).toList = decide (ordI l t < 0) := by
  rw [ByteArray.toList_eq, ByteArray.toList_eq, runesBytes_list, runesBytes_list, less_encs hl ht]
theorem runesBytes_eq {l t : List Int} (hl : ∀ r ∈ l, Ch r) (ht : ∀ r ∈ t, Ch r) : ((runesBytes l).toList == (runesBytes t).toList) = (ordI l t == 0) := by
  rw [ByteArray.toList_eq, ByteArray.toList_eq, runesBytes_list, runesBytes_list, Bool.eq_iff_iff]
  simp [encs_inj hl ht, ordI_zero_iff]
end Gim

end

