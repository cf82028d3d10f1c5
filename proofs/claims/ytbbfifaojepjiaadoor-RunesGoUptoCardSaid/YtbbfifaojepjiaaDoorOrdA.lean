/- Texts of characters: their order by bytes is their order by characters; they read as their characters. Plain laws, gathered out of Ord, OrdMath, ByteOrd and Enc. -/
import Derived.Test.YtbbfifaojepjiaaDoorMendWalk
import Derived.Laws.Cover4
import Derived.Lib.TrimUEq
namespace Gim
open Go
def ordI : List Int → List Int → Int
  | [], [] => 0
  | [], _ :: _ => -1
  | _ :: _, [] => 1
  | a :: l, b :: t => if a < b then -1 else if b < a then 1 else ordI l t
theorem ordI_eq : ∀ (k : Nat) (l t : List Int), k ≤ l.length → k ≤ t.length → (∀ j, j < k → gt l j = gt t j) → ordI l t = ordI (l.drop k) (t.drop k)
  | 0, _, _, _, _, _ => rfl
  | k + 1, [], _, h, _, _ => by simp at h
  | k + 1, _ :: _, [], _, h, _ => by simp at h
  | k + 1, a :: l, b :: t, h1, h2, h => by
    have h0 := h 0 (by omega)
    simp [gt] at h0
    subst h0
    simp only [ordI, List.drop_succ_cons, Int.lt_irrefl, if_false]
    exact ordI_eq k l t (by simpa using h1) (by simpa using h2) fun j hj => by have := h (j + 1) (by omega); simpa [gt] using this
theorem drop_gt {l : List Int} {k : Nat} (h : k < l.length) : l.drop k = gt l k :: l.drop (k + 1) := by rw [gt_lt h]; exact List.drop_eq_getElem_cons h
theorem ordI_less {l t : List Int} {k : Nat} (h1 : k < l.length) (h2 : k < t.length) (h : ∀ j, j < k → gt l j = gt t j) (hl : gt l k < gt t k) : ordI l t = -1 := by
  rw [ordI_eq k l t (by omega) (by omega) h, drop_gt h1, drop_gt h2]; simp [ordI, hl]
theorem ordI_greater {l t : List Int} {k : Nat} (h1 : k < l.length) (h2 : k < t.length) (h : ∀ j, j < k → gt l j = gt t j) (hl : gt t k < gt l k) : ordI l t = 1 := by
  rw [ordI_eq k l t (by omega) (by omega) h, drop_gt h1, drop_gt h2]; simp [ordI, hl]; omega
theorem ordI_short {l t : List Int} (h : ∀ j, j < l.length → gt l j = gt t j) (hl : l.length < t.length) : ordI l t = -1 := by
  rw [ordI_eq l.length l t (by omega) (by omega) h, drop_gt hl]; simp [ordI]
theorem ordI_long {l t : List Int} (h : ∀ j, j < t.length → gt l j = gt t j) (hl : t.length < l.length) : ordI l t = 1 := by
  rw [ordI_eq t.length l t (by omega) (by omega) h, drop_gt hl]; simp [ordI]
theorem ordI_self : ∀ l : List Int, ordI l l = 0
  | [] => rfl
  | a :: l => by simp [ordI, ordI_self l]
theorem ordI_app : ∀ (P A B : List Int), ordI (P ++ A) (P ++ B) = ordI A B
  | [], _, _ => rfl
  | p :: P, A, B => by simp only [List.cons_append, ordI, Int.lt_irrefl, if_false]; exact ordI_app P A B
theorem ordI_neg : ∀ l t : List Int, ordI t l = - ordI l t
  | [], [] => rfl
  | [], _ :: _ => rfl
  | _ :: _, [] => rfl
  | a :: l, b :: t => by
    simp only [ordI]
    by_cases h1 : a < b
    · have h2 : ¬ b < a := by omega
      simp [h1, h2]
    · by_cases h2 : b < a
      · simp [h1, h2]
      · simp only [h1, h2, if_false]; exact ordI_neg l t
theorem ordI_range : ∀ l t : List Int, -1 ≤ ordI l t ∧ ordI l t ≤ 1
  | [], [] => by simp [ordI]
  | [], _ :: _ => by simp [ordI]
  | _ :: _, [] => by simp [ordI]
  | a :: l, b :: t => by
    have := ordI_range l t
    simp only [ordI]
    split
    · omega
    · split <;> omega
theorem ordI_zero : ∀ {l t : List Int}, ordI l t = 0 → l = t
  | [], [], _ => rfl
  | [], _ :: _, h => by simp [ordI] at h
  | _ :: _, [], h => by simp [ordI] at h
  | a :: l, b :: t, h => by
    simp only [ordI] at h
    split at h
    · omega
    · split at h
      · omega
      · rw [ordI_zero h, show a = b by omega]
theorem ordI_zero_iff {l t : List Int} : ordI l t = 0 ↔ l = t := ⟨ordI_zero, fun h => h ▸ ordI_self _⟩

/-! ### characters -/
/-- r is a character -/
def Ch (r : Int) : Prop := (0 ≤ r ∧ r < 55296) ∨ (57344 ≤ r ∧ r ≤ 1114111)
theorem ch_valid {r : Int} (h : Ch r) : Utf8.valid r = true := by
  unfold Ch at h
  simp only [Utf8.valid, Bool.or_eq_true, Bool.and_eq_true, decide_eq_true_eq]
  omega
theorem valid_ch {r : Int} (h : Utf8.valid r = true) : Ch r := by
  simp only [Utf8.valid, Bool.or_eq_true, Bool.and_eq_true, decide_eq_true_eq] at h
  unfold Ch
  omega
theorem decode_ch (s : ByteArray) (p : Nat) : Ch (Utf8.decode s p).1 := by
  have hb : ∀ k, (s.get! (p + k)).toNat < 256 := fun k => (s.get! (p + k)).toNat_lt
  have h0 := hb 0; have h1 := hb 1; have h2 := hb 2; have h3 := hb 3
  have hw : Ch (Utf8.runeError : Nat) := by unfold Ch Utf8.runeError; omega
  simp only [Utf8.decode]
  repeat' split
  all_goals first
    | exact hw
    | (rename_i h; simp only [Bool.and_eq_true, decide_eq_true_eq] at h; exact valid_ch h.2)
    | (unfold Ch; simp only [Bool.and_eq_true, beq_iff_eq, decide_eq_true_eq, ge_iff_le] at *; omega)
theorem rsF_ch (s : ByteArray) : ∀ (f p : Nat), ∀ r ∈ rsF s f p, Ch r := by
  intro f
  induction f with
  | zero => intro p r h; simp [rsF] at h
  | succ f ih =>
    intro p r h
    simp only [rsF] at h
    split at h
    · rcases List.mem_cons.1 h with h | h
      · subst h; exact decode_ch s p
      · exact ih _ r h
    · simp at h
theorem rs_ch (s : ByteArray) : ∀ r ∈ rs s, Ch r := rsF_ch s _ 0

/-- a character's bytes -/
def enc (r : Int) : List UInt8 := (Utf8.encode r).data.toList
def encs (l : List Int) : List UInt8 := l.flatMap enc

theorem u8_lt {m n : Nat} (hm : m < 256) (hn : n < 256) : (UInt8.ofNat m < UInt8.ofNat n) ↔ m < n := by
  rw [UInt8.lt_iff_toNat_lt, UInt8.toNat_ofNat', UInt8.toNat_ofNat']; simp only [Nat.reducePow]; omega
theorem u8_eq {m n : Nat} (hm : m < 256) (hn : n < 256) : (UInt8.ofNat m = UInt8.ofNat n) ↔ m = n := by
  rw [← UInt8.toNat_inj, UInt8.toNat_ofNat', UInt8.toNat_ofNat']; simp only [Nat.reducePow]; omega

theorem encode_arms (n : Nat) (hv : Utf8.valid (n : Int) = true) : Utf8.encode (n : Int) =
    if n < 128 then ⟨#[UInt8.ofNat n]⟩ else if n < 2048 then ⟨#[UInt8.ofNat (192 + n / 64), UInt8.ofNat (128 + n % 64)]⟩
    else if n < 65536 then ⟨#[UInt8.ofNat (224 + n / 4096), UInt8.ofNat (128 + n / 64 % 64), UInt8.ofNat (128 + n % 64)]⟩
    else ⟨#[UInt8.ofNat (240 + n / 262144), UInt8.ofNat (128 + n / 4096 % 64), UInt8.ofNat (128 + n / 64 % 64), UInt8.ofNat (128 + n % 64)]⟩ := by
  unfold Utf8.encode
  simp only [hv, if_true, Int.toNat_natCast]
set_option maxRecDepth 1000000 in
theorem enc_cases {r : Int} (h : Ch r) : ∃ n : Nat, r = n ∧
    ((n < 128 ∧ enc r = [UInt8.ofNat n]) ∨
     (128 ≤ n ∧ n < 2048 ∧ enc r = [UInt8.ofNat (192 + n / 64), UInt8.ofNat (128 + n % 64)]) ∨
     (2048 ≤ n ∧ n < 65536 ∧ enc r = [UInt8.ofNat (224 + n / 4096), UInt8.ofNat (128 + n / 64 % 64), UInt8.ofNat (128 + n % 64)]) ∨
     (65536 ≤ n ∧ n ≤ 1114111 ∧ enc r = [UInt8.ofNat (240 + n / 262144), UInt8.ofNat (128 + n / 4096 % 64), UInt8.ofNat (128 + n / 64 % 64), UInt8.ofNat (128 + n % 64)])) := by
  have hv := ch_valid h
  unfold Ch at h
  obtain ⟨n, rfl⟩ := Int.eq_ofNat_of_zero_le (show 0 ≤ r by omega)
  refine ⟨n, rfl, ?_⟩
  unfold enc
  rw [encode_arms n hv]
  by_cases h1 : n < 128
  · exact .inl ⟨h1, by rw [if_pos h1]⟩
  · rw [if_neg h1]
    by_cases h2 : n < 2048
    · exact .inr (.inl ⟨by omega, h2, by rw [if_pos h2]⟩)
    · rw [if_neg h2]
      by_cases h3 : n < 65536
      · exact .inr (.inr (.inl ⟨by omega, h3, by rw [if_pos h3]⟩))
      · exact .inr (.inr (.inr ⟨by omega, by omega, by rw [if_neg h3]⟩))
theorem enc_ne {r : Int} (h : Ch r) : enc r ≠ [] := by
  obtain ⟨n, _, ⟨_, e⟩ | ⟨_, _, e⟩ | ⟨_, _, e⟩ | ⟨_, _, e⟩⟩ := enc_cases h <;> rw [e] <;> simp

/-- one place after another: the first unlike byte decides -/
theorem less_cons {m n : Nat} (hm : m < 256) (hn : n < 256) (L T : List UInt8) :
    Op.bytesLess (UInt8.ofNat m :: L) (UInt8.ofNat n :: T) = (decide (m < n) || (decide (m = n) && Op.bytesLess L T)) := by
  have e1 : decide (UInt8.ofNat m < UInt8.ofNat n) = decide (m < n) := by simp only [u8_lt hm hn]
  have e2 : (UInt8.ofNat m == UInt8.ofNat n) = decide (m = n) := by
    rw [Bool.eq_iff_iff]; simp [u8_eq hm hn]
  simp only [Op.bytesLess, e1, e2]

theorem enc_less {a b : Int} (ha : Ch a) (hb : Ch b) (h : a < b) (L T : List UInt8) : Op.bytesLess (enc a ++ L) (enc b ++ T) = true ∧ Op.bytesLess (enc b ++ T) (enc a ++ L) = false := by
  obtain ⟨m, rfl, hm⟩ := enc_cases ha
  obtain ⟨n, rfl, hn⟩ := enc_cases hb
  have hlt : m < n := by omega
  rcases hm with ⟨m1, e⟩ | ⟨m1, m2, e⟩ | ⟨m1, m2, e⟩ | ⟨m1, m2, e⟩ <;> rcases hn with ⟨n1, f⟩ | ⟨n1, n2, f⟩ | ⟨n1, n2, f⟩ | ⟨n1, n2, f⟩ <;> rw [e, f] <;> clear e f ha hb <;>
    (first | omega | skip) <;> simp only [List.cons_append, List.nil_append] <;> constructor <;>
    (repeat rw [less_cons (by omega) (by omega)]) <;> simp only [Bool.or_eq_true, Bool.and_eq_true, decide_eq_true_eq, Bool.or_eq_false_iff, Bool.and_eq_false_iff, decide_eq_false_iff_not] <;> omega

theorem less_app : ∀ (P A B : List UInt8), Op.bytesLess (P ++ A) (P ++ B) = Op.bytesLess A B
  | [], _, _ => rfl
  | p :: P, A, B => by
    have h : ¬ p < p := by rw [UInt8.lt_iff_toNat_lt]; omega
    simp only [List.cons_append, Op.bytesLess, h, decide_false, Bool.false_or, beq_self_eq_true, Bool.true_and]
    exact less_app P A B
theorem less_encs : ∀ {l t : List Int}, (∀ r ∈ l, Ch r) → (∀ r ∈ t, Ch r) → Op.bytesLess (encs l) (encs t) = decide (ordI l t < 0)
  | [], [], _, _ => by simp [encs, Op.bytesLess, ordI]
  | [], b :: t, _, h2 => by
    have hb := enc_ne (h2 b List.mem_cons_self)
    simp only [encs, List.flatMap_nil, List.flatMap_cons]
    cases he : enc b with
    | nil => exact absurd he hb
    | cons x y => simp [Op.bytesLess, ordI]
  | a :: l, [], _, _ => by
    simp only [encs, List.flatMap_nil]
    cases (List.flatMap enc (a :: l)) <;> simp [Op.bytesLess, ordI]
  | a :: l, b :: t, h1, h2 => by
    have ih := less_encs (l := l) (t := t) (fun r h => h1 r (List.mem_cons_of_mem _ h)) (fun r h => h2 r (List.mem_cons_of_mem _ h))
    have ha := h1 a List.mem_cons_self
    have hb := h2 b List.mem_cons_self
    simp only [encs, List.flatMap_cons] at *
    rcases Int.lt_trichotomy a b with h | h | h
    · rw [(enc_less ha hb h _ _).1]; simp [ordI, h]
    · subst h; rw [less_app, ih]; simp [ordI]
    · rw [(enc_less hb ha h _ _).2]
      have : ¬ a < b := by omega
      simp [ordI, h, this]
theorem encs_inj {l t : List Int} (hl : ∀ r ∈ l, Ch r) (ht : ∀ r ∈ t, Ch r) : encs l = encs t ↔ l = t := by
  refine ⟨fun e => ?_, fun e => by rw [e]⟩
  have h1 := less_encs hl ht
  have h2 := less_encs ht hl
  have h3 := less_encs hl hl
  rw [e] at h1
  rw [e] at h2
  rw [e, ordI_self] at h3
  have hn := ordI_neg l t
  rw [h3] at h1 h2
  simp at h1 h2
  exact ordI_zero (by omega)

theorem runesBytes_fold : ∀ (l : List Int) (s : ByteArray), (l.foldl (fun r n => r ++ Utf8.encode n) s).data.toList = s.data.toList ++ encs l
  | [], s => by simp [encs]
  | a :: l, s => by
    rw [List.foldl_cons, runesBytes_fold l]
    simp [encs, enc, ByteArray.data_append]
theorem runesBytes_list (l : List Int) : (runesBytes l).data.toList = encs l := by
  unfold runesBytes
  rw [runesBytes_fold]
  simp
theorem runesBytes_less {l t : List Int} (hl : ∀ r ∈ l, Ch r) (ht : ∀ r ∈ t, Ch r) : Op.bytesLess (runesBytes l).toList (runesBytes t).toList = decide (ordI l t < 0) := by
  rw [ByteArray.toList_eq, ByteArray.toList_eq, runesBytes_list, runesBytes_list, less_encs hl ht]
theorem runesBytes_eq {l t : List Int} (hl : ∀ r ∈ l, Ch r) (ht : ∀ r ∈ t, Ch r) : ((runesBytes l).toList == (runesBytes t).toList) = (ordI l t == 0) := by
  rw [ByteArray.toList_eq, ByteArray.toList_eq, runesBytes_list, runesBytes_list, Bool.eq_iff_iff]
  simp [encs_inj hl ht, ordI_zero_iff]
set_option maxRecDepth 1000000 in
theorem dec_enc {r : Int} (h : Ch r) (t : List UInt8) : Lib.decodeL (enc r ++ t) = (r.toNat, (enc r).length) := by
  obtain ⟨n, rfl, hc⟩ := enc_cases h
  rw [Lib.decodeL_N]
  rcases hc with ⟨n1, e⟩ | ⟨n1, n2, e⟩ | ⟨n1, n2, e⟩ | ⟨n1, n2, e⟩
  · rw [e]
    have h0 : (UInt8.ofNat n).toNat = n := by rw [UInt8.toNat_ofNat']; omega
    simp only [List.cons_append, List.nil_append, List.getD_cons_zero, h0, Lib.decodeN, n1, if_true, List.length_cons, List.length_nil, Int.toNat_natCast]
  · rw [e]
    have h0 : (UInt8.ofNat (192 + n / 64)).toNat = 192 + n / 64 := by rw [UInt8.toNat_ofNat']; omega
    have h1 : (UInt8.ofNat (128 + n % 64)).toNat = 128 + n % 64 := by rw [UInt8.toNat_ofNat']; omega
    simp only [List.cons_append, List.nil_append, List.getD_cons_zero, List.getD_cons_succ, h0, h1, List.length_cons, List.length_nil, Int.toNat_natCast]
    unfold Lib.decodeN
    rw [if_neg (by omega), if_pos (by omega), if_pos (by omega)]
    exact Prod.ext (by simp only []; omega) rfl
  · rw [e]
    have h0 : (UInt8.ofNat (224 + n / 4096)).toNat = 224 + n / 4096 := by rw [UInt8.toNat_ofNat']; omega
    have h1 : (UInt8.ofNat (128 + n / 64 % 64)).toNat = 128 + n / 64 % 64 := by rw [UInt8.toNat_ofNat']; omega
    have h2 : (UInt8.ofNat (128 + n % 64)).toNat = 128 + n % 64 := by rw [UInt8.toNat_ofNat']; omega
    unfold Ch at h
    have hx : (224 + n / 4096) % 16 * 4096 + (128 + n / 64 % 64) % 64 * 64 + (128 + n % 64) % 64 = n := by omega
    simp only [List.cons_append, List.nil_append, List.getD_cons_zero, List.getD_cons_succ, h0, h1, h2, List.length_cons, List.length_nil, Int.toNat_natCast]
    unfold Lib.decodeN
    rw [hx, if_neg (by omega), if_neg (by omega), if_pos (by omega), if_pos (by omega)]
  · rw [e]
    have h0 : (UInt8.ofNat (240 + n / 262144)).toNat = 240 + n / 262144 := by rw [UInt8.toNat_ofNat']; omega
    have h1 : (UInt8.ofNat (128 + n / 4096 % 64)).toNat = 128 + n / 4096 % 64 := by rw [UInt8.toNat_ofNat']; omega
    have h2 : (UInt8.ofNat (128 + n / 64 % 64)).toNat = 128 + n / 64 % 64 := by rw [UInt8.toNat_ofNat']; omega
    have h3 : (UInt8.ofNat (128 + n % 64)).toNat = 128 + n % 64 := by rw [UInt8.toNat_ofNat']; omega
    have hx : (240 + n / 262144) % 8 * 262144 + (128 + n / 4096 % 64) % 64 * 4096 + (128 + n / 64 % 64) % 64 * 64 + (128 + n % 64) % 64 = n := by omega
    simp only [List.cons_append, List.nil_append, List.getD_cons_zero, List.getD_cons_succ, h0, h1, h2, h3, List.length_cons, List.length_nil, Int.toNat_natCast]
    unfold Lib.decodeN
    rw [hx, if_neg (by omega), if_neg (by omega), if_neg (by omega), if_pos (by omega), if_pos (by omega)]
theorem enc_len {r : Int} (h : Ch r) : 1 ≤ (enc r).length ∧ (enc r).length ≤ 4 ∧ ((enc r).length = 1 → r < 128) := by
  obtain ⟨n, rfl, hc⟩ := enc_cases h
  rcases hc with ⟨n1, e⟩ | ⟨n1, n2, e⟩ | ⟨n1, n2, e⟩ | ⟨n1, n2, e⟩ <;> rw [e] <;> simp <;> omega
/-- a text of characters reads as them -/
theorem read_encs : ∀ {l : List Int}, (∀ r ∈ l, Ch r) → ∀ {s : ByteArray} {p : Nat}, s.data.toList.drop p = encs l → rsAt s p = l
  | [], _, s, p, h => by
    have hp : ¬ p < s.size := by
      intro hp
      have := List.drop_eq_nil_iff.1 h
      have := Lib.size_eq s
      omega
    exact rsAt_end hp
  | r :: l, hl, s, p, h => by
    have hr := hl r List.mem_cons_self
    have h' : s.data.toList.drop p = enc r ++ encs l := h
    have hlen := enc_len hr
    have hp : p < s.size := by
      have h1 := congrArg List.length h'
      have := Lib.size_eq s
      simp at h1
      omega
    have hd : Utf8.decode s p = (r.toNat, (enc r).length) := by rw [← Lib.decodeL_drop, h', dec_enc hr]
    have ht : s.data.toList.drop (p + (enc r).length) = encs l := by rw [← List.drop_drop, h', List.drop_left]
    have i1 := read_encs (fun x hx => hl x (List.mem_cons_of_mem _ hx)) ht
    have hr0 : 0 ≤ r := by unfold Ch at hr; omega
    rw [rsAt_next hp, hd, i1]; simp; omega
theorem rs_mend (s : ByteArray) : rs (runesBytes (rs s)) = rs s := read_encs (rs_ch s) (by rw [List.drop_zero]; exact runesBytes_list _)
end Gim
