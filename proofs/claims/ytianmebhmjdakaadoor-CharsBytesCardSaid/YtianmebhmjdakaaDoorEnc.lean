/- The bytes of characters, and what is read out of them. Plain laws: no program in sight. -/
import Derived.Test.YtianmebhmjdakaaDoorNameLaw
import Derived.Laws.Cover4
namespace Gim
open Go
def Ch (r : Int) : Prop := (0 ≤ r ∧ r < 55296) ∨ (57344 ≤ r ∧ r ≤ 1114111)
theorem ch_valid {r : Int} (h : Ch r) : Utf8.valid r = true := by
  unfold Ch at h
  simp only [Utf8.valid, Bool.or_eq_true, Bool.and_eq_true, decide_eq_true_eq]
  omega

/-- a character's bytes -/
def enc (r : Int) : List UInt8 := (Utf8.encode r).data.toList
def encs (l : List Int) : List UInt8 := l.flatMap enc

theorem u8_lt {m n : Nat} (hm : m < 256) (hn : n < 256) : (UInt8.ofNat m < UInt8.ofNat n) ↔ m < n := by
  rw [UInt8.lt_iff_toNat_lt, UInt8.toNat_ofNat', UInt8.toNat_ofNat']; simp only [Nat.reducePow]; omega
theorem u8_eq {m n : Nat} (hm : m < 256) (hn : n < 256) : (UInt8.ofNat m = UInt8.ofNat n) ↔ m = n := by
  rw [← UInt8.toNat_inj, UInt8.toNat_ofNat', UInt8.toNat_ofNat']; simp only [Nat.reducePow]; omega

theorem encode_arms (n : Nat) (hv : Utf8.valid (n : Int) = true) : Utf8.encode (n : Int) =
    if n < 128 then ⟨#[UInt8.ofNat n]⟩ else if n < 2048 then ⟨#[UInt8.ofNat (192 + n / 64), UInt8.ofNat (128 + n % 64)]⟩
    else if n < 65536 then ⟨#[UInt8.ofNat (224 + n / 4096), UInt8.ofNat (128 + n / 64 % 64), UInt8.ofNat (128 + n % 64)]⟩
    else ⟨#[UInt8.ofNat (240 + n / 262144), UInt8.ofNat (128 + n / 4096 % 64), UInt8.ofNat (128 + n / 64 % 64), UInt8.ofNat (128 + n % 64)]⟩ := by
  unfold Utf8.encode
  simp only [hv, if_true, Int.toNat_natCast]
set_option maxRecDepth 1000000 in
theorem enc_cases {r : Int} (h : Ch r) : ∃ n : Nat, r = n ∧
    ((n < 128 ∧ enc r = [UInt8.ofNat n]) ∨
     (128 ≤ n ∧ n < 2048 ∧ enc r = [UInt8.ofNat (192 + n / 64), UInt8.ofNat (128 + n % 64)]) ∨
     (2048 ≤ n ∧ n < 65536 ∧ enc r = [UInt8.ofNat (224 + n / 4096), UInt8.ofNat (128 + n / 64 % 64), UInt8.ofNat (128 + n % 64)]) ∨
     (65536 ≤ n ∧ n ≤ 1114111 ∧ enc r = [UInt8.ofNat (240 + n / 262144), UInt8.ofNat (128 + n / 4096 % 64), UInt8.ofNat (128 + n / 64 % 64), UInt8.ofNat (128 + n % 64)])) := by
  have hv := ch_valid h
  unfold Ch at h
  obtain ⟨n, rfl⟩ := Int.eq_ofNat_of_zero_le (show 0 ≤ r by omega)
  refine ⟨n, rfl, ?_⟩
  unfold enc
  rw [encode_arms n hv]
  by_cases h1 : n < 128
  · exact .inl ⟨h1, by rw [if_pos h1]⟩
  · rw [if_neg h1]
    by_cases h2 : n < 2048
    · exact .inr (.inl ⟨by omega, h2, by rw [if_pos h2]⟩)
    · rw [if_neg h2]
      by_cases h3 : n < 65536
      · exact .inr (.inr (.inl ⟨by omega, h3, by rw [if_pos h3]⟩))
      · exact .inr (.inr (.inr ⟨by omega, by omega, by rw [if_neg h3]⟩))
theorem enc_ne {r : Int} (h : Ch r) : enc r ≠ [] := by
  obtain ⟨n, _, ⟨_, e⟩ | ⟨_, _, e⟩ | ⟨_, _, e⟩ | ⟨_, _, e⟩⟩ := enc_cases h <;> rw [e] <;> simp

theorem runesBytes_fold : ∀ (l : List Int) (s : ByteArray), (l.foldl (fun r n => r ++ Utf8.encode n) s).data.toList = s.data.toList ++ encs l
  | [], s => by simp [encs]
  | a :: l, s => by
    rw [List.foldl_cons, runesBytes_fold l]
    simp [encs, enc, ByteArray.data_append]
theorem runesBytes_list (l : List Int) : (runesBytes l).data.toList = encs l := by
  unfold runesBytes
  rw [runesBytes_fold]
  simp

set_option maxRecDepth 1000000 in
theorem dec_enc {r : Int} (h : Ch r) (t : List UInt8) : Lib.decodeL (enc r ++ t) = (r.toNat, (enc r).length) := by
  obtain ⟨n, rfl, hc⟩ := enc_cases h
  rw [Lib.decodeL_N]
  rcases hc with ⟨n1, e⟩ | ⟨n1, n2, e⟩ | ⟨n1, n2, e⟩ | ⟨n1, n2, e⟩
  · rw [e]
    have h0 : (UInt8.ofNat n).toNat = n := by rw [UInt8.toNat_ofNat']; omega
    simp only [List.cons_append, List.nil_append, List.getD_cons_zero, h0, Lib.decodeN, n1, if_true, List.length_cons, List.length_nil, Int.toNat_natCast]
  · rw [e]
    have h0 : (UInt8.ofNat (192 + n / 64)).toNat = 192 + n / 64 := by rw [UInt8.toNat_ofNat']; omega
    have h1 : (UInt8.ofNat (128 + n % 64)).toNat = 128 + n % 64 := by rw [UInt8.toNat_ofNat']; omega
    simp only [List.cons_append, List.nil_append, List.getD_cons_zero, List.getD_cons_succ, h0, h1, List.length_cons, List.length_nil, Int.toNat_natCast]
    unfold Lib.decodeN
    rw [if_neg (by omega), if_pos (by omega), if_pos (by omega)]
    exact Prod.ext (by simp only []; omega) rfl
  · rw [e]
    have h0 : (UInt8.ofNat (224 + n / 4096)).toNat = 224 + n / 4096 := by rw [UInt8.toNat_ofNat']; omega
    have h1 : (UInt8.ofNat (128 + n / 64 % 64)).toNat = 128 + n / 64 % 64 := by rw [UInt8.toNat_ofNat']; omega
    have h2 : (UInt8.ofNat (128 + n % 64)).toNat = 128 + n % 64 := by rw [UInt8.toNat_ofNat']; omega
    unfold Ch at h
    have hx : (224 + n / 4096) % 16 * 4096 + (128 + n / 64 % 64) % 64 * 64 + (128 + n % 64) % 64 = n := by omega
    simp only [List.cons_append, List.nil_append, List.getD_cons_zero, List.getD_cons_succ, h0, h1, h2, List.length_cons, List.length_nil, Int.toNat_natCast]
    unfold Lib.decodeN
    rw [hx, if_neg (by omega), if_neg (by omega), if_pos (by omega), if_pos (by omega)]
  · rw [e]
    have h0 : (UInt8.ofNat (240 + n / 262144)).toNat = 240 + n / 262144 := by rw [UInt8.toNat_ofNat']; omega
    have h1 : (UInt8.ofNat (128 + n / 4096 % 64)).toNat = 128 + n / 4096 % 64 := by rw [UInt8.toNat_ofNat']; omega
    have h2 : (UInt8.ofNat (128 + n / 64 % 64)).toNat = 128 + n / 64 % 64 := by rw [UInt8.toNat_ofNat']; omega
    have h3 : (UInt8.ofNat (128 + n % 64)).toNat = 128 + n % 64 := by rw [UInt8.toNat_ofNat']; omega
    have hx : (240 + n / 262144) % 8 * 262144 + (128 + n / 4096 % 64) % 64 * 4096 + (128 + n / 64 % 64) % 64 * 64 + (128 + n % 64) % 64 = n := by omega
    simp only [List.cons_append, List.nil_append, List.getD_cons_zero, List.getD_cons_succ, h0, h1, h2, h3, List.length_cons, List.length_nil, Int.toNat_natCast]
    unfold Lib.decodeN
    rw [hx, if_neg (by omega), if_neg (by omega), if_neg (by omega), if_pos (by omega), if_pos (by omega)]
theorem enc_len {r : Int} (h : Ch r) : 1 ≤ (enc r).length ∧ (enc r).length ≤ 4 ∧ ((enc r).length = 1 → r < 128) := by
  obtain ⟨n, rfl, hc⟩ := enc_cases h
  rcases hc with ⟨n1, e⟩ | ⟨n1, n2, e⟩ | ⟨n1, n2, e⟩ | ⟨n1, n2, e⟩ <;> rw [e] <;> simp <;> omega
/-- a text of characters reads as them -/
theorem read_encs : ∀ {l : List Int}, (∀ r ∈ l, Ch r) → ∀ {s : ByteArray} {p : Nat}, s.data.toList.drop p = encs l → rsAt s p = l ∧ val s p = true
  | [], _, s, p, h => by
    have hp : ¬ p < s.size := by
      intro hp
      have := List.drop_eq_nil_iff.1 h
      have := Lib.size_eq s
      omega
    exact ⟨rsAt_end hp, val_end hp⟩
  | r :: l, hl, s, p, h => by
    have hr := hl r List.mem_cons_self
    have h' : s.data.toList.drop p = enc r ++ encs l := h
    have hlen := enc_len hr
    have hp : p < s.size := by
      have h1 := congrArg List.length h'
      have := Lib.size_eq s
      simp at h1
      omega
    have hd : Utf8.decode s p = (r.toNat, (enc r).length) := by rw [← Lib.decodeL_drop, h', dec_enc hr]
    have ht : s.data.toList.drop (p + (enc r).length) = encs l := by rw [← List.drop_drop, h', List.drop_left]
    obtain ⟨i1, i2⟩ := read_encs (fun x hx => hl x (List.mem_cons_of_mem _ hx)) ht
    have hr0 : 0 ≤ r := by unfold Ch at hr; omega
    constructor
    · rw [rsAt_next hp, hd, i1]; simp; omega
    · rw [val_next hp, hd, if_neg, i2]
      rintro ⟨e1, e2⟩
      have := hlen.2.2 e2
      simp only [] at e1
      omega
end Gim
