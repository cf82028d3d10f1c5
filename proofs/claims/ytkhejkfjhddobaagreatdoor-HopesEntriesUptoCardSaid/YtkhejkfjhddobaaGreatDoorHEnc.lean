/- The bytes of characters and what is read out of them; a valid text is its characters; names lie by their bytes as by their characters (printed by wip/mkhread.py). -/
import Derived.Test.YtkhejkfjhddobaaGreatDoorClsM
import Derived.Test.YtkhejkfjhddobaaGreatDoorUnitsM
import Derived.Laws.Cover4
import Derived.Lib.ValidLaws
import Derived.Lib.MapLaws
import Derived.Lib.RuneBytes
import Derived.Lib.LazyBuf
namespace Gim
open Go
set_option maxRecDepth 1000000 in
theorem dec_enc {r : Int} (h : Ch r) (t : List UInt8) : Lib.decodeL (enc r ++ t) = (r.toNat, (enc r).length) := by
  obtain ⟨n, rfl, hc⟩ := enc_cases h
  rw [Lib.decodeL_N]
  rcases hc with ⟨n1, e⟩ | ⟨n1, n2, e⟩ | ⟨n1, n2, e⟩ | ⟨n1, n2, e⟩
  · rw [e]
    have h0 : (UInt8.ofNat n).toNat = n := by rw [UInt8.toNat_ofNat']; omega
    simp only [List.cons_append, List.nil_append, List.getD_cons_zero, h0, Lib.decodeN, n1, if_true, List.length_cons, List.length_nil, Int.toNat_natCast]
  · rw [e]
    have h0 : (UInt8.ofNat (192 + n / 64)).toNat = 192 + n / 64 := by rw [UInt8.toNat_ofNat']; omega
    have h1 : (UInt8.ofNat (128 + n % 64)).toNat = 128 + n % 64 := by rw [UInt8.toNat_ofNat']; omega
    simp only [List.cons_append, List.nil_append, List.getD_cons_zero, List.getD_cons_succ, h0, h1, List.length_cons, List.length_nil, Int.toNat_natCast]
    unfold Lib.decodeN
    rw [if_neg (by omega), if_pos (by omega), if_pos (by omega)]
    exact Prod.ext (by simp only []; omega) rfl
  · rw [e]
    have h0 : (UInt8.ofNat (224 + n / 4096)).toNat = 224 + n / 4096 := by rw [UInt8.toNat_ofNat']; omega
    have h1 : (UInt8.ofNat (128 + n / 64 % 64)).toNat = 128 + n / 64 % 64 := by rw [UInt8.toNat_ofNat']; omega
    have h2 : (UInt8.ofNat (128 + n % 64)).toNat = 128 + n % 64 := by rw [UInt8.toNat_ofNat']; omega
    unfold Ch at h
    have hx : (224 + n / 4096) % 16 * 4096 + (128 + n / 64 % 64) % 64 * 64 + (128 + n % 64) % 64 = n := by omega
    simp only [List.cons_append, List.nil_append, List.getD_cons_zero, List.getD_cons_succ, h0, h1, h2, List.length_cons, List.length_nil, Int.toNat_natCast]
    unfold Lib.decodeN
    rw [hx, if_neg (by omega), if_neg (by omega), if_pos (by omega), if_pos (by omega)]
  · rw [e]
    have h0 : (UInt8.ofNat (240 + n / 262144)).toNat = 240 + n / 262144 := by rw [UInt8.toNat_ofNat']; omega
    have h1 : (UInt8.ofNat (128 + n / 4096 % 64)).toNat = 128 + n / 4096 % 64 := by rw [UInt8.toNat_ofNat']; omega
    have h2 : (UInt8.ofNat (128 + n / 64 % 64)).toNat = 128 + n / 64 % 64 := by rw [UInt8.toNat_ofNat']; omega
    have h3 : (UInt8.ofNat (128 + n % 64)).toNat = 128 + n % 64 := by rw [UInt8.toNat_ofNat']; omega
    have hx : (240 + n / 262144) % 8 * 262144 + (128 + n / 4096 % 64) % 64 * 4096 + (128 + n / 64 % 64) % 64 * 64 + (128 + n % 64) % 64 = n := by omega
    simp only [List.cons_append, List.nil_append, List.getD_cons_zero, List.getD_cons_succ, h0, h1, h2, h3, List.length_cons, List.length_nil, Int.toNat_natCast]
    unfold Lib.decodeN
    rw [hx, if_neg (by omega), if_neg (by omega), if_neg (by omega), if_pos (by omega), if_pos (by omega)]
theorem enc_len {r : Int} (h : Ch r) : 1 ≤ (enc r).length ∧ (enc r).length ≤ 4 ∧ ((enc r).length = 1 → r < 128) := by
  obtain ⟨n, rfl, hc⟩ := enc_cases h
  rcases hc with ⟨n1, e⟩ | ⟨n1, n2, e⟩ | ⟨n1, n2, e⟩ | ⟨n1, n2, e⟩ <;> rw [e] <;> simp <;> omega
/-- a text of characters reads as them -/
theorem read_encs : ∀ {l : List Int}, (∀ r ∈ l, Ch r) → ∀ {s : ByteArray} {p : Nat}, s.data.toList.drop p = encs l → rsAt s p = l ∧ val s p = true
  | [], _, s, p, h => by
    have hp : ¬ p < s.size := by
      intro hp
      have := List.drop_eq_nil_iff.1 h
      have := Lib.size_eq s
      omega
    exact ⟨rsAt_end hp, val_end hp⟩
  | r :: l, hl, s, p, h => by
    have hr := hl r List.mem_cons_self
    have h' : s.data.toList.drop p = enc r ++ encs l := h
    have hlen := enc_len hr
    have hp : p < s.size := by
      have h1 := congrArg List.length h'
      have := Lib.size_eq s
      simp at h1
      omega
    have hd : Utf8.decode s p = (r.toNat, (enc r).length) := by rw [← Lib.decodeL_drop, h', dec_enc hr]
    have ht : s.data.toList.drop (p + (enc r).length) = encs l := by rw [← List.drop_drop, h', List.drop_left]
    obtain ⟨i1, i2⟩ := read_encs (fun x hx => hl x (List.mem_cons_of_mem _ hx)) ht
    have hr0 : 0 ≤ r := by unfold Ch at hr; omega
    constructor
    · rw [rsAt_next hp, hd, i1]; simp; omega
    · rw [val_next hp, hd, if_neg, i2]
      rintro ⟨e1, e2⟩
      have := hlen.2.2 e2
      simp only [] at e1
      omega
section
open Go.Lib
theorem encs_cons (a : Int) (b : List Int) : encs (a :: b) = enc a ++ encs b := by simp [encs]
theorem encs_append (a b : List Int) : encs (a ++ b) = encs a ++ encs b := by simp [encs]
theorem enc_back {v : Int} (h : Ch v) : encodeRune v = enc v := by
  have hv := h
  unfold Ch at hv
  unfold encodeRune
  obtain ⟨n, rfl, ⟨h1, e⟩ | ⟨h1, h2, e⟩ | ⟨h1, h2, e⟩ | ⟨h1, h2, e⟩⟩ := enc_cases h
  · rw [e, encodeRuneZ_one (by omega) (by omega)]
    simp
  · rw [e, encodeRuneZ_two (by omega) (by omega)]
    simp only [List.map_cons, List.map_nil]
    congr 1
  · rw [e, encodeRuneZ_three (by omega)]
    simp only [List.map_cons, List.map_nil]
    congr 1
  · rw [e, encodeRuneZ_four (by omega) (by omega)]
    simp only [List.map_cons, List.map_nil]
    congr 1
theorem valid_reads (s : ByteArray) : ∀ (f p : Nat), s.size ≤ p + f → validD (s.data.toList.drop p) = true → encs (rsAt s p) = s.data.toList.drop p
  | 0, p, hf, _ => by
    have := Lib.size_eq s
    rw [rsAt_end (by omega), List.drop_of_length_le (by omega)]
    rfl
  | f + 1, p, hf, h => by
    have hz := Lib.size_eq s
    by_cases hp : p < s.size
    · have hne : s.data.toList.drop p ≠ [] := fun k => by have := List.drop_eq_nil_iff.1 k; omega
      rw [validD_step _ hne] at h
      by_cases hb : (decodeL (s.data.toList.drop p)).1 = 65533 ∧ (decodeL (s.data.toList.drop p)).2 = 1
      · rw [if_pos hb] at h; cases h
      · rw [if_neg hb, List.drop_drop] at h
        have hw := Lib.decode_width_pos s p hp
        have ed := encode_decode _ hne hb
        rw [decodeL_drop] at h ed
        have ih := valid_reads s f (p + (Utf8.decode s p).2) (by omega) h
        rw [enc_back (decode_ch s p)] at ed
        rw [rsAt_next hp, encs_cons, ih, ed, ← List.drop_drop, List.take_append_drop]
    · rw [rsAt_end hp, List.drop_of_length_le (by omega)]
      rfl
theorem valid_same {s : ByteArray} (h : validD s.data.toList = true) : runesBytes (rs s) = s := by
  have h1 := valid_reads s s.size 0 (by omega) (by rw [List.drop_zero]; exact h)
  rw [List.drop_zero] at h1
  have h2 := runesBytes_list (rs s)
  have h3 : (runesBytes (rs s)).data.toList = s.data.toList := h2.trans h1
  cases hs : runesBytes (rs s)
  cases s
  rw [hs] at h3
  simp only [ByteArray.mk.injEq]
  exact Array.toList_inj.1 h3
end
theorem name_same {s : ByteArray} (h : nameB s = true) : runesBytes (rs s) = s := by
  unfold nameB at h
  rw [Bool.and_eq_true] at h
  exact valid_same h.2
theorem name_less {s t : ByteArray} (hs : nameB s = true) (ht : nameB t = true) : Op.bytesLess s.toList t.toList = decide (ordI (rs s) (rs t) < 0) := by
  have h := runesBytes_less (rs_ch s) (rs_ch t)
  rwa [name_same hs, name_same ht] at h
end Gim

