/- A text is its pieces: plain. -/
import Derived.Test.YtnhhnlbfgipebaaDoorFind
import Derived.Test.YtnhhnlbfgipebaaDoorUnits
import Derived.Test.YtnhhnlbfgipebaaDoorRev
import Derived.Test.YtnhhnlbfgipebaaDoorOrdMath
import Derived.Test.YtnhhnlbfgipebaaDoorByteOrd
import Derived.Lib.ValidLaws
import Derived.Lib.MapLaws
import Derived.Lib.RuneBytes
import Derived.Lib.LazyBuf
namespace Gim
open Go Go.Lib
theorem dec_enc {r : Int} (h : Ch r) (t : List UInt8) : Lib.decodeL (enc r ++ t) = (r.toNat, (enc r).length) := by
  obtain ⟨n, rfl, hc⟩ := enc_cases h
  rw [Lib.decodeL_N]
  rcases hc with ⟨n1, e⟩ | ⟨n1, n2, e⟩ | ⟨n1, n2, e⟩ | ⟨n1, n2, e⟩
  · rw [e]
    have h0 : (UInt8.ofNat n).toNat = n := by rw [UInt8.toNat_ofNat']; omega
    simp only [List.cons_append, List.nil_append, List.getD_cons_zero, h0, Lib.decodeN, n1, if_true, List.length_cons, List.length_nil, Int.toNat_natCast]
  · rw [e]
    have h0 : (UInt8.ofNat (192 + n / 64)).toNat = 192 + n / 64 := by rw [UInt8.toNat_ofNat']; omega
    have h1 : (UInt8.ofNat (128 + n % 64)).toNat = 128 + n % 64 := by rw [UInt8.toNat_ofNat']; omega
    simp only [List.cons_append, List.nil_append, List.getD_cons_zero, List.getD_cons_succ, h0, h1, List.length_cons, List.length_nil, Int.toNat_natCast]
    unfold Lib.decodeN
    rw [if_neg (by omega), if_pos (by omega), if_pos (by omega)]
    exact Prod.ext (by simp only []; omega) rfl
  · rw [e]
    have h0 : (UInt8.ofNat (224 + n / 4096)).toNat = 224 + n / 4096 := by rw [UInt8.toNat_ofNat']; omega
    have h1 : (UInt8.ofNat (128 + n / 64 % 64)).toNat = 128 + n / 64 % 64 := by rw [UInt8.toNat_ofNat']; omega
    have h2 : (UInt8.ofNat (128 + n % 64)).toNat = 128 + n % 64 := by rw [UInt8.toNat_ofNat']; omega
    unfold Ch at h
    have hx : (224 + n / 4096) % 16 * 4096 + (128 + n / 64 % 64) % 64 * 64 + (128 + n % 64) % 64 = n := by omega
    simp only [List.cons_append, List.nil_append, List.getD_cons_zero, List.getD_cons_succ, h0, h1, h2, List.length_cons, List.length_nil, Int.toNat_natCast]
    unfold Lib.decodeN
    rw [hx, if_neg (by omega), if_neg (by omega), if_pos (by omega), if_pos (by omega)]
  · rw [e]
    have h0 : (UInt8.ofNat (240 + n / 262144)).toNat = 240 + n / 262144 := by rw [UInt8.toNat_ofNat']; omega
    have h1 : (UInt8.ofNat (128 + n / 4096 % 64)).toNat = 128 + n / 4096 % 64 := by rw [UInt8.toNat_ofNat']; omega
    have h2 : (UInt8.ofNat (128 + n / 64 % 64)).toNat = 128 + n / 64 % 64 := by rw [UInt8.toNat_ofNat']; omega
    have h3 : (UInt8.ofNat (128 + n % 64)).toNat = 128 + n % 64 := by rw [UInt8.toNat_ofNat']; omega
    have hx : (240 + n / 262144) % 8 * 262144 + (128 + n / 4096 % 64) % 64 * 4096 + (128 + n / 64 % 64) % 64 * 64 + (128 + n % 64) % 64 = n := by omega
    simp only [List.cons_append, List.nil_append, List.getD_cons_zero, List.getD_cons_succ, h0, h1, h2, h3, List.length_cons, List.length_nil, Int.toNat_natCast]
    unfold Lib.decodeN
    rw [hx, if_neg (by omega), if_neg (by omega), if_neg (by omega), if_pos (by omega), if_pos (by omega)]
theorem enc_len {r : Int} (h : Ch r) : 1 ≤ (enc r).length ∧ (enc r).length ≤ 4 ∧ ((enc r).length = 1 → r < 128) := by
  obtain ⟨n, rfl, hc⟩ := enc_cases h
  rcases hc with ⟨n1, e⟩ | ⟨n1, n2, e⟩ | ⟨n1, n2, e⟩ | ⟨n1, n2, e⟩ <;> rw [e] <;> simp <;> omega
theorem encs_cons (a : Int) (b : List Int) : encs (a :: b) = enc a ++ encs b := by simp [encs]
theorem encs_append (a b : List Int) : encs (a ++ b) = encs a ++ encs b := by simp [encs]
/-- a text of characters reads as them -/
theorem read_encs : ∀ {l : List Int}, (∀ r ∈ l, Ch r) → ∀ {s : ByteArray} {p : Nat}, s.data.toList.drop p = encs l → rsAt s p = l
  | [], _, s, p, h => by
    have hp : ¬ p < s.size := by
      intro hp
      have := List.drop_eq_nil_iff.1 h
      have := Lib.size_eq s
      omega
    exact rsAt_end hp
  | r :: l, hl, s, p, h => by
    have hr := hl r List.mem_cons_self
    have h' : s.data.toList.drop p = enc r ++ encs l := h
    have hlen := enc_len hr
    have hp : p < s.size := by
      have h1 := congrArg List.length h'
      have := Lib.size_eq s
      simp at h1
      omega
    have hd : Utf8.decode s p = (r.toNat, (enc r).length) := by rw [← Lib.decodeL_drop, h', dec_enc hr]
    have ht : s.data.toList.drop (p + (enc r).length) = encs l := by rw [← List.drop_drop, h', List.drop_left]
    have i1 := read_encs (fun x hx => hl x (List.mem_cons_of_mem _ hx)) ht
    have hr0 : 0 ≤ r := by unfold Ch at hr; omega
    rw [rsAt_next hp, hd, i1]; simp; omega
theorem rs_text {l : List Int} (h : ∀ r ∈ l, Ch r) : rs (runesBytes l) = l := read_encs h (by rw [List.drop_zero]; exact runesBytes_list _)
theorem validD_encs : ∀ {l : List Int}, (∀ r ∈ l, Ch r) → validD (encs l) = true
  | [], _ => validD_nil
  | r :: l, h => by
    have hr := h r List.mem_cons_self
    have hlen := enc_len hr
    have hr0 : 0 ≤ r := by unfold Ch at hr; omega
    rw [encs_cons, validD_step _ (fun k => by have := congrArg List.length k; rw [List.length_append, List.length_nil] at this; omega), dec_enc hr]
    dsimp only
    rw [if_neg (by intro k; have := hlen.2.2 k.2; omega), List.drop_left]
    exact validD_encs (fun x hx => h x (List.mem_cons_of_mem _ hx))
theorem enc_back {v : Int} (h : Ch v) : encodeRune v = enc v := by
  have hv := h
  unfold Ch at hv
  unfold encodeRune
  obtain ⟨n, rfl, ⟨h1, e⟩ | ⟨h1, h2, e⟩ | ⟨h1, h2, e⟩ | ⟨h1, h2, e⟩⟩ := enc_cases h
  · rw [e, encodeRuneZ_one (by omega) (by omega)]
    simp
  · rw [e, encodeRuneZ_two (by omega) (by omega)]
    simp only [List.map_cons, List.map_nil]
    congr 1
  · rw [e, encodeRuneZ_three (by omega)]
    simp only [List.map_cons, List.map_nil]
    congr 1
  · rw [e, encodeRuneZ_four (by omega) (by omega)]
    simp only [List.map_cons, List.map_nil]
    congr 1
theorem valid_reads (s : ByteArray) : ∀ (f p : Nat), s.size ≤ p + f → validD (s.data.toList.drop p) = true → encs (rsAt s p) = s.data.toList.drop p
  | 0, p, hf, _ => by
    have := Lib.size_eq s
    rw [rsAt_end (by omega), List.drop_of_length_le (by omega)]
    rfl
  | f + 1, p, hf, h => by
    have hz := Lib.size_eq s
    by_cases hp : p < s.size
    · have hne : s.data.toList.drop p ≠ [] := fun k => by have := List.drop_eq_nil_iff.1 k; omega
      rw [validD_step _ hne] at h
      by_cases hb : (decodeL (s.data.toList.drop p)).1 = 65533 ∧ (decodeL (s.data.toList.drop p)).2 = 1
      · rw [if_pos hb] at h; cases h
      · rw [if_neg hb, List.drop_drop] at h
        have hw := Lib.decode_width_pos s p hp
        have ed := encode_decode _ hne hb
        rw [decodeL_drop] at h ed
        have ih := valid_reads s f (p + (Utf8.decode s p).2) (by omega) h
        rw [enc_back (decode_ch s p)] at ed
        rw [rsAt_next hp, encs_cons, ih, ed, ← List.drop_drop, List.take_append_drop]
    · rw [rsAt_end hp, List.drop_of_length_le (by omega)]
      rfl
theorem valid_same {s : ByteArray} (h : validD s.data.toList = true) : runesBytes (rs s) = s := by
  have h1 := valid_reads s s.size 0 (by omega) (by rw [List.drop_zero]; exact h)
  rw [List.drop_zero] at h1
  have h2 := runesBytes_list (rs s)
  have h3 : (runesBytes (rs s)).data.toList = s.data.toList := h2.trans h1
  cases hs : runesBytes (rs s)
  cases s
  rw [hs] at h3
  simp only [ByteArray.mk.injEq]
  exact Array.toList_inj.1 h3
theorem text_app (a b : List Int) : runesBytes a ++ runesBytes b = runesBytes (a ++ b) := by
  have h : (runesBytes a ++ runesBytes b).data.toList = (runesBytes (a ++ b)).data.toList := by
    rw [runesBytes_list, encs_append, ← runesBytes_list a, ← runesBytes_list b]
    simp [ByteArray.data_append]
  cases h1 : runesBytes a ++ runesBytes b
  cases h2 : runesBytes (a ++ b)
  rw [h1, h2] at h
  simp only [ByteArray.mk.injEq]
  exact Array.toList_inj.1 h
/-- what Find answers -/
theorem findI_spec (l t : List Int) : (∃ p : Nat, findI l t = p ∧ standsB l t p = true ∧ ∀ q, q < p → standsB l t q = false) ∨ (findI l t = -1 ∧ ∀ q, standsB l t q = false) := by
  by_cases h : ∃ p, standsB l t p = true
  · obtain ⟨p, hp⟩ := h
    have : ∃ m, standsB l t m = true ∧ ∀ q, q < m → standsB l t q = false := by
      induction p using Nat.strongRecOn with
      | _ p ih =>
        by_cases hq : ∃ q, q < p ∧ standsB l t q = true
        · obtain ⟨q, hqp, hq⟩ := hq
          exact ih q hqp hq
        · exact ⟨p, hp, fun q hqp => by
            cases hs : standsB l t q
            · rfl
            · exact absurd ⟨q, hqp, hs⟩ hq⟩
    obtain ⟨m, hm, hq⟩ := this
    exact .inl ⟨m, findI_found hm hq, hm, hq⟩
  · have hn : ∀ q, standsB l t q = false := fun q => by
      cases hs : standsB l t q
      · rfl
      · exact absurd ⟨q, hs⟩ h
    exact .inr ⟨findI_none hn, hn⟩
theorem stands_sub {l t : List Int} {p : Nat} (h : standsB l t p = true) : subI l p t.length = t := by
  obtain ⟨h1, h2⟩ := standsB_iff.1 h
  unfold subI
  by_cases h0 : (t.length : Int) ≤ 0
  · rw [if_pos h0]
    exact (List.eq_nil_of_length_eq_zero (by omega)).symm
  · rw [if_neg h0, if_neg (by omega), Int.toNat_natCast, Int.toNat_natCast]
    refine gt_ext (by rw [List.length_take, List.length_drop]; omega) (fun j hj => ?_)
    rw [List.length_take, List.length_drop] at hj
    have hj2 : j < t.length := by omega
    rw [← h2 j hj2]
    unfold gt
    rw [List.getElem?_take_of_lt hj2, List.getElem?_drop]
theorem find_before {l t : List Int} {p : Nat} (hs : standsB l t p = true) (hp : 0 < p) (h : ∀ q, q < p → standsB l t q = false) : findI (subI l 0 ((p : Int) + t.length - 1)) t = -1 := by
  have h1 := (standsB_iff.1 hs).1
  have hm : subI l 0 ((p : Int) + t.length - 1) = if p + t.length - 1 = 0 then [] else l.take (p + t.length - 1) := by
    unfold subI
    by_cases h0 : p + t.length - 1 = 0
    · rw [if_pos (by omega), if_pos h0]
    · rw [if_neg (by omega), if_neg h0, if_neg (by omega)]
      rw [show (0 : Int).toNat = 0 from rfl, List.drop_zero]
      congr 1
      omega
  have hl : t.length ≠ 0 := fun h0 => by
    have := h 0 hp
    rw [standsB_iff.2 ⟨by omega, fun j hj => by omega⟩] at this
    cases this
  rw [hm, if_neg (by omega)]
  refine findI_none fun q => ?_
  cases hq : standsB (l.take (p + t.length - 1)) t q
  · rfl
  · obtain ⟨a1, a2⟩ := standsB_iff.1 hq
    rw [List.length_take] at a1
    have hqp : q < p := by omega
    have := h q hqp
    rw [standsB_iff.2 ⟨by omega, fun j hj => by
      rw [← a2 j hj]
      unfold gt
      rw [List.getElem?_take_of_lt (by omega)]⟩] at this
    cases this
theorem stands_self (l : List Int) : findI l l = 0 :=
  findI_found (p := 0) (standsB_iff.2 ⟨by omega, fun j _ => by rw [Nat.zero_add]⟩) (fun q hq => by omega)
theorem sub_whole (l : List Int) : subI l 0 (l.length : Nat) = l := by
  unfold subI
  by_cases h : (l.length : Int) ≤ 0
  · rw [if_pos h]
    exact (List.eq_nil_of_length_eq_zero (by omega)).symm
  · rw [if_neg h, if_neg (by omega)]
    simp
theorem sub_two (l : List Int) (n : Nat) (h : n ≤ l.length) : subI l 0 n ++ subI l n (l.length : Nat) = l := by
  unfold subI
  by_cases h0 : l.length = 0
  · rw [if_pos (by omega), if_pos (by omega)]
    exact (List.eq_nil_of_length_eq_zero h0).symm
  · rw [if_neg (show ¬ ((l.length : Nat) : Int) ≤ 0 by omega), if_neg (show ¬ (n : Int) < 0 by omega)]
    rw [Int.toNat_natCast, Int.toNat_natCast, List.take_of_length_le (l := l.drop n) (by rw [List.length_drop]; omega)]
    by_cases hn : n = 0
    · subst hn
      simp
    · rw [if_neg (by omega), if_neg (by omega), show (0 : Int).toNat = 0 from rfl, List.drop_zero, List.take_append_drop]
theorem sub_ch {l : List Int} (h : ∀ r ∈ l, Ch r) (a c : Int) : ∀ r ∈ subI l a c, Ch r := fun r hr => by
  unfold subI at hr
  repeat' split at hr
  · cases hr
  · exact h r (List.mem_of_mem_take hr)
  · exact h r (List.mem_of_mem_drop (List.mem_of_mem_take hr))
theorem sub_length (l : List Int) (a c : Int) : (subI l a c).length ≤ l.length := by
  unfold subI
  repeat' split
  · simp
  · rw [List.length_take]; omega
  · rw [List.length_take, List.length_drop]; omega
theorem encs_small : ∀ {l : List Int}, (∀ r ∈ l, Ch r) → (encs l).length ≤ 4 * l.length
  | [], _ => by simp [encs]
  | r :: l, h => by
    have h1 := (enc_len (h r List.mem_cons_self)).2.1
    have h2 := encs_small (fun x hx => h x (List.mem_cons_of_mem _ hx))
    rw [encs_cons, List.length_append, List.length_cons]
    omega
theorem runesBytes_small {l : List Int} (h : ∀ r ∈ l, Ch r) : (runesBytes l).size ≤ 4 * l.length := by
  have h1 := encs_small h
  rw [← runesBytes_list] at h1
  exact h1
end Gim
namespace Go.Proofs.YtnhhnlbfgipebaaDoor
open Gim
theorem ends_rev (l t : List Int) : endsB l t = standsB l.reverse t.reverse 0 := by
  by_cases h : t.length ≤ l.length
  · unfold endsB
    rw [decide_eq_true h, Bool.true_and, ← drop_eq_stands h, ← take_eq_stands (by simpa using h), List.length_reverse, List.take_reverse]
    rw [Bool.eq_iff_iff]
    simp only [beq_iff_eq]
    exact ⟨fun k => by rw [k], fun k => List.reverse_inj.1 k⟩
  · unfold endsB
    rw [decide_eq_false h, Bool.false_and]
    symm
    cases hs : standsB l.reverse t.reverse 0
    · rfl
    · have := (standsB_iff.1 hs).1
      simp at this
      omega
end Go.Proofs.YtnhhnlbfgipebaaDoor
