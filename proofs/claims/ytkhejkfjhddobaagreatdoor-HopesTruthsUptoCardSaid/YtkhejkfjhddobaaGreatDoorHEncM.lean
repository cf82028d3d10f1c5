/- The bytes of characters and what is read out of them; a valid text is its characters; names lie by their bytes as by their characters (printed by wip/mkhread.py). -/
import Derived.Test.YtkhejkfjhddobaaGreatDoorClsM
import Derived.Test.YtkhejkfjhddobaaGreatDoorUnitsM
import Derived.Lib.MapLaws
import Derived.Lib.RuneBytes
import Derived.Lib.LazyBuf
namespace Gim
open Go
set_option maxRecDepth 1000000 in
theorem dec_enc {r : Int} (h : Ch r) (t : List UInt8) : Lib.decodeL (enc r ++ t) = (r.toNat, (enc r).length) := by
 obtain ⟨n, rfl, hc⟩ := enc_cases h
 rw [Lib.decodeL_N]
 rcases hc with ⟨n1, e⟩ | ⟨n1, n2, e⟩ | ⟨n1, n2, e⟩ | ⟨n1, n2, e⟩
 ·rw [e]
  have h0 : (UInt8.ofNat n).toNat = n := by rw [UInt8.toNat_ofNat']; omega
  simp only [List.cons_append, List.nil_append, List.getD_cons_zero, h0, Lib.decodeN, n1, if_true, List.length_cons, List.length_nil, Int.toNat_natCast]
 ·rw [e]
  have h0 : (UInt8.ofNat (192 + n / 64)).toNat = 192 + n / 64 := by rw [UInt8.toNat_ofNat']; omega
  have h1 : (UInt8.ofNat (128 + n % 64)).toNat = 128 + n % 64 := by rw [UInt8.toNat_ofNat']; omega
  simp only [List.cons_append, List.nil_append, List.getD_cons_zero, List.getD_cons_succ, h0, h1, List.length_cons, List.length_nil, Int.toNat_natCast]
  unfold Lib.decodeN
  rw [if_neg (by omega), if_pos (by omega), if_pos (by omega)]
  exact Prod.ext (by simp only []; omega) rfl
 ·rw [e]
  have h0 : (UInt8.ofNat (224 + n / 4096)).toNat = 224 + n / 4096 := by rw [UInt8.toNat_ofNat']; omega
  have h1 : (UInt8.ofNat (128 + n / 64 % 64)).toNat = 128 + n / 64 % 64 := by rw [UInt8.toNat_ofNat']; omega
  have h2 : (UInt8.ofNat (128 + n % 64)).toNat = 128 + n % 64 := by rw [UInt8.toNat_ofNat']; omega
  unfold Ch at h
  have hx : (224 + n / 4096) % 16 * 4096 + (128 + n / 64 % 64) % 64 * 64 + (128 + n % 64) % 64 = n := by omega
  simp only [List.cons_append, List.nil_append, List.getD_cons_zero, List.getD_cons_succ, h0, h1, h2, List.length_cons, List.length_nil, Int.toNat_natCast]
  unfold Lib.decodeN
  rw [hx, if_neg (by omega), if_neg (by omega), if_pos (by omega), if_pos (by omega)]
 ·rw [e]
  have h0 : (UInt8.ofNat (240 + n / 262144)).toNat = 240 + n / 262144 := by rw [UInt8.toNat_ofNat']; omega
  have h1 : (UInt8.ofNat (128 + n / 4096 % 64)).toNat = 128 + n / 4096 % 64 := by rw [UInt8.toNat_ofNat']; omega
  have h2 : (UInt8.ofNat (128 + n / 64 % 64)).toNat = 128 + n / 64 % 64 := by rw [UInt8.toNat_ofNat']; omega
  have h3 : (UInt8.ofNat (128 + n % 64)).toNat = 128 + n % 64 := by rw [UInt8.toNat_ofNat']; omega
  have hx : (240 + n / 262144) % 8 * 262144 + (128 + n / 4096 % 64) % 64 * 4096 + (128 + n / 64 % 64) % 64 * 64 + (128 + n % 64) % 64 = n := by omega
  simp only [List.cons_append, List.nil_append, List.getD_cons_zero, List.getD_cons_succ, h0, h1, h2, h3, List.length_cons, List.length_nil, Int.toNat_natCast]
  unfold Lib.decodeN
  rw [hx, if_neg (by omega), if_neg (by omega), if_neg (by omega), if_pos (by omega), if_pos (by omega)]
theorem enc_len {r : Int} (h : Ch r) : 1 ≤ (enc r).length ∧ (enc r).length ≤ 4 ∧ ((enc r).length = 1 → r < 128) := by
 obtain ⟨n, rfl, hc⟩ := enc_cases h
 rcases hc with ⟨n1, e⟩ | ⟨n1, n2, e⟩ | ⟨n1, n2, e⟩ | ⟨n1, n2, e⟩ <;> rw [e] <;> simp <;> omega
theorem read_encs : ∀ {l : List Int}, (∀ r ∈ l, Ch r) → ∀ {s : ByteArray} {p : Nat}, s.data.toList.drop p = encs l → rsAt s p = l ∧ val s p = true
 | [], _, s, p, h => by
  have hp : ¬ p < s.size := by
   intro hp
   have := List.drop_eq_nil_iff.1 h
   have := Lib.size_eq s
   omega
  exact ⟨rsAt_end hp, val_end hp⟩
 | r :: l, hl, s, p, h => by
  have hr := hl r List.mem_cons_self
  have h' : s.data.toList.drop p = enc r ++ encs l := h
  have hlen := enc_len hr
  have hp : p < s.size := by
   have h1 := congrArg List.length h'
   have := Lib.size_eq s
   simp at h1
   omega
  have hd : Utf8.decode s p = (r.toNat, (enc r).length) := by rw [← Lib.decodeL_drop, h', dec_enc hr]
  have ht : s.data.toList.drop (p + (enc r).length) = encs l := by rw [← List.drop_drop, h', List.drop_left]
  obtain ⟨i1, i2⟩ := read_encs (fun x hx => hl x (List.mem_cons_of_mem _ hx)) ht
  have hr0 : 0 ≤ r := by unfold Ch at hr; omega
  constructor
  ·rw [rsAt_next hp, hd, i1]; simp; omega
  ·rw [val_next hp, hd, if_neg, i2]
   rintro ⟨e1, e2⟩
   have := hlen.2.2 e2
   simp only [] at e1
   omega
section
open Go.Lib
theorem encs_cons (a : Int) (b : List Int) : encs (a :: b) = enc a ++ encs b := by simp [encs]
theorem encs_append (a b : List Int) : encs (a ++ b) = encs a ++ encs b := by simp [encs]
theorem enc_back {v : Int} (h : Ch v) : encodeRune v = enc v := by
 have hv := h
 unfold Ch at hv
 unfold encodeRune
 obtain ⟨n, rfl, ⟨h1, e⟩ | ⟨h1, h2, e⟩ | ⟨h1, h2, e⟩ | ⟨h1, h2, e⟩⟩ := enc_cases h
 ·rw [e, encodeRuneZ_one (by omega) (by omega)]
  simp
 ·rw [e, encodeRuneZ_two (by omega) (by omega)]
  simp only [List.map_cons, List.map_nil]
  congr 1
 ·rw [e, encodeRuneZ_three (by omega)]
  simp only [List.map_cons, List.map_nil]
  congr 1
 ·rw [e, encodeRuneZ_four (by omega) (by omega)]
  simp only [List.map_cons, List.map_nil]
  congr 1
theorem valid_reads (s : ByteArray) : ∀ (f p : Nat), s.size ≤ p + f → validD (s.data.toList.drop p) = true → encs (rsAt s p) = s.data.toList.drop p
 | 0, p, hf, _ => by
  have := Lib.size_eq s
  rw [rsAt_end (by omega), List.drop_of_length_le (by omega)]
  rfl
 | f + 1, p, hf, h => by
  have hz := Lib.size_eq s
  by_cases hp : p < s.size
  ·have hne : s.data.toList.drop p ≠ [] := fun k => by have := List.drop_eq_nil_iff.1 k; omega
   rw [validD_step _ hne] at h
   by_cases hb : (decodeL (s.data.toList.drop p)).1 = 65533 ∧ (decodeL (s.data.toList.drop p)).2 = 1
   ·rw [if_pos hb] at h; cases h
   ·rw [if_neg hb, List.drop_drop] at h
    have hw := Lib.decode_width_pos s p hp
    have ed := encode_decode _ hne hb
    rw [decodeL_drop] at h ed
    have ih := valid_reads s f (p + (Utf8.decode s p).2) (by omega) h
    rw [enc_back (decode_ch s p)] at ed
    rw [rsAt_next hp, encs_cons, ih, ed, ← List.drop_drop, List.take_append_drop]
  ·rw [rsAt_end hp, List.drop_of_length_le (by omega)]
   rfl
theorem valid_same {s : ByteArray} (h : validD s.data.toList = true) : runesBytes (rs s) = s := by
 have h1 := valid_reads s s.size 0 (by omega) (by rw [List.drop_zero]; exact h)
 rw [List.drop_zero] at h1
 have h2 := runesBytes_list (rs s)
 have h3 : (runesBytes (rs s)).data.toList = s.data.toList := h2.trans h1
 cases hs : runesBytes (rs s)
 cases s
 rw [hs] at h3
 simp only [ByteArray.mk.injEq]
 exact Array.toList_inj.1 h3
end
theorem name_same {s : ByteArray} (h : nameB s = true) : runesBytes (rs s) = s := by
 unfold nameB at h
 rw [jb] at h
 exact valid_same h.2
theorem name_less {s t : ByteArray} (hs : nameB s = true) (ht : nameB t = true) : Op.bytesLess s.toList t.toList = decide (ordI (rs s) (rs t) < 0) := by
 have h := runesBytes_less (rs_ch s) (rs_ch t)
 rwa [name_same hs, name_same ht] at h
theorem dec_list (s : ByteArray) (p : Nat) : Utf8.decode s p = Lib.decodeL (s.data.toList.drop p) := (Lib.decodeL_drop s p).symm
theorem drop_ne {s : ByteArray} {p : Nat} (h : p < s.size) : s.data.toList.drop p ≠ [] := by
 intro e
 have := List.drop_eq_nil_iff.1 e
 have := Lib.size_eq s
 omega
def bz (l : List UInt8) : List Int := l.map fun b => (b.toNat : Int)
theorem bz_length (l : List UInt8) : (bz l).length = l.length := by simp [bz]
theorem bz_take (l : List UInt8) (n : Nat) : bz (l.take n) = (bz l).take n := by simp [bz, List.map_take]
theorem bz_byte {l : List UInt8} {x : Int} (h : x ∈ bz l) : 0 ≤ x ∧ x ≤ 255 := by
 simp only [bz, List.mem_map] at h
 obtain ⟨b, _, rfl⟩ := h
 have := b.toNat_lt
 omega
theorem bz_inj : ∀ {a b : List UInt8}, bz a = bz b → a = b
 | [], [], _ => rfl
 | [], _ :: _, h => by simp [bz] at h
 | _ :: _, [], h => by simp [bz] at h
 | x :: a, y :: b, h => by
  simp only [bz, List.map_cons, List.cons.injEq] at h
  have h1 : x = y := UInt8.toNat_inj.1 (by omega)
  rw [h1, bz_inj (a := a) (b := b) h.2]
def wid (x : Int) : Nat := if x < 128 then 1 else if 192 ≤ x ∧ x < 224 then 2 else if 224 ≤ x ∧ x < 240 then 3 else if 240 ≤ x ∧ x < 248 then 4 else 0
def fst0 (x : Int) : Int := if x < 128 then x else if 192 ≤ x ∧ x < 224 then x - 192 else if 224 ≤ x ∧ x < 240 then x - 224 else if 240 ≤ x ∧ x < 248 then x - 240 else 0
def lst0 (x : Int) : Int := if x < 128 then 0 else if 192 ≤ x ∧ x < 224 then 128 else if 224 ≤ x ∧ x < 240 then 2048 else if 240 ≤ x ∧ x < 248 then 65536 else 0
def contR : List Int → Int → Option Int
 | [], f => some f
 | y :: t, f => if y < 128 ∨ 191 < y then none else contR t (f * 64 + (y - 128))
def padLo : Nat → Int → Int
 | 0, f => f
 | k + 1, f => padLo k (f * 64)
def padHi : Nat → Int → Int
 | 0, f => f
 | k + 1, f => padHi k (f * 64 + 63)
def endS (x : Int) (k : Nat) : Option Int → Int × Int
 | none => (1, 0)
 | some f => (if padLo k f ≤ lst0 x then lst0 x else padLo k f, if padHi k f ≤ 1114111 then padHi k f else 1114111)
def spanL : List Int → Int × Int
 | [] => (1, 0)
 | x :: t => if 3 < t.length then (1, 0) else if wid x < t.length + 1 then (1, 0) else endS x (wid x - (t.length + 1)) (contR t (fst0 x))
theorem padLo_nonneg : ∀ (k : Nat) (f : Int), 0 ≤ f → 0 ≤ padLo k f
 | 0, _, h => h
 | k + 1, f, h => padLo_nonneg k (f * 64) (by omega)
theorem contR_nonneg : ∀ (t : List Int) (f g : Int), 0 ≤ f → contR t f = some g → 0 ≤ g
 | [], f, g, h, e => by simp [contR] at e; omega
 | y :: t, f, g, h, e => by
  unfold contR at e
  split at e
  ·simp at e
  ·exact contR_nonneg t _ g (by omega) e
theorem fst0_nonneg {x : Int} (h : 0 ≤ x) : 0 ≤ fst0 x := by unfold fst0; repeat' split <;> try omega
theorem lst0_nonneg (x : Int) : 0 ≤ lst0 x := by unfold lst0; repeat' split <;> try omega
theorem spanL_range {l : List Int} (hb : ∀ x ∈ l, 0 ≤ x) (h : (spanL l).1 = (spanL l).2) : 0 ≤ (spanL l).1 ∧ (spanL l).1 ≤ 1114111 := by
 cases l with
 | nil => simp [spanL] at h
 | cons x t =>
  have hx := hb x List.mem_cons_self
  by_cases h1 : 3 < t.length
  ·rw [spanL, if_pos h1] at h; simp at h
  by_cases h2 : wid x < t.length + 1
  ·rw [spanL, if_neg h1, if_pos h2] at h; simp at h
  have hs : spanL (x :: t) = endS x (wid x - (t.length + 1)) (contR t (fst0 x)) := by rw [spanL, if_neg h1, if_neg h2]
  rw [hs] at h ⊢
  cases hc : contR t (fst0 x) with
  | none => rw [hc] at h; simp [endS] at h
  | some f =>
   rw [hc] at h
   have f0 := contR_nonneg _ _ _ (fst0_nonneg hx) hc
   have := padLo_nonneg (wid x - (t.length + 1)) f f0
   have := lst0_nonneg x
   simp only [endS] at h ⊢
   constructor
   ·split <;> omega
   ·rw [h]; split <;> omega
def bytesL (r : Int) : List Int :=
 if r < 128 then [r] else if r < 2048 then [192 + r / 64, 128 + r % 64] else if r < 65536 then [224 + r / 4096, 128 + r / 64 % 64, 128 + r % 64]
 else [240 + r / 262144, 128 + r / 4096 % 64, 128 + r / 64 % 64, 128 + r % 64]
theorem u8n {n : Nat} (h : n < 256) : ((UInt8.ofNat n).toNat : Int) = n := by rw [UInt8.toNat_ofNat']; omega
theorem bytesL_enc {r : Int} (h : Ch r) : bytesL r = bz (enc r) := by
 obtain ⟨n, rfl, hc⟩ := enc_cases h
 unfold bytesL
 rcases hc with ⟨n1, e⟩ | ⟨n1, n2, e⟩ | ⟨n1, n2, e⟩ | ⟨n1, n2, e⟩ <;> rw [e]
 ·rw [if_pos (by omega)]; simp only [bz, List.map_cons, List.map_nil]; rw [u8n (by omega)]
 ·rw [if_neg (by omega), if_pos (by omega)]; simp only [bz, List.map_cons, List.map_nil]; rw [u8n (by omega), u8n (by omega)]; simp
 ·rw [if_neg (by omega), if_neg (by omega), if_pos (by omega)]; simp only [bz, List.map_cons, List.map_nil]; rw [u8n (by omega), u8n (by omega), u8n (by omega)]; simp
 ·rw [if_neg (by omega), if_neg (by omega), if_neg (by omega)]; simp only [bz, List.map_cons, List.map_nil]; rw [u8n (by omega), u8n (by omega), u8n (by omega), u8n (by omega)]; simp
def readF (l : List Int) : Nat → Nat → Int × Int
 | 0, _ => (0, 0)
 | f + 1, n => if n ≤ 4 ∧ n ≤ l.length then
   (if (spanL (l.take n)).1 = (spanL (l.take n)).2 ∧ bytesL (spanL (l.take n)).1 = l.take n then
    (if 55296 ≤ (spanL (l.take n)).1 ∧ (spanL (l.take n)).1 ≤ 57343 then (0, 0) else ((spanL (l.take n)).1, n))
   else readF l f (n + 1)) else (0, 0)
def readL (l : List Int) : Int × Int := readF l 5 1
theorem readF_bad {l : List UInt8} (hd : Lib.decodeL l = (65533, 1)) : ∀ f n, 1 ≤ n → readF (bz l) f n = (0, 0)
 | 0, _, _ => rfl
 | f + 1, n, hn => by
  unfold readF
  split
  ·split
   ·rename_i h1 h2
    split
    ·rfl
    ·rename_i h3
     exfalso
     have hr := spanL_range (l := (bz l).take n) (fun x hx => (bz_byte (List.mem_of_mem_take hx)).1) h2.1
     have hC : Ch (spanL ((bz l).take n)).1 := by unfold Ch; omega
     have h4 := h2.2
     rw [bytesL_enc hC, ← bz_take] at h4
     have h5 := bz_inj h4
     rw [bz_take] at h5
     have h6 := dec_enc hC (l.drop n)
     rw [h5, List.take_append_drop, hd] at h6
     have h7 := (enc_len hC).2.2
     rw [h5] at h7
     simp only [Prod.mk.injEq] at h6
     omega
   ·exact readF_bad hd f (n + 1) (by omega)
  ·rfl
theorem contR_ok {y : Int} {t : List Int} {f : Int} (h : 128 ≤ y ∧ y ≤ 191) : contR (y :: t) f = contR t (f * 64 + (y - 128)) := by
 rw [contR, if_neg (by omega)]
theorem wid1 {x : Int} (h : x < 128) : wid x = 1 ∧ fst0 x = x ∧ lst0 x = 0 := by simp [wid, fst0, lst0, h]
theorem wid2 {x : Int} (h : 192 ≤ x ∧ x < 224) : wid x = 2 ∧ fst0 x = x - 192 ∧ lst0 x = 128 := by
 unfold wid fst0 lst0; rw [if_neg (by omega), if_pos h, if_neg (by omega), if_pos h, if_neg (by omega), if_pos h]; simp
theorem wid3 {x : Int} (h : 224 ≤ x ∧ x < 240) : wid x = 3 ∧ fst0 x = x - 224 ∧ lst0 x = 2048 := by
 unfold wid fst0 lst0
 rw [if_neg (by omega), if_neg (by omega), if_pos h, if_neg (by omega), if_neg (by omega), if_pos h, if_neg (by omega), if_neg (by omega), if_pos h]; simp
theorem wid4 {x : Int} (h : 240 ≤ x ∧ x < 248) : wid x = 4 ∧ fst0 x = x - 240 ∧ lst0 x = 65536 := by
 unfold wid fst0 lst0
 rw [if_neg (by omega), if_neg (by omega), if_neg (by omega), if_pos h, if_neg (by omega), if_neg (by omega), if_neg (by omega), if_pos h, if_neg (by omega), if_neg (by omega), if_neg (by omega), if_pos h]; simp
theorem endS_apart {x : Int} {k : Nat} {f : Int} (h1 : padLo k f < padHi k f) (h2 : lst0 x < padHi k f) (h3 : lst0 x < 1114111) (h4 : padLo k f < 1114111) : ¬ (endS x k (some f)).1 = (endS x k (some f)).2 := by
 simp only [endS]
 split <;> split <;> omega
theorem endS_one {x f : Int} (h1 : lst0 x ≤ f) (h2 : f ≤ 1114111) : endS x 0 (some f) = (f, f) := by
 simp only [endS]
 rw [show padLo 0 f = f from rfl, show padHi 0 f = f from rfl, if_pos h2]
 split
 ·exact Prod.ext (by simp only []; omega) rfl
 ·rfl
theorem span_short {l : List Int} {n : Nat} (h1 : ¬ (spanL (l.take n)).1 = (spanL (l.take n)).2) (f : Nat) (hl : n ≤ l.length) (h4 : n ≤ 4) : readF l (f + 1) n = readF l f (n + 1) := by
 rw [readF, if_pos ⟨h4, hl⟩, if_neg (fun h => h1 h.1)]
theorem span_hit {l : List Int} {n : Nat} {r : Int} (h1 : spanL (l.take n) = (r, r)) (h2 : bytesL r = l.take n) (hs : r < 55296 ∨ 57343 < r) (f : Nat) (hl : n ≤ l.length) (h4 : n ≤ 4) : readF l (f + 1) n = (r, (n : Int)) := by
 rw [readF, if_pos ⟨h4, hl⟩, h1, if_pos ⟨rfl, h2⟩, if_neg (by simp only []; omega)]
theorem readL_good {l : List UInt8} (hne : l ≠ []) (hv : ¬ Lib.decodeL l = (65533, 1)) : readL (bz l) = (((Lib.decodeL l).1 : Int), ((Lib.decodeL l).2 : Int)) := by
 have hl : 0 < l.length := List.length_pos_iff.2 hne
 rw [Lib.decodeL_N] at hv ⊢
 have k0 := (l.getD 0 0).toNat_lt
 have k1 := (l.getD 1 0).toNat_lt
 have k2 := (l.getD 2 0).toNat_lt
 have k3 := (l.getD 3 0).toNat_lt
 have hL := bz_length l
 have T1 : (bz l).take 1 = [((l.getD 0 0).toNat : Int)] := by rw [← bz_take, Lib.takeA l hl]; rfl
 unfold readL
 rcases Lib.decodeN_shape l.length (l.getD 0 0).toNat (l.getD 1 0).toNat (l.getD 2 0).toNat (l.getD 3 0).toNat with ⟨c, e⟩ | ⟨c1, c2, c3, cv, e⟩ | ⟨c1, c2, c3, c4, cv, cs, e⟩ | ⟨c1, c2, c3, c4, c5, cv, cw, e⟩ | e
 ·rw [e]
  dsimp only
  generalize (l.getD 0 0).toNat = b0 at *
  obtain ⟨u1, u2, u3⟩ := wid1 (x := (b0 : Int)) (by omega)
  refine span_hit (n := 1) (r := b0) ?_ ?_ (by omega) 4 (by omega) (by omega)
  ·rw [T1]
   simp only [spanL, List.length_nil, u1, u2]
   rw [if_neg (by omega), if_neg (by omega)]
   exact endS_one (by omega) (by omega)
  ·rw [T1, bytesL, if_pos (by omega)]
 ·have T2 : (bz l).take 2 = [((l.getD 0 0).toNat : Int), ((l.getD 1 0).toNat : Int)] := by rw [← bz_take, Lib.takeB l c2]; rfl
  rw [e]
  dsimp only
  generalize (l.getD 0 0).toNat = b0 at *
  generalize (l.getD 1 0).toNat = b1 at *
  obtain ⟨u1, u2, u3⟩ := wid2 (x := (b0 : Int)) (by omega)
  rw [span_short (n := 1) _ 4 (by omega) (by omega)]
  ·refine span_hit (n := 2) (r := ((b0 % 32 * 64 + b1 % 64 : Nat) : Int)) ?_ ?_ (by omega) 3 (by omega) (by omega)
   ·rw [T2]
    simp only [spanL, List.length_nil, List.length_cons, u1, u2]
    rw [if_neg (by omega), if_neg (by omega), contR_ok (by omega), contR, show ((b0 : Int) - 192) * 64 + ((b1 : Int) - 128) = ((b0 % 32 * 64 + b1 % 64 : Nat) : Int) from by omega]
    exact endS_one (by omega) (by omega)
   ·rw [T2, bytesL, if_neg (by omega), if_pos (by omega)]
    simp only [List.cons.injEq, and_true]
    omega
  ·rw [T1]
   simp only [spanL, List.length_nil, u1, u2, contR]
   rw [if_neg (by omega), if_neg (by omega)]
   refine endS_apart ?_ ?_ ?_ ?_ <;> simp only [padLo, padHi, u3] <;> omega
 ·have T2 : (bz l).take 2 = [((l.getD 0 0).toNat : Int), ((l.getD 1 0).toNat : Int)] := by rw [← bz_take, Lib.takeB l (by omega)]; rfl
  have T3 : (bz l).take 3 = [((l.getD 0 0).toNat : Int), ((l.getD 1 0).toNat : Int), ((l.getD 2 0).toNat : Int)] := by rw [← bz_take, Lib.takeC l c2]; rfl
  rw [e]
  dsimp only
  generalize (l.getD 0 0).toNat = b0 at *
  generalize (l.getD 1 0).toNat = b1 at *
  generalize (l.getD 2 0).toNat = b2 at *
  obtain ⟨u1, u2, u3⟩ := wid3 (x := (b0 : Int)) (by omega)
  rw [span_short (n := 1) _ 4 (by omega) (by omega), span_short (n := 2) _ 3 (by omega) (by omega)]
  ·refine span_hit (n := 3) (r := ((b0 % 16 * 4096 + b1 % 64 * 64 + b2 % 64 : Nat) : Int)) ?_ ?_ (by omega) 2 (by omega) (by omega)
   ·rw [T3]
    simp only [spanL, List.length_nil, List.length_cons, u1, u2]
    rw [if_neg (by omega), if_neg (by omega), contR_ok (by omega), contR_ok (by omega), contR, show (((b0 : Int) - 224) * 64 + ((b1 : Int) - 128)) * 64 + ((b2 : Int) - 128) = ((b0 % 16 * 4096 + b1 % 64 * 64 + b2 % 64 : Nat) : Int) from by omega]
    exact endS_one (by omega) (by omega)
   ·rw [T3, bytesL, if_neg (by omega), if_neg (by omega), if_pos (by omega)]
    simp only [List.cons.injEq, and_true]
    omega
  ·rw [T2]
   simp only [spanL, List.length_nil, List.length_cons, u1, u2]
   rw [if_neg (by omega), if_neg (by omega), contR_ok (by omega), contR]
   refine endS_apart ?_ ?_ ?_ ?_ <;> simp only [padLo, padHi, u3] <;> omega
  ·rw [T1]
   simp only [spanL, List.length_nil, u1, u2, contR]
   rw [if_neg (by omega), if_neg (by omega)]
   refine endS_apart ?_ ?_ ?_ ?_ <;> simp only [padLo, padHi, u3] <;> omega
 ·have T2 : (bz l).take 2 = [((l.getD 0 0).toNat : Int), ((l.getD 1 0).toNat : Int)] := by rw [← bz_take, Lib.takeB l (by omega)]; rfl
  have T3 : (bz l).take 3 = [((l.getD 0 0).toNat : Int), ((l.getD 1 0).toNat : Int), ((l.getD 2 0).toNat : Int)] := by rw [← bz_take, Lib.takeC l (by omega)]; rfl
  have T4 : (bz l).take 4 = [((l.getD 0 0).toNat : Int), ((l.getD 1 0).toNat : Int), ((l.getD 2 0).toNat : Int), ((l.getD 3 0).toNat : Int)] := by rw [← bz_take, Lib.takeD l c2]; rfl
  rw [e]
  dsimp only
  generalize (l.getD 0 0).toNat = b0 at *
  generalize (l.getD 1 0).toNat = b1 at *
  generalize (l.getD 2 0).toNat = b2 at *
  generalize (l.getD 3 0).toNat = b3 at *
  obtain ⟨u1, u2, u3⟩ := wid4 (x := (b0 : Int)) (by omega)
  rw [span_short (n := 1) _ 4 (by omega) (by omega), span_short (n := 2) _ 3 (by omega) (by omega), span_short (n := 3) _ 2 (by omega) (by omega)]
  ·refine span_hit (n := 4) (r := ((b0 % 8 * 262144 + b1 % 64 * 4096 + b2 % 64 * 64 + b3 % 64 : Nat) : Int)) ?_ ?_ (by omega) 1 (by omega) (by omega)
   ·rw [T4]
    simp only [spanL, List.length_nil, List.length_cons, u1, u2]
    rw [if_neg (by omega), if_neg (by omega), contR_ok (by omega), contR_ok (by omega), contR_ok (by omega), contR, show ((((b0 : Int) - 240) * 64 + ((b1 : Int) - 128)) * 64 + ((b2 : Int) - 128)) * 64 + ((b3 : Int) - 128) = ((b0 % 8 * 262144 + b1 % 64 * 4096 + b2 % 64 * 64 + b3 % 64 : Nat) : Int) from by omega]
    exact endS_one (by omega) (by omega)
   ·rw [T4, bytesL, if_neg (by omega), if_neg (by omega), if_neg (by omega)]
    simp only [List.cons.injEq, and_true]
    omega
  ·rw [T3]
   simp only [spanL, List.length_nil, List.length_cons, u1, u2]
   rw [if_neg (by omega), if_neg (by omega), contR_ok (by omega), contR_ok (by omega), contR]
   refine endS_apart ?_ ?_ ?_ ?_ <;> simp only [padLo, padHi, u3] <;> omega
  ·rw [T2]
   simp only [spanL, List.length_nil, List.length_cons, u1, u2]
   rw [if_neg (by omega), if_neg (by omega), contR_ok (by omega), contR]
   refine endS_apart ?_ ?_ ?_ ?_ <;> simp only [padLo, padHi, u3] <;> omega
  ·rw [T1]
   simp only [spanL, List.length_nil, u1, u2, contR]
   rw [if_neg (by omega), if_neg (by omega)]
   refine endS_apart ?_ ?_ ?_ ?_ <;> simp only [padLo, padHi, u3] <;> omega
 ·exact absurd e hv
theorem readL_dec {s : ByteArray} {p : Nat} (hp : p < s.size) : readL (bz (s.data.toList.drop p)) = if (Utf8.decode s p).1 = 65533 ∧ (Utf8.decode s p).2 = 1 then (0, 0) else (((Utf8.decode s p).1 : Int), ((Utf8.decode s p).2 : Int)) := by
 rw [dec_list]
 split
 ·rename_i h
  exact readF_bad (Prod.ext h.1 h.2) 5 1 (by omega)
 ·rename_i h
  exact readL_good (drop_ne hp) (fun e => h (by rw [e]; exact ⟨rfl, rfl⟩))
end Gim
