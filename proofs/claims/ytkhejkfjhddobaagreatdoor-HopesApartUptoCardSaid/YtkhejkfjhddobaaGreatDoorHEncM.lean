/- The bytes of characters and what is read out of them; a valid text is its characters; names lie by their bytes as by their characters (printed by wip/mkhread.py). -/
import Derived.Test.YtkhejkfjhddobaaGreatDoorClsM
import Derived.Test.YtkhejkfjhddobaaGreatDoorUnitsM
import Derived.Lib.MapLaws
import Derived.Lib.RuneBytes
import Derived.Lib.LazyBuf
set_option maxRecDepth 1000000
namespace Gim
open Go
theorem yPi {r : Int} (h : Ch r) (t : List UInt8) : Lib.decodeL (enc r ++ t) = (r.toNat, (enc r).length) := by
 obtain ⟨n, rfl, hc⟩ := yCJ h; rw [Lib.decodeL_N]; rcases hc with ⟨n1, e⟩ | ⟨n1, n2, e⟩ | ⟨n1, n2, e⟩ | ⟨n1, n2, e⟩
 ·rw [e]; have h0 : (UInt8.ofNat n).toNat = n := by rw [UInt8.toNat_ofNat']; omega
  simp only [List.cons_append, List.nil_append, List.getD_cons_zero, h0, Lib.decodeN, n1, if_true, List.length_cons, List.length_nil, Int.toNat_natCast]
 ·rw [e]; have h0 : (UInt8.ofNat (192 + n / 64)).toNat = 192 + n / 64 := by rw [UInt8.toNat_ofNat']; omega
  have h1 : (UInt8.ofNat (128 + n % 64)).toNat = 128 + n % 64 := by rw [UInt8.toNat_ofNat']; omega
  simp only [List.cons_append, List.nil_append, List.getD_cons_zero, List.getD_cons_succ, h0, h1, List.length_cons, List.length_nil, Int.toNat_natCast]; unfold Lib.decodeN; rw [if_neg (by omega), if_pos (by omega), if_pos (by omega)]; exact Prod.ext (by simp only []; omega) rfl
 ·rw [e]; have h0 : (UInt8.ofNat (224 + n / 4096)).toNat = 224 + n / 4096 := by rw [UInt8.toNat_ofNat']; omega
  have h1 : (UInt8.ofNat (128 + n / 64 % 64)).toNat = 128 + n / 64 % 64 := by rw [UInt8.toNat_ofNat']; omega
  have h2 : (UInt8.ofNat (128 + n % 64)).toNat = 128 + n % 64 := by rw [UInt8.toNat_ofNat']; omega
  unfold Ch at h; have hx : (224 + n / 4096) % 16 * 4096 + (128 + n / 64 % 64) % 64 * 64 + (128 + n % 64) % 64 = n := by omega
  simp only [List.cons_append, List.nil_append, List.getD_cons_zero, List.getD_cons_succ, h0, h1, h2, List.length_cons, List.length_nil, Int.toNat_natCast]; unfold Lib.decodeN; rw [hx, if_neg (by omega), if_neg (by omega), if_pos (by omega), if_pos (by omega)]
 ·rw [e]; have h0 : (UInt8.ofNat (240 + n / 262144)).toNat = 240 + n / 262144 := by rw [UInt8.toNat_ofNat']; omega
  have h1 : (UInt8.ofNat (128 + n / 4096 % 64)).toNat = 128 + n / 4096 % 64 := by rw [UInt8.toNat_ofNat']; omega
  have h2 : (UInt8.ofNat (128 + n / 64 % 64)).toNat = 128 + n / 64 % 64 := by rw [UInt8.toNat_ofNat']; omega
  have h3 : (UInt8.ofNat (128 + n % 64)).toNat = 128 + n % 64 := by rw [UInt8.toNat_ofNat']; omega
  have hx : (240 + n / 262144) % 8 * 262144 + (128 + n / 4096 % 64) % 64 * 4096 + (128 + n / 64 % 64) % 64 * 64 + (128 + n % 64) % 64 = n := by omega
  simp only [List.cons_append, List.nil_append, List.getD_cons_zero, List.getD_cons_succ, h0, h1, h2, h3, List.length_cons, List.length_nil, Int.toNat_natCast]; unfold Lib.decodeN; rw [hx, if_neg (by omega), if_neg (by omega), if_neg (by omega), if_pos (by omega), if_pos (by omega)]
theorem yOC {r : Int} (h : Ch r) : 1 ≤ (enc r).length ∧ (enc r).length ≤ 4 ∧ ((enc r).length = 1 → r < 128) := by
 obtain ⟨n, rfl, hc⟩ := yCJ h; rcases hc with ⟨n1, e⟩ | ⟨n1, n2, e⟩ | ⟨n1, n2, e⟩ | ⟨n1, n2, e⟩ <;> rw [e] <;> simp <;> omega
theorem yJV : ∀ {l : List Int}, (∀ r ∈ l, Ch r) → ∀ {s : ByteArray} {p : Nat}, s.data.toList.drop p = encs l → yDX s p = l ∧ val s p = true
 | [], _, s, p, h => by
  have hp : ¬ p < s.size := by intro hp; have := List.drop_eq_nil_iff.1 h; have := Lib.size_eq s; omega
  exact ⟨yDk hp, yOR hp⟩
 | r :: l, hl, s, p, h => by
  have hr := hl r List.mem_cons_self; have h' : s.data.toList.drop p = enc r ++ encs l := h; have hlen := yOC hr; have hp : p < s.size := by have h1 := congrArg List.length h'; have := Lib.size_eq s; simp at h1; omega
  have hd : Utf8.decode s p = (r.toNat, (enc r).length) := by rw [← Lib.decodeL_drop, h', yPi hr]
  have ht : s.data.toList.drop (p + (enc r).length) = encs l := by rw [← List.drop_drop, h', List.drop_left]
  obtain ⟨i1, i2⟩ := yJV (fun x hx => hl x (List.mem_cons_of_mem _ hx)) ht; have hr0 : 0 ≤ r := by unfold Ch at hr; omega
  constructor
  ·rw [yC9 hp, hd, i1]; simp; omega
  ·rw [yMo hp, hd, if_neg, i2]; rintro ⟨e1, e2⟩; have := hlen.2.2 e2; simp only [] at e1; omega
section
open Go.Lib
theorem yQH (a : Int) (b : List Int) : encs (a :: b) = enc a ++ encs b := by simp [encs]
theorem yLL (a b : List Int) : encs (a ++ b) = encs a ++ encs b := by simp [encs]
theorem yQU {v : Int} (h : Ch v) : encodeRune v = enc v := by
 have hv := h; unfold Ch at hv; unfold encodeRune; obtain ⟨n, rfl, ⟨h1, e⟩ | ⟨h1, h2, e⟩ | ⟨h1, h2, e⟩ | ⟨h1, h2, e⟩⟩ := yCJ h
 ·rw [e, encodeRuneZ_one (by omega) (by omega)]; simp
 ·rw [e, encodeRuneZ_two (by omega) (by omega)]; simp only [List.map_cons, List.map_nil]; congr 1
 ·rw [e, encodeRuneZ_three (by omega)]; simp only [List.map_cons, List.map_nil]; congr 1
 ·rw [e, encodeRuneZ_four (by omega) (by omega)]; simp only [List.map_cons, List.map_nil]; congr 1
theorem yEr (s : ByteArray) : ∀ (f p : Nat), s.size ≤ p + f → validD (s.data.toList.drop p) = true → encs (yDX s p) = s.data.toList.drop p
 | 0, p, hf, _ => by have := Lib.size_eq s; rw [yDk (by omega), List.drop_of_length_le (by omega)]; rfl
 | f + 1, p, hf, h => by
  have hz := Lib.size_eq s; by_cases hp : p < s.size
  ·have hne : s.data.toList.drop p ≠ [] := fun k => by have := List.drop_eq_nil_iff.1 k; omega
   rw [validD_step _ hne] at h; by_cases hb : (decodeL (s.data.toList.drop p)).1 = 65533 ∧ (decodeL (s.data.toList.drop p)).2 = 1
   ·rw [if_pos hb] at h; cases h
   ·rw [if_neg hb, List.drop_drop] at h; have hw := Lib.decode_width_pos s p hp; have ed := encode_decode _ hne hb; rw [decodeL_drop] at h ed; have ih := yEr s f (p + (Utf8.decode s p).2) (by omega) h; rw [yQU (yJ7 s p)] at ed; rw [yC9 hp, yQH, ih, ed, ← List.drop_drop, List.take_append_drop]
  ·rw [yDk hp, List.drop_of_length_le (by omega)]; rfl
theorem yNp {s : ByteArray} (h : validD s.data.toList = true) : runesBytes (rs s) = s := by have h1 := yEr s s.size 0 (by omega) (by rw [List.drop_zero]; exact h); rw [List.drop_zero] at h1; have h2 := yC0 (rs s); have h3 : (runesBytes (rs s)).data.toList = s.data.toList := h2.trans h1; cases hs : runesBytes (rs s); cases s; rw [hs] at h3; simp only [ByteArray.mk.injEq]; exact Array.toList_inj.1 h3
end
theorem yJ5 {s : ByteArray} (h : yBm s = true) : runesBytes (rs s) = s := by unfold yBm at h; rw [jb] at h; exact yNp h.2
theorem yPG {s t : ByteArray} (hs : yBm s = true) (ht : yBm t = true) : Op.bytesLess s.toList t.toList = decide (yBa (rs s) (rs t) < 0) := by have h := yHJ (yOZ s) (yOZ t); rwa [yJ5 hs, yJ5 ht] at h
theorem yLq (s : ByteArray) (p : Nat) : Utf8.decode s p = Lib.decodeL (s.data.toList.drop p) := (Lib.decodeL_drop s p).symm
theorem yOX {s : ByteArray} {p : Nat} (h : p < s.size) : s.data.toList.drop p ≠ [] := by intro e; have := List.drop_eq_nil_iff.1 e; have := Lib.size_eq s; omega
def bz (l : List UInt8) : List Int := l.map fun b => (b.toNat : Int)
theorem yHa (l : List UInt8) : (bz l).length = l.length := by simp [bz]
theorem yB1 (l : List UInt8) (n : Nat) : bz (l.take n) = (bz l).take n := by simp [bz, List.map_take]
theorem yKB {l : List UInt8} {x : Int} (h : x ∈ bz l) : 0 ≤ x ∧ x ≤ 255 := by simp only [bz, List.mem_map] at h; obtain ⟨b, _, rfl⟩ := h; have := b.toNat_lt; omega
theorem yNr : ∀ {a b : List UInt8}, bz a = bz b → a = b
 | [], [], _ => rfl
 | [], _ :: _, h => by simp [bz] at h
 | _ :: _, [], h => by simp [bz] at h
 | x :: a, y :: b, h => by simp only [bz, List.map_cons, List.cons.injEq] at h; have h1 : x = y := UInt8.toNat_inj.1 (by omega); rw [h1, yNr (a := a) (b := b) h.2]
def wid (x : Int) : Nat := if x < 128 then 1 else if 192 ≤ x ∧ x < 224 then 2 else if 224 ≤ x ∧ x < 240 then 3 else if 240 ≤ x ∧ x < 248 then 4 else 0
def yFC (x : Int) : Int := if x < 128 then x else if 192 ≤ x ∧ x < 224 then x - 192 else if 224 ≤ x ∧ x < 240 then x - 224 else if 240 ≤ x ∧ x < 248 then x - 240 else 0
def yFa (x : Int) : Int := if x < 128 then 0 else if 192 ≤ x ∧ x < 224 then 128 else if 224 ≤ x ∧ x < 240 then 2048 else if 240 ≤ x ∧ x < 248 then 65536 else 0
def yBl : List Int → Int → Option Int
 | [], f => some f
 | y :: t, f => if y < 128 ∨ 191 < y then none else yBl t (f * 64 + (y - 128))
def yCb : Nat → Int → Int
 | 0, f => f
 | k + 1, f => yCb k (f * 64)
def yCj : Nat → Int → Int
 | 0, f => f
 | k + 1, f => yCj k (f * 64 + 63)
def yJu (x : Int) (k : Nat) : Option Int → Int × Int
 | none => (1, 0)
 | some f => (if yCb k f ≤ yFa x then yFa x else yCb k f, if yCj k f ≤ 1114111 then yCj k f else 1114111)
def yAw : List Int → Int × Int
 | [] => (1, 0)
 | x :: t => if 3 < t.length then (1, 0) else if wid x < t.length + 1 then (1, 0) else yJu x (wid x - (t.length + 1)) (yBl t (yFC x))
theorem yGr : ∀ (k : Nat) (f : Int), 0 ≤ f → 0 ≤ yCb k f
 | 0, _, h => h
 | k + 1, f, h => yGr k (f * 64) (by omega)
theorem yGi : ∀ (t : List Int) (f g : Int), 0 ≤ f → yBl t f = some g → 0 ≤ g
 | [], f, g, h, e => by simp [yBl] at e; omega
 | y :: t, f, g, h, e => by
  unfold yBl at e; split at e
  ·simp at e
  ·exact yGi t _ g (by omega) e
theorem yLI {x : Int} (h : 0 ≤ x) : 0 ≤ yFC x := by unfold yFC; repeat' split <;> try omega
theorem yMJ (x : Int) : 0 ≤ yFa x := by unfold yFa; repeat' split <;> try omega
theorem yHG {l : List Int} (hb : ∀ x ∈ l, 0 ≤ x) (h : (yAw l).1 = (yAw l).2) : 0 ≤ (yAw l).1 ∧ (yAw l).1 ≤ 1114111 := by
 cases l with
 | nil => simp [yAw] at h
 | cons x t =>
  have hx := hb x List.mem_cons_self; by_cases h1 : 3 < t.length
  ·rw [yAw, if_pos h1] at h; simp at h
  by_cases h2 : wid x < t.length + 1
  ·rw [yAw, if_neg h1, if_pos h2] at h; simp at h
  have hs : yAw (x :: t) = yJu x (wid x - (t.length + 1)) (yBl t (yFC x)) := by rw [yAw, if_neg h1, if_neg h2]
  rw [hs] at h ⊢; cases hc : yBl t (yFC x) with
  | none => rw [hc] at h; simp [yJu] at h
  | some f =>
   rw [hc] at h; have f0 := yGi _ _ _ (yLI hx) hc; have := yGr (wid x - (t.length + 1)) f f0; have := yMJ x; simp only [yJu] at h ⊢; constructor
   ·split <;> omega
   ·rw [h]; split <;> omega
def yBi (r : Int) : List Int :=
 if r < 128 then [r] else if r < 2048 then [192 + r / 64, 128 + r % 64] else if r < 65536 then [224 + r / 4096, 128 + r / 64 % 64, 128 + r % 64]
 else [240 + r / 262144, 128 + r / 4096 % 64, 128 + r / 64 % 64, 128 + r % 64]
theorem u8n {n : Nat} (h : n < 256) : ((UInt8.ofNat n).toNat : Int) = n := by rw [UInt8.toNat_ofNat']; omega
theorem yOk {r : Int} (h : Ch r) : yBi r = bz (enc r) := by
 obtain ⟨n, rfl, hc⟩ := yCJ h; unfold yBi; rcases hc with ⟨n1, e⟩ | ⟨n1, n2, e⟩ | ⟨n1, n2, e⟩ | ⟨n1, n2, e⟩ <;> rw [e]
 ·rw [if_pos (by omega)]; simp only [bz, List.map_cons, List.map_nil]; rw [u8n (by omega)]
 ·rw [if_neg (by omega), if_pos (by omega)]; simp only [bz, List.map_cons, List.map_nil]; rw [u8n (by omega), u8n (by omega)]; simp
 ·rw [if_neg (by omega), if_neg (by omega), if_pos (by omega)]; simp only [bz, List.map_cons, List.map_nil]; rw [u8n (by omega), u8n (by omega), u8n (by omega)]; simp
 ·rw [if_neg (by omega), if_neg (by omega), if_neg (by omega)]; simp only [bz, List.map_cons, List.map_nil]; rw [u8n (by omega), u8n (by omega), u8n (by omega), u8n (by omega)]; simp
def yDx (l : List Int) : Nat → Nat → Int × Int
 | 0, _ => (0, 0)
 | f + 1, n => if n ≤ 4 ∧ n ≤ l.length then
   (if (yAw (l.take n)).1 = (yAw (l.take n)).2 ∧ yBi (yAw (l.take n)).1 = l.take n then
     (if 55296 ≤ (yAw (l.take n)).1 ∧ (yAw (l.take n)).1 ≤ 57343 then (0, 0) else ((yAw (l.take n)).1, n))
   else yDx l f (n + 1)) else (0, 0)
def yHm (l : List Int) : Int × Int := yDx l 5 1
theorem yJ2 {l : List UInt8} (hd : Lib.decodeL l = (65533, 1)) : ∀ f n, 1 ≤ n → yDx (bz l) f n = (0, 0)
 | 0, _, _ => rfl
 | f + 1, n, hn => by
  unfold yDx; split
  ·split
   ·rename_i h1 h2; split
    ·rfl
    ·rename_i h3; exfalso; have hr := yHG (l := (bz l).take n) (fun x hx => (yKB (List.mem_of_mem_take hx)).1) h2.1; have hC : Ch (yAw ((bz l).take n)).1 := by unfold Ch; omega
     have h4 := h2.2; rw [yOk hC, ← yB1] at h4; have h5 := yNr h4; rw [yB1] at h5; have h6 := yPi hC (l.drop n); rw [h5, List.take_append_drop, hd] at h6; have h7 := (yOC hC).2.2; rw [h5] at h7; simp only [Prod.mk.injEq] at h6; omega
   ·exact yJ2 hd f (n + 1) (by omega)
  ·rfl
theorem yB8 {y : Int} {t : List Int} {f : Int} (h : 128 ≤ y ∧ y ≤ 191) : yBl (y :: t) f = yBl t (f * 64 + (y - 128)) := by rw [yBl, if_neg (by omega)]
theorem wid1 {x : Int} (h : x < 128) : wid x = 1 ∧ yFC x = x ∧ yFa x = 0 := by simp [wid, yFC, yFa, h]
theorem wid2 {x : Int} (h : 192 ≤ x ∧ x < 224) : wid x = 2 ∧ yFC x = x - 192 ∧ yFa x = 128 := by unfold wid yFC yFa; rw [if_neg (by omega), if_pos h, if_neg (by omega), if_pos h, if_neg (by omega), if_pos h]; simp
theorem wid3 {x : Int} (h : 224 ≤ x ∧ x < 240) : wid x = 3 ∧ yFC x = x - 224 ∧ yFa x = 2048 := by unfold wid yFC yFa; rw [if_neg (by omega), if_neg (by omega), if_pos h, if_neg (by omega), if_neg (by omega), if_pos h, if_neg (by omega), if_neg (by omega), if_pos h]; simp
theorem wid4 {x : Int} (h : 240 ≤ x ∧ x < 248) : wid x = 4 ∧ yFC x = x - 240 ∧ yFa x = 65536 := by unfold wid yFC yFa; rw [if_neg (by omega), if_neg (by omega), if_neg (by omega), if_pos h, if_neg (by omega), if_neg (by omega), if_neg (by omega), if_pos h, if_neg (by omega), if_neg (by omega), if_neg (by omega), if_pos h]; simp
theorem yCA {x : Int} {k : Nat} {f : Int} (h1 : yCb k f < yCj k f) (h2 : yFa x < yCj k f) (h3 : yFa x < 1114111) (h4 : yCb k f < 1114111) : ¬ (yJu x k (some f)).1 = (yJu x k (some f)).2 := by simp only [yJu]; split <;> split <;> omega
theorem yGs {x f : Int} (h1 : yFa x ≤ f) (h2 : f ≤ 1114111) : yJu x 0 (some f) = (f, f) := by
 simp only [yJu]; rw [show yCb 0 f = f from rfl, show yCj 0 f = f from rfl, if_pos h2]; split
 ·exact Prod.ext (by simp only []; omega) rfl
 ·rfl
theorem yCB {l : List Int} {n : Nat} (h1 : ¬ (yAw (l.take n)).1 = (yAw (l.take n)).2) (f : Nat) (hl : n ≤ l.length) (h4 : n ≤ 4) : yDx l (f + 1) n = yDx l f (n + 1) := by rw [yDx, if_pos ⟨h4, hl⟩, if_neg (fun h => h1 h.1)]
theorem yF0 {l : List Int} {n : Nat} {r : Int} (h1 : yAw (l.take n) = (r, r)) (h2 : yBi r = l.take n) (hs : r < 55296 ∨ 57343 < r) (f : Nat) (hl : n ≤ l.length) (h4 : n ≤ 4) : yDx l (f + 1) n = (r, (n : Int)) := by rw [yDx, if_pos ⟨h4, hl⟩, h1, if_pos ⟨rfl, h2⟩, if_neg (by simp only []; omega)]
theorem yNW {l : List UInt8} (hne : l ≠ []) (hv : ¬ Lib.decodeL l = (65533, 1)) : yHm (bz l) = (((Lib.decodeL l).1 : Int), ((Lib.decodeL l).2 : Int)) := by
 have hl : 0 < l.length := List.length_pos_iff.2 hne; rw [Lib.decodeL_N] at hv ⊢; have k0 := (l.getD 0 0).toNat_lt; have k1 := (l.getD 1 0).toNat_lt; have k2 := (l.getD 2 0).toNat_lt; have k3 := (l.getD 3 0).toNat_lt; have hL := yHa l; have T1 : (bz l).take 1 = [((l.getD 0 0).toNat : Int)] := by rw [← yB1, Lib.takeA l hl]; rfl
 unfold yHm; rcases Lib.decodeN_shape l.length (l.getD 0 0).toNat (l.getD 1 0).toNat (l.getD 2 0).toNat (l.getD 3 0).toNat with ⟨c, e⟩ | ⟨c1, c2, c3, cv, e⟩ | ⟨c1, c2, c3, c4, cv, cs, e⟩ | ⟨c1, c2, c3, c4, c5, cv, cw, e⟩ | e
 ·rw [e]; dsimp only; generalize (l.getD 0 0).toNat = b0 at *
  obtain ⟨u1, u2, u3⟩ := wid1 (x := (b0 : Int)) (by omega); refine yF0 (n := 1) (r := b0) ?_ ?_ (by omega) 4 (by omega) (by omega)
  ·rw [T1]; simp only [yAw, List.length_nil, u1, u2]; rw [if_neg (by omega), if_neg (by omega)]; exact yGs (by omega) (by omega)
  ·rw [T1, yBi, if_pos (by omega)]
 ·have T2 : (bz l).take 2 = [((l.getD 0 0).toNat : Int), ((l.getD 1 0).toNat : Int)] := by rw [← yB1, Lib.takeB l c2]; rfl
  rw [e]; dsimp only; generalize (l.getD 0 0).toNat = b0 at *
  generalize (l.getD 1 0).toNat = b1 at *
  obtain ⟨u1, u2, u3⟩ := wid2 (x := (b0 : Int)) (by omega); rw [yCB (n := 1) _ 4 (by omega) (by omega)]
  ·refine yF0 (n := 2) (r := ((b0 % 32 * 64 + b1 % 64 : Nat) : Int)) ?_ ?_ (by omega) 3 (by omega) (by omega)
   ·rw [T2]; simp only [yAw, List.length_nil, List.length_cons, u1, u2]; rw [if_neg (by omega), if_neg (by omega), yB8 (by omega), yBl, show ((b0 : Int) - 192) * 64 + ((b1 : Int) - 128) = ((b0 % 32 * 64 + b1 % 64 : Nat) : Int) from by omega]; exact yGs (by omega) (by omega)
   ·rw [T2, yBi, if_neg (by omega), if_pos (by omega)]; simp only [List.cons.injEq, and_true]; omega
  ·rw [T1]; simp only [yAw, List.length_nil, u1, u2, yBl]; rw [if_neg (by omega), if_neg (by omega)]; refine yCA ?_ ?_ ?_ ?_ <;> simp only [yCb, yCj, u3] <;> omega
 ·have T2 : (bz l).take 2 = [((l.getD 0 0).toNat : Int), ((l.getD 1 0).toNat : Int)] := by rw [← yB1, Lib.takeB l (by omega)]; rfl
  have T3 : (bz l).take 3 = [((l.getD 0 0).toNat : Int), ((l.getD 1 0).toNat : Int), ((l.getD 2 0).toNat : Int)] := by rw [← yB1, Lib.takeC l c2]; rfl
  rw [e]; dsimp only; generalize (l.getD 0 0).toNat = b0 at *
  generalize (l.getD 1 0).toNat = b1 at *
  generalize (l.getD 2 0).toNat = b2 at *
  obtain ⟨u1, u2, u3⟩ := wid3 (x := (b0 : Int)) (by omega); rw [yCB (n := 1) _ 4 (by omega) (by omega), yCB (n := 2) _ 3 (by omega) (by omega)]
  ·refine yF0 (n := 3) (r := ((b0 % 16 * 4096 + b1 % 64 * 64 + b2 % 64 : Nat) : Int)) ?_ ?_ (by omega) 2 (by omega) (by omega)
   ·rw [T3]; simp only [yAw, List.length_nil, List.length_cons, u1, u2]; rw [if_neg (by omega), if_neg (by omega), yB8 (by omega), yB8 (by omega), yBl, show (((b0 : Int) - 224) * 64 + ((b1 : Int) - 128)) * 64 + ((b2 : Int) - 128) = ((b0 % 16 * 4096 + b1 % 64 * 64 + b2 % 64 : Nat) : Int) from by omega]; exact yGs (by omega) (by omega)
   ·rw [T3, yBi, if_neg (by omega), if_neg (by omega), if_pos (by omega)]; simp only [List.cons.injEq, and_true]; omega
  ·rw [T2]; simp only [yAw, List.length_nil, List.length_cons, u1, u2]; rw [if_neg (by omega), if_neg (by omega), yB8 (by omega), yBl]; refine yCA ?_ ?_ ?_ ?_ <;> simp only [yCb, yCj, u3] <;> omega
  ·rw [T1]; simp only [yAw, List.length_nil, u1, u2, yBl]; rw [if_neg (by omega), if_neg (by omega)]; refine yCA ?_ ?_ ?_ ?_ <;> simp only [yCb, yCj, u3] <;> omega
 ·have T2 : (bz l).take 2 = [((l.getD 0 0).toNat : Int), ((l.getD 1 0).toNat : Int)] := by rw [← yB1, Lib.takeB l (by omega)]; rfl
  have T3 : (bz l).take 3 = [((l.getD 0 0).toNat : Int), ((l.getD 1 0).toNat : Int), ((l.getD 2 0).toNat : Int)] := by rw [← yB1, Lib.takeC l (by omega)]; rfl
  have T4 : (bz l).take 4 = [((l.getD 0 0).toNat : Int), ((l.getD 1 0).toNat : Int), ((l.getD 2 0).toNat : Int), ((l.getD 3 0).toNat : Int)] := by rw [← yB1, Lib.takeD l c2]; rfl
  rw [e]; dsimp only; generalize (l.getD 0 0).toNat = b0 at *
  generalize (l.getD 1 0).toNat = b1 at *
  generalize (l.getD 2 0).toNat = b2 at *
  generalize (l.getD 3 0).toNat = b3 at *
  obtain ⟨u1, u2, u3⟩ := wid4 (x := (b0 : Int)) (by omega); rw [yCB (n := 1) _ 4 (by omega) (by omega), yCB (n := 2) _ 3 (by omega) (by omega), yCB (n := 3) _ 2 (by omega) (by omega)]
  ·refine yF0 (n := 4) (r := ((b0 % 8 * 262144 + b1 % 64 * 4096 + b2 % 64 * 64 + b3 % 64 : Nat) : Int)) ?_ ?_ (by omega) 1 (by omega) (by omega)
   ·rw [T4]; simp only [yAw, List.length_nil, List.length_cons, u1, u2]; rw [if_neg (by omega), if_neg (by omega), yB8 (by omega), yB8 (by omega), yB8 (by omega), yBl, show ((((b0 : Int) - 240) * 64 + ((b1 : Int) - 128)) * 64 + ((b2 : Int) - 128)) * 64 + ((b3 : Int) - 128) = ((b0 % 8 * 262144 + b1 % 64 * 4096 + b2 % 64 * 64 + b3 % 64 : Nat) : Int) from by omega]; exact yGs (by omega) (by omega)
   ·rw [T4, yBi, if_neg (by omega), if_neg (by omega), if_neg (by omega)]; simp only [List.cons.injEq, and_true]; omega
  ·rw [T3]; simp only [yAw, List.length_nil, List.length_cons, u1, u2]; rw [if_neg (by omega), if_neg (by omega), yB8 (by omega), yB8 (by omega), yBl]; refine yCA ?_ ?_ ?_ ?_ <;> simp only [yCb, yCj, u3] <;> omega
  ·rw [T2]; simp only [yAw, List.length_nil, List.length_cons, u1, u2]; rw [if_neg (by omega), if_neg (by omega), yB8 (by omega), yBl]; refine yCA ?_ ?_ ?_ ?_ <;> simp only [yCb, yCj, u3] <;> omega
  ·rw [T1]; simp only [yAw, List.length_nil, u1, u2, yBl]; rw [if_neg (by omega), if_neg (by omega)]; refine yCA ?_ ?_ ?_ ?_ <;> simp only [yCb, yCj, u3] <;> omega
 ·exact absurd e hv
theorem yPu {s : ByteArray} {p : Nat} (hp : p < s.size) : yHm (bz (s.data.toList.drop p)) = if (Utf8.decode s p).1 = 65533 ∧ (Utf8.decode s p).2 = 1 then (0, 0) else (((Utf8.decode s p).1 : Int), ((Utf8.decode s p).2 : Int)) := by
 rw [yLq]; split
 ·rename_i h; exact yJ2 (Prod.ext h.1 h.2) 5 1 (by omega)
 ·rename_i h; exact yNW (yOX hp) (fun e => h (by rw [e]; exact ⟨rfl, rfl⟩))
end Gim
