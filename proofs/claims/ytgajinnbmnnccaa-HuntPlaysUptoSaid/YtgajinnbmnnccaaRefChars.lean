/- gimletref01.Chars and what it gives, for other seats. -/
import Derived.Test.YtgajinnbmnnccaaUtf
import Derived.Test.YtgajinnbmnnccaaBase
import Derived.Test.YtgajinnbmnnccaaRunes
import Derived.Test.YtgajinnbmnnccaaOrd
import Derived.Test.YtgajinnbmnnccaaOrdMath
import Derived.Test.YtgajinnbmnnccaaByteOrd
import Derived.Test.YtgajinnbmnnccaaRsText
import Derived.Test.YtgajinnbmnnccaaHuntBase
import Derived.Test.YtgajinnbmnnccaaHanded
import Derived.Laws.AppendOwnNone
import Derived.Shelf.Unicode.DecodeSlow
import Derived.Lib.LaidU8T
import Derived.Laws.BytesArg
import Derived.Laws.IdiomStrings
import Derived.Laws.Cover4
import Derived.Lib.TrimUEq
import Derived.Lib.RuneBytes
import Derived.Lib.DecodeNEq
import Derived.Lib.LazyBuf
import Derived.RangeFuncNested
import Derived.RangeFuncBound
import Derived.RangeFuncCalls
import Derived.RangeFuncLeaves
import Derived.RangeFuncFrom
import Derived.Shelf.Abstract
import Derived.Shelf.RegionOpen
import Derived.WalkKit
import Derived.OwnWalkIn
import Derived.TacticsInMore
import Derived.LoopNIn
import Derived.LoopIn
import Derived.Lib.MapLaws
import Derived.Maps.AppendAt
namespace Gim
open Go Go.Lib
/-- byte number j -/
def bn (xs : List Int) (j : Nat) : Nat := (gt xs j).toNat
/-- the character that bytes begin with, and its width, as Go's decoder has it -/
def decB (xs : List Int) : Nat × Nat := if xs.length = 0 then (65533, 0) else decodeN xs.length (bn xs 0) (bn xs 1) (bn xs 2) (bn xs 3)
def fullN (n b0 b1 b2 : Nat) : Bool :=
  if firstT b0 % 8 ≤ n then true
  else if 1 < n ∧ (b1 < accLo (firstT b0 / 16) ∨ accHi (firstT b0 / 16) < b1) then true
  else if 2 < n ∧ (b2 < 128 ∨ 191 < b2) then true else false
/-- is there a whole character, or a wrong byte? -/
def fullB (xs : List Int) : Bool := if xs.length = 0 then false else fullN xs.length (bn xs 0) (bn xs 1) (bn xs 2)
theorem bn_cast {xs : List Int} {j : Nat} (h : 0 ≤ gt xs j) : gt xs j = ((bn xs j : Nat) : Int) := (Int.toNat_of_nonneg h).symm
end Gim
namespace Go.Proofs.Ytgajinnbmnnccaa
open Go.RowKit Go.Lib Gim
/-- bytes in memory, byte by byte -/
structure Rb (w : World) (ao : Option Addr) (n cap : Nat) (xs : List Int) : Prop where
  rd : Rd w .u8 ao n cap xs
  by_ : ∀ j, j < n → 0 ≤ gt xs j ∧ gt xs j ≤ 255
theorem Rb.below {w w' : World} {ao : Option Addr} {n cap : Nat} {xs : List Int} (h : Rb w ao n cap xs) (hb : Below w.heap.size w w') : Rb w' ao n cap xs := ⟨h.rd.below hb, h.by_⟩
theorem Rb.at_ {w : World} {ao : Option Addr} {n cap : Nat} {xs : List Int} (h : Rb w ao n cap xs) (h0 : 0 < n) : ∃ b o, ao = some ⟨b, o, none⟩ ∧ b < w.heap.size ∧ ∀ j, j < n → bn xs j < 256 ∧ ∀ w', Below w.heap.size w w' → w'.cell? ⟨b, o + j, none⟩ = some (.int .u8 ((bn xs j : Nat) : Int)) := by
  obtain ⟨b, o, e, hb, hc⟩ := h.rd.cell 0 h0
  exact ⟨b, o, e, hb, fun j hj => ⟨by have := h.by_ j hj; unfold bn; omega, fun w' hw => by
    rw [hw.cell (p := ⟨b, o + j, none⟩) hb, hc j hj, bn_cast (h.by_ j hj).1]⟩⟩
end Go.Proofs.Ytgajinnbmnnccaa
namespace Gim
open Go
def validB (xs : List Int) : Bool := !decide ((decB xs).1 = 65533 ∧ (decB xs).2 ≤ 1)
def beginsB (xs : List Int) : Bool := !fullB xs || validB xs
end Gim
namespace Go.Proofs.Ytgajinnbmnnccaa
open Go.RowKit Go.Lib Gim
theorem Rb.take {w : World} {ao : Option Addr} {n cap : Nat} {xs : List Int} (h : Rb w ao n cap xs) {m : Nat} (hm : m ≤ n) : Rb w ao m cap (xs.take m) :=
  ⟨h.rd.take hm, fun j hj => by
    have := h.by_ j (by omega)
    have e : gt (xs.take m) j = gt xs j := by simp [gt, hj]
    rw [e]; exact this⟩
theorem Rb.drop {w : World} {ao : Option Addr} {n cap : Nat} {xs : List Int} (h : Rb w ao n cap xs) {m : Nat} (hm : m ≤ n) :
    Rb w (if cap = m then ao else ao.map (·.add m)) (n - m) (cap - m) (xs.drop m) :=
  ⟨h.rd.drop hm, fun j hj => by
    have := h.by_ (m + j) (by omega)
    have e : gt (xs.drop m) j = gt xs (m + j) := by simp [gt]
    rw [e]; exact this⟩
theorem Rb.drewN {w : World} {ao : Option Addr} {n cap : Nat} {xs : List Int} (h : Rb w ao n cap xs) (m : Nat) : Rb (w.drewN m) ao n cap xs := ⟨h.rd.drewN m, h.by_⟩
end Go.Proofs.Ytgajinnbmnnccaa
namespace Gim
open Go Go.RowKit
/-- bytes as numbers -/
def bz (l : List UInt8) : List Int := l.map fun b => (b.toNat : Int)
theorem bz_length (l : List UInt8) : (bz l).length = l.length := by simp [bz]
theorem bz_byte {l : List UInt8} {x : Int} (h : x ∈ bz l) : 0 ≤ x ∧ x ≤ 255 := by
  simp only [bz, List.mem_map] at h
  obtain ⟨b, _, rfl⟩ := h
  have := b.toNat_lt
  omega
/-- the numbers of a new slice of a string's bytes -/
theorem rd_bytes (w : World) (X : ByteArray) (t : TypeId) (cap : Nat) (fr : Nat × Nat) (h1 : X.size ≤ cap) (h2 : cap ≤ maxLen) :
    Rd (w.alloc (.cells (bytesRow X cap) t fr)) .u8 (some ⟨w.heap.size, 0, none⟩) X.size cap (bz X.data.toList) :=
  ⟨by rw [bz_length]; rfl, h1, h2, fun j hj => ⟨_, _, rfl, by simp, fun i hi => by
    have hi' : i < X.data.size := hi
    have hg : gt (bz X.data.toList) i = (X.data[i].toNat : Int) := by simp [gt, bz]; rw [Array.getElem?_eq_getElem hi']; rfl
    rw [hg]
    have := bytesRow_at X cap i hi'
    have hh := heap_alloc_new w (.cells (bytesRow X cap) t fr)
    unfold World.cell?
    rw [hh, Nat.zero_add]
    exact this⟩⟩
/-- how many bytes from a place on can go on to be one character's: so many already, with fuel -/
def runF (xs : List Int) (at_ : Nat) : Nat → Nat → Nat
  | 0, n => n
  | f + 1, n => if at_ + n < xs.length ∧ beginsB ((xs.drop at_).take (n + 1)) = true then runF xs at_ f (n + 1) else n
def pieceN (xs : List Int) (at_ : Nat) : Nat := runF xs at_ (xs.length - at_) 0
theorem runF_end {xs : List Int} {at_ n : Nat} : ∀ f, ¬ (at_ + n < xs.length ∧ beginsB ((xs.drop at_).take (n + 1)) = true) → runF xs at_ f n = n
  | 0, _ => rfl
  | f + 1, h => by rw [runF, if_neg h]
theorem decB_width {xs : List Int} (h : 0 < xs.length) : 1 ≤ (decB xs).2 := by
  rw [decB, if_neg (by omega)]
  unfold Lib.decodeN
  repeat' split
  all_goals simp
theorem decB_le {xs : List Int} (h : 0 < xs.length) : (decB xs).2 ≤ xs.length := by
  rw [decB, if_neg (by omega)]
  unfold Lib.decodeN
  repeat' split
  all_goals simp
  all_goals omega
end Gim
namespace Go.Proofs.Ytgajinnbmnnccaa
open Go.RowKit Gim
/-- '[]byte(s)' -/
theorem rb_str (w : World) (s : ByteArray) (t : TypeId) (cap : Nat) (fr : Nat × Nat) (h1 : s.size ≤ cap) (h2 : cap ≤ maxLen) : Rb (w.alloc (.cells (bytesRow s cap) t fr)).drew (some ⟨w.heap.size, 0, none⟩) s.size cap (bz s.data.toList) := by
  have h := rd_bytes w s t cap fr h1 h2
  exact ⟨h.drewN 1, gt_all h.len fun x hx => bz_byte hx⟩
end Go.Proofs.Ytgajinnbmnnccaa
namespace Gim
open Go Go.Lib
theorem z_enc {v : Int} (h : Ch v) : encodeRuneZ v = bz (enc v) := by
  have hv := h
  unfold Ch at hv
  obtain ⟨n, rfl, ⟨h1, e⟩ | ⟨h1, h2, e⟩ | ⟨h1, h2, e⟩ | ⟨h1, h2, e⟩⟩ := enc_cases h
  · rw [e, encodeRuneZ_one (by omega) (by omega)]
    simp only [bz, List.map_cons, List.map_nil, UInt8.toNat_ofNat', Nat.reducePow, List.cons.injEq, and_true]
    omega
  · rw [e, encodeRuneZ_two (by omega) (by omega)]
    simp only [bz, List.map_cons, List.map_nil, UInt8.toNat_ofNat', Nat.reducePow, List.cons.injEq, and_true]
    omega
  · rw [e, encodeRuneZ_three (by omega)]
    simp only [bz, List.map_cons, List.map_nil, UInt8.toNat_ofNat', Nat.reducePow, List.cons.injEq, and_true]
    omega
  · rw [e, encodeRuneZ_four (by omega) (by omega)]
    simp only [bz, List.map_cons, List.map_nil, UInt8.toNat_ofNat', Nat.reducePow, List.cons.injEq, and_true]
    omega
theorem decB_bz {l : List UInt8} (h : l ≠ []) : decB (bz l) = decodeL l := by
  have hb : ∀ j, bn (bz l) j = (l.getD j 0).toNat := fun j => by
    unfold bn gt bz
    rw [List.getElem?_map, List.getD_eq_getElem?_getD]
    cases l[j]? <;> simp
  have hn : ¬ (bz l).length = 0 := by rw [bz_length]; exact fun k => h (List.eq_nil_of_length_eq_zero k)
  rw [decodeL_N, decB, if_neg hn, hb, hb, hb, hb, bz_length]
theorem fullN_part {n b0 b1 b2 : Nat} (h : n < firstT b0 % 8) (h1 : 1 < n → accLo (firstT b0 / 16) ≤ b1 ∧ b1 ≤ accHi (firstT b0 / 16)) (h2 : 2 < n → 128 ≤ b2 ∧ b2 ≤ 191) : fullN n b0 b1 b2 = false := by
  unfold fullN
  rw [if_neg (by omega), if_neg (by omega), if_neg (by omega)]
theorem fullN_whole {n b0 b1 b2 : Nat} (h : firstT b0 % 8 ≤ n) : fullN n b0 b1 b2 = true := by
  unfold fullN
  rw [if_pos h]
theorem full1 (a : Nat) : fullB [(a : Int)] = fullN 1 a 0 0 := by simp [fullB, bn, gt]
theorem full2 (a b : Nat) : fullB [(a : Int), b] = fullN 2 a b 0 := by simp [fullB, bn, gt]
theorem full3 (a b c : Nat) : fullB [(a : Int), b, c] = fullN 3 a b c := by simp [fullB, bn, gt]
theorem full4 (a b c d : Nat) : fullB [(a : Int), b, c, d] = fullN 4 a b c := by simp [fullB, bn, gt]
theorem validB_of {xs : List Int} {v : Int} (h : ((decB xs).1 : Int) = v ∧ (decB xs).2 = xs.length) (k : ¬ (v = 65533 ∧ xs.length ≤ 1)) : validB xs = true := by
  unfold validB
  rw [decide_eq_false (by omega)]; rfl
/-- the beginnings of a character's bytes -/
structure Whole (xs : List Int) (v : Int) : Prop where
  len : 1 ≤ xs.length ∧ xs.length ≤ 4
  part : ∀ i, i + 1 < xs.length → fullB (xs.take (i + 1)) = false
  full : fullB xs = true
  dec : ((decB xs).1 : Int) = v ∧ (decB xs).2 = xs.length
  ok : ¬ (v = 65533 ∧ xs.length ≤ 1)
theorem whole {v : Int} (h : Ch v) : Whole (encodeRuneZ v) v := by
  have hv := h
  unfold Ch at hv
  have hz := z_enc h
  have hd := dec_enc h []
  rw [List.append_nil, ← decB_bz (enc_ne h), ← hz, show (enc v).length = (encodeRuneZ v).length by rw [hz, bz_length]] at hd
  have hdec : ((decB (encodeRuneZ v)).1 : Int) = v ∧ (decB (encodeRuneZ v)).2 = (encodeRuneZ v).length := by
    rw [hd]; exact ⟨by simp only []; omega, rfl⟩
  obtain ⟨n, rfl⟩ := Int.eq_ofNat_of_zero_le (show 0 ≤ v by omega)
  refine ⟨encodeRuneZ_length n, ?_, ?_, hdec, ?_⟩
  all_goals clear hz hd hdec
  all_goals
    rcases Nat.lt_or_ge n 128 with h1 | h1
    · have e : encodeRuneZ n = [((n : Nat) : Int)] := encodeRuneZ_one (by omega) (by omega)
      rw [e]
      first
        | (intro i hi; simp at hi; done)
        | (rw [full1]; exact fullN_whole (by have : firstT n = 240 := (by unfold firstT; rw [if_pos h1]); omega))
        | (rintro ⟨k, _⟩; omega)
    rcases Nat.lt_or_ge n 2048 with h2 | h2
    · have e : encodeRuneZ n = [((192 + n / 64 : Nat) : Int), ((128 + n % 64 : Nat) : Int)] := by
        rw [encodeRuneZ_two (by omega) (by omega)]; congr 1
      have hf : firstT (192 + n / 64) = 2 := firstT_C2 (by omega)
      rw [e]
      first
        | (intro i hi; simp at hi; obtain rfl : i = 0 := by omega
           rw [show [((192 + n / 64 : Nat) : Int), ((128 + n % 64 : Nat) : Int)].take (0 + 1) = [((192 + n / 64 : Nat) : Int)] from rfl, full1]
           exact fullN_part (by rw [hf]; omega) (by omega) (by omega))
        | (rw [full2]; exact fullN_whole (by omega))
        | (simp)
    rcases Nat.lt_or_ge n 65536 with h3 | h3
    · have e : encodeRuneZ n = [((224 + n / 4096 : Nat) : Int), ((128 + n / 64 % 64 : Nat) : Int), ((128 + n % 64 : Nat) : Int)] := by
        rw [encodeRuneZ_three (by omega)]; congr 1
      have hf : firstT (224 + n / 4096) % 8 = 3 ∧ accLo (firstT (224 + n / 4096) / 16) ≤ 128 + n / 64 % 64 ∧ 128 + n / 64 % 64 ≤ accHi (firstT (224 + n / 4096) / 16) := by
        by_cases k0 : n / 4096 = 0
        · rw [firstT_E0 (by omega)]; simp [accLo, accHi]; omega
        by_cases k1 : n / 4096 = 13
        · rw [firstT_ED (by omega)]; simp [accLo, accHi]; omega
        · rw [firstT_E1 (by omega)]; simp [accLo, accHi]; omega
      rw [e]
      first
        | (intro i hi; simp at hi; obtain rfl | rfl : i = 0 ∨ i = 1 := by omega
           · rw [show [((224 + n / 4096 : Nat) : Int), ((128 + n / 64 % 64 : Nat) : Int), ((128 + n % 64 : Nat) : Int)].take (0 + 1) = [((224 + n / 4096 : Nat) : Int)] from rfl, full1]
             exact fullN_part (by omega) (by omega) (by omega)
           · rw [show [((224 + n / 4096 : Nat) : Int), ((128 + n / 64 % 64 : Nat) : Int), ((128 + n % 64 : Nat) : Int)].take (1 + 1) = [((224 + n / 4096 : Nat) : Int), ((128 + n / 64 % 64 : Nat) : Int)] from rfl, full2]
             exact fullN_part (by omega) (fun _ => hf.2) (by omega))
        | (rw [full3]; exact fullN_whole (by omega))
        | (simp)
    · have e : encodeRuneZ n = [((240 + n / 262144 : Nat) : Int), ((128 + n / 4096 % 64 : Nat) : Int), ((128 + n / 64 % 64 : Nat) : Int), ((128 + n % 64 : Nat) : Int)] := by
        rw [encodeRuneZ_four (by omega) (by omega)]; congr 1
      have hf : firstT (240 + n / 262144) % 8 = 4 ∧ accLo (firstT (240 + n / 262144) / 16) ≤ 128 + n / 4096 % 64 ∧ 128 + n / 4096 % 64 ≤ accHi (firstT (240 + n / 262144) / 16) := by
        by_cases k0 : n / 262144 = 0
        · rw [firstT_F0 (by omega)]; simp [accLo, accHi]; omega
        by_cases k1 : n / 262144 = 4
        · rw [firstT_F4 (by omega)]; simp [accLo, accHi]; omega
        · rw [firstT_F1 (by omega)]; simp [accLo, accHi]; omega
      rw [e]
      first
        | (intro i hi; simp at hi; obtain rfl | rfl | rfl : i = 0 ∨ i = 1 ∨ i = 2 := by omega
           · rw [show [((240 + n / 262144 : Nat) : Int), ((128 + n / 4096 % 64 : Nat) : Int), ((128 + n / 64 % 64 : Nat) : Int), ((128 + n % 64 : Nat) : Int)].take (0 + 1) = [((240 + n / 262144 : Nat) : Int)] from rfl, full1]
             exact fullN_part (by omega) (by omega) (by omega)
           · rw [show [((240 + n / 262144 : Nat) : Int), ((128 + n / 4096 % 64 : Nat) : Int), ((128 + n / 64 % 64 : Nat) : Int), ((128 + n % 64 : Nat) : Int)].take (1 + 1) = [((240 + n / 262144 : Nat) : Int), ((128 + n / 4096 % 64 : Nat) : Int)] from rfl, full2]
             exact fullN_part (by omega) (fun _ => hf.2) (by omega)
           · rw [show [((240 + n / 262144 : Nat) : Int), ((128 + n / 4096 % 64 : Nat) : Int), ((128 + n / 64 % 64 : Nat) : Int), ((128 + n % 64 : Nat) : Int)].take (2 + 1) = [((240 + n / 262144 : Nat) : Int), ((128 + n / 4096 % 64 : Nat) : Int), ((128 + n / 64 % 64 : Nat) : Int)] from rfl, full3]
             exact fullN_part (by omega) (fun _ => hf.2) (by omega))
        | (rw [full4]; exact fullN_whole (by omega))
        | (simp)
theorem Whole.begins {xs : List Int} {v : Int} (h : Whole xs v) (i : Nat) (hi : i < xs.length) : beginsB (xs.take (i + 1)) = true := by
  unfold beginsB
  by_cases hl : i + 1 < xs.length
  · rw [h.part i hl]; rfl
  · rw [List.take_of_length_le (by omega), validB_of h.dec h.ok]; simp
/-- how many bytes a character has that begins with b -/
def szR (b : Nat) : Nat := if b < 128 then 1 else if 194 ≤ b ∧ b ≤ 223 then 2 else if 224 ≤ b ∧ b ≤ 239 then 3 else if 240 ≤ b ∧ b ≤ 244 then 4 else 0
/-- can y be the second byte behind x? -/
def goesR (x y : Nat) : Bool :=
  if x = 224 then decide (160 ≤ y ∧ y ≤ 191) else if x = 237 then decide (128 ≤ y ∧ y ≤ 159) else if x = 240 then decide (144 ≤ y ∧ y ≤ 191)
  else if x = 244 then decide (128 ≤ y ∧ y ≤ 143) else decide (128 ≤ y ∧ y ≤ 191)
/-- may the byte number k stand there? -/
def fitR (xs : List Int) (at_ k : Nat) : Bool := !(decide (k = 1) && !goesR (bn xs at_) (bn xs (at_ + k)) || decide (bn xs (at_ + k) < 128) || decide (191 < bn xs (at_ + k)))
def frF (xs : List Int) (at_ n : Nat) : Nat → Nat → Nat
  | 0, k => k
  | f + 1, k => if k < n ∧ at_ + k < xs.length ∧ fitR xs at_ k = true then frF xs at_ n f (k + 1) else k
def frK (xs : List Int) (at_ n k : Nat) : Nat := frF xs at_ n (n - k) k
/-- Front's answer -/
def frontB (xs : List Int) (at_ : Nat) : Nat × Nat :=
  if xs.length ≤ at_ then (0, 0) else if szR (bn xs at_) = 0 then (0, 0) else (frK xs at_ (szR (bn xs at_)) 1, szR (bn xs at_))
theorem szR_le (b : Nat) : szR b ≤ 4 := by
  unfold szR
  repeat' split
  all_goals omega
theorem frF_end {xs : List Int} {at_ n k : Nat} : ∀ f, ¬ (k < n ∧ at_ + k < xs.length ∧ fitR xs at_ k = true) → frF xs at_ n f k = k
  | 0, _ => rfl
  | f + 1, h => by rw [frF, if_neg h]
theorem frK_next {xs : List Int} {at_ n k : Nat} (h : k < n) (h2 : at_ + k < xs.length) (h3 : fitR xs at_ k = true) : frK xs at_ n k = frK xs at_ n (k + 1) := by
  unfold frK
  obtain ⟨f, hf⟩ : ∃ f, n - k = f + 1 := ⟨n - k - 1, by omega⟩
  rw [hf, frF, if_pos ⟨h, h2, h3⟩, show n - (k + 1) = f by omega]
theorem frK_end {xs : List Int} {at_ n k : Nat} (h : ¬ (k < n ∧ at_ + k < xs.length ∧ fitR xs at_ k = true)) : frK xs at_ n k = k := frF_end _ h
end Gim
namespace Go.Proofs.Ytgajinnbmnnccaa
open Go.RowKit Gim
set_option maxRecDepth 100000 in
set_option maxHeartbeats 1000000 in
theorem size_calls (x : Nat) (w : World) (hx : x < 256) : Calls Try.prog 52 #[.int .u8 x] w fun e w' => e = .returned (.int .i64 (szR x)) ∧ w' = w := by
  go_enter Try.func52, Try.ntmps52
  go_wp2
  all_goals
    go_ret
    refine ⟨?_, rfl⟩
    show Ending.returned (.int .i64 _) = .returned (.int .i64 (szR x : Nat))
    congr 2
    unfold szR
    repeat' split
    all_goals omega
set_option maxRecDepth 100000 in
set_option maxHeartbeats 1000000 in
theorem goes_calls (x y : Nat) (w : World) (_ : x < 256) (_ : y < 256) : Calls Try.prog 53 #[.int .u8 x, .int .u8 y] w fun e w' => e = .returned (.bool (goesR x y)) ∧ w' = w := by
  go_enter Try.func53, Try.ntmps53
  go_wp2
  all_goals
    go_ret
    refine ⟨?_, rfl⟩
    show Ending.returned (.bool _) = .returned (.bool (goesR x y))
    congr 2
    unfold goesR
    try simp only [beq_iff_eq, beq_eq_false_iff_ne, ne_eq] at *
    rw [Bool.eq_iff_iff]
    repeat' split
    all_goals first
      | (simp only [decide_eq_true_eq]; omega)
      | (simp only [decide_eq_true_eq, Bool.false_eq_true, false_iff]; omega)
set_option maxRecDepth 100000 in
set_option maxHeartbeats 2000000 in
theorem front_calls (w : World) (ao : Option Addr) (n cap : Nat) (xs : List Int) (h : Rb w ao n cap xs) (p : Nat) (hn : n ≤ 1125899906842624) :
    Calls Try.prog 50 #[.slice ao n cap, .int .i64 p] w fun e w' => e = .returned (.tuple #[.int .i64 (frontB xs p).1, .int .i64 (frontB xs p).2]) ∧ w' = w := by
  have hl := h.rd.len
  by_cases hp : n ≤ p
  · rw [show frontB xs p = (0, 0) by rw [frontB, if_pos (by omega)]]
    go_enter Try.func50, Try.ntmps50
    go_wp2
    (try simp only [Exit.inBlock, Exit.then]); refine bodyPost_ret (results_tmp2 rfl _ _ _) rfl ?_
    exact ⟨rfl, rfl⟩
  · obtain ⟨b, o, rfl, hbz, hcell⟩ := h.at_ (by omega)
    have hc0 := (hcell p (by omega))
    have hx0 := hc0.1
    have hcp := hc0.2 w (Below.refl _ _)
    have HC := Lib.hid (fun j hj => And.intro (hcell j hj).1 ((hcell j hj).2 w (Below.refl _ _)))
    have HF := Lib.hid (show frontB xs p = if szR (bn xs p) = 0 then (0, 0) else (frK xs p (szR (bn xs p)) 1, szR (bn xs p)) by rw [frontB, if_neg (by omega)])
    have hsz := szR_le (bn xs p)
    have HL := Lib.hid hl
    clear hc0 hcell hl
    obtain ⟨x, hx⟩ : ∃ x, x = bn xs p := ⟨_, rfl⟩
    have HX := Lib.hid hx
    rw [← hx] at hx0 hcp hsz HF
    clear hx
    obtain ⟨m, hm⟩ : ∃ m, m = szR x := ⟨_, rfl⟩
    have cS := size_calls x w hx0
    rw [← hm] at cS hsz HF
    clear hm
    go_enter Try.func50, Try.ntmps50
    go_wp2_with fail
    refine cS.mono ?_
    rintro e w1 ⟨rfl, rfl⟩
    clear cS
    by_cases hm0 : m = 0
    · have HE := Lib.hid (HF.out.trans (if_pos hm0))
      subst hm0
      clear HF
      go_wp2
      (try simp only [Exit.inBlock, Exit.then]); refine bodyPost_ret (results_tmp2 rfl _ _ _) rfl ?_
      exact ⟨by rw [HE.out]; rfl, rfl⟩
    · have HE := Lib.hid (HF.out.trans (if_neg hm0))
      have hmd : ((m : Int) == 0) = false := by simp; omega
      clear HF
      go_wp2
      go_loopw [7] (fun v wr => ∃ k : Nat, v = .int .i64 k ∧ 1 ≤ k ∧ k ≤ m ∧ wr = w1 ∧ Hid (frK xs p m 1 = frK xs p m k)) (fun v _ => m - (RowKit.intOf v).toNat)
      case atStart => exact ⟨1, rfl, by omega, by omega, rfl, Lib.hid rfl⟩
      case round =>
        obtain ⟨k, rfl, hk1, hkm, rfl, HK⟩ := hrel
        by_cases hk : k < m
        · by_cases hpk : p + k < n
          · have hcy := HC.out (p + k) hpk
            obtain ⟨y, hy⟩ : ∃ y, y = bn xs (p + k) := ⟨_, rfl⟩
            have HFit := Lib.hid (show fitR xs p k = !(decide (k = 1) && !goesR x y || decide (y < 128) || decide (191 < y)) by unfold fitR; rw [HX.out, hy])
            rw [← hy] at hcy
            obtain ⟨hy0, hcy⟩ := hcy
            clear hy
            by_cases h1 : k = 1
            · subst h1
              have cG := goes_calls x y wr hx0 hy0
              obtain ⟨q, hq⟩ : ∃ q, q = goesR x y := ⟨_, rfl⟩
              rw [← hq] at HFit cG
              clear hq
              cases q
              · have HR := Lib.hid (HE.out.trans (by rw [frK_end (fun hh => by have := HFit.out; rw [hh.2.2] at this; simp at this)]) : frontB xs p = (1, m))
                clear HFit HE HK
                go_wp2_with fail
                refine cG.mono ?_
                rintro e w2 ⟨rfl, rfl⟩
                clear cG
                go_wp2
                (try simp only [Exit.inBlock, Exit.then]); refine bodyPost_ret (results_tmp2 rfl _ _ _) rfl ?_
                exact ⟨by rw [HR.out]; rfl, rfl⟩
              · by_cases hin : 128 ≤ y ∧ y ≤ 191
                · obtain ⟨hi1, hi2⟩ := hin
                  have HK2 := Lib.hid (frK_next (n := m) hk (by rw [HL.out]; exact hpk) (by rw [HFit.out]; simp; omega) : frK xs p m 1 = frK xs p m (1 + 1))
                  clear HFit
                  go_wp2_with fail
                  refine cG.mono ?_
                  rintro e w2 ⟨rfl, rfl⟩
                  clear cG
                  go_wp2
                  go_roundw
                  case rel => exact ⟨2, by go_num, by omega, by omega, trivial, HK2⟩
                  case measure => simp [RowKit.intOf]; omega
                · have HR := Lib.hid (HE.out.trans (by rw [frK_end (fun hh => by have := HFit.out; rw [hh.2.2] at this; simp at this; omega)]) : frontB xs p = (1, m))
                  clear HFit HE HK
                  rcases Nat.lt_or_ge y 128 with hi | hi
                  all_goals
                    go_wp2_with fail
                    refine cG.mono ?_
                    rintro e w2 ⟨rfl, rfl⟩
                    clear cG
                    go_wp2
                    (try simp only [Exit.inBlock, Exit.then]); refine bodyPost_ret (results_tmp2 rfl _ _ _) rfl ?_
                    exact ⟨by rw [HR.out]; rfl, rfl⟩
            · have hkd : ((k : Int) == 1) = false := by simp; omega
              by_cases hin : 128 ≤ y ∧ y ≤ 191
              · obtain ⟨hi1, hi2⟩ := hin
                have HK2 := Lib.hid (HK.out.trans (frK_next (n := m) hk (by rw [HL.out]; exact hpk) (by rw [HFit.out]; simp [h1]; omega)) : frK xs p m 1 = frK xs p m (k + 1))
                clear HFit
                go_wp2
                go_roundw
                case rel => exact ⟨k + 1, by go_num, by omega, by omega, trivial, HK2⟩
                case measure => simp [RowKit.intOf]; omega
              · have HR := Lib.hid (HE.out.trans (by rw [HK.out, frK_end (fun hh => by have := HFit.out; rw [hh.2.2] at this; simp [h1] at this; omega)]) : frontB xs p = (k, m))
                clear HFit HE HK
                rcases Nat.lt_or_ge y 128 with hi | hi
                all_goals
                  go_wp2
                  (try simp only [Exit.inBlock, Exit.then]); refine bodyPost_ret (results_tmp2 rfl _ _ _) rfl ?_
                  exact ⟨by rw [HR.out]; rfl, rfl⟩
          · have HR := Lib.hid (HE.out.trans (by rw [HK.out, frK_end (fun hh => by rw [HL.out] at hh; omega)]) : frontB xs p = (k, m))
            clear HE HK
            go_wp2
            (try simp only [Exit.inBlock, Exit.then]); refine bodyPost_ret (results_tmp2 rfl _ _ _) rfl ?_
            exact ⟨by rw [HR.out]; rfl, rfl⟩
        · obtain rfl : k = m := by omega
          have HR := Lib.hid (HE.out.trans (by rw [HK.out, frK_end (fun hh => by omega)]) : frontB xs p = (k, k))
          clear HE HK
          go_wp2
          (try simp only [Exit.inBlock, Exit.then]); refine bodyPost_ret (results_tmp2 rfl _ _ _) rfl ?_
          exact ⟨by rw [HR.out]; rfl, rfl⟩
end Go.Proofs.Ytgajinnbmnnccaa
namespace Gim
open Go
/-- the value of a character's first k bytes, of n -/
def valS (xs : List Int) (n : Nat) : Nat → Int
  | 0 => (bn xs 0 : Int)
  | 1 => (bn xs 0 : Int) - (if n = 2 then 192 else if n = 3 then 224 else 240)
  | k + 1 => 64 * valS xs n k + (bn xs k : Int) - 128
/-- what value answers -/
def valB (xs : List Int) : Int := if xs.length = 1 then (bn xs 0 : Int) else valS xs xs.length xs.length
end Gim
namespace Go.Proofs.Ytgajinnbmnnccaa
open Go.RowKit Gim
set_option maxRecDepth 100000 in
set_option maxHeartbeats 2000000 in
theorem value_calls (w : World) (ao : Option Addr) (n cap : Nat) (xs : List Int) (h : Rb w ao n cap xs) (h1 : 1 ≤ n) (h4 : n ≤ 4) :
    Calls Try.prog 51 #[.slice ao n cap] w fun e w' => e = .returned (.int .i64 (valB xs)) ∧ w' = w := by
  have hl := h.rd.len
  obtain ⟨b, o, rfl, hbz, hcell⟩ := h.at_ (by omega)
  have hx0 := (hcell 0 (by omega)).1
  have hcp := (hcell 0 (by omega)).2 w (Below.refl _ _)
  have HC := Lib.hid (fun j hj => And.intro (hcell j hj).1 ((hcell j hj).2 w (Below.refl _ _)))
  have HV := Lib.hid (show valB xs = if n = 1 then (bn xs 0 : Int) else valS xs n n by unfold valB; rw [hl])
  have HS1 := Lib.hid (show valS xs n 1 = (bn xs 0 : Int) - (if n = 2 then 192 else if n = 3 then 224 else 240) from rfl)
  clear hcell hl
  obtain ⟨x, hx⟩ : ∃ x, x = bn xs 0 := ⟨_, rfl⟩
  rw [← hx] at hx0 hcp HV HS1
  rw [Nat.add_zero] at hcp
  clear hx
  by_cases hn1 : n = 1
  · subst hn1
    have HE := Lib.hid (HV.out.trans (if_pos rfl))
    clear HV HS1
    go_enter Try.func51, Try.ntmps51
    go_wp2
    go_ret
    exact ⟨by rw [HE.out]; rfl, rfl⟩
  · have HE := Lib.hid (HV.out.trans (if_neg hn1))
    clear HV
    obtain ⟨z, hz⟩ : ∃ z : Int, z = (if n = 2 then 192 else if n = 3 then 224 else 240) := ⟨_, rfl⟩
    rw [← hz] at HS1
    have HZ := Lib.hid hz
    have hzr : 192 ≤ z ∧ z ≤ 240 := by rw [hz]; repeat' split; all_goals omega
    clear hz
    go_enter Try.func51, Try.ntmps51
    have hstep : ∀ k, 1 ≤ k → valS xs n (k + 1) = 64 * valS xs n k + (bn xs k : Int) - 128 := fun k hk => by
      obtain ⟨k, rfl⟩ : ∃ k', k = k' + 1 := ⟨k - 1, by omega⟩
      rfl
    have HST := Lib.hid hstep
    clear hstep
    rcases (show n = 2 ∨ n = 3 ∨ n = 4 by omega) with rfl | rfl | rfl
    · obtain rfl : z = 192 := HZ.out
      clear HZ hzr
      go_wp2
      go_loopw [4, 5] (fun v u wr => ∃ (k : Nat) (r : Int), u = .int .i64 k ∧ v = .int .i64 r ∧ 1 ≤ k ∧ k ≤ 2 ∧ wr = w ∧ Hid (valS xs 2 k = r) ∧ (k = 1 → -300 ≤ r ∧ r ≤ 300) ∧ (k = 2 → -20000 ≤ r ∧ r ≤ 20000) ∧ (k = 3 → -1300000 ≤ r ∧ r ≤ 1300000) ∧ (k = 4 → -90000000 ≤ r ∧ r ≤ 90000000)) (fun _ u _ => 2 - (RowKit.intOf u).toNat)
      case atStart => exact ⟨1, _, rfl, rfl, by omega, by omega, rfl, Lib.hid HS1.out, by omega, by omega, by omega, by omega⟩
      case round =>
        obtain ⟨k, r, rfl, rfl, hk1, hkn, rfl, HR, e1, e2, e3, e4⟩ := hrel
        by_cases hk : k < 2
        · have hcy := HC.out k hk
          have HR2 := Lib.hid ((HST.out k hk1).trans (by rw [HR.out]) : valS xs 2 (k + 1) = 64 * r + (bn xs k : Int) - 128)
          obtain ⟨y, hy⟩ : ∃ y, y = bn xs k := ⟨_, rfl⟩
          rw [← hy] at hcy HR2
          obtain ⟨hy0, hcy⟩ := hcy
          clear hy HR
          have hb : -90000000 ≤ 64 * r + y - 128 ∧ 64 * r + y - 128 ≤ 90000000 := by omega
          have hb2 : -90000000 ≤ 64 * r ∧ 64 * r ≤ 90000000 := by omega
          have hb3 : -90000000 ≤ 64 * r + y ∧ 64 * r + y ≤ 90000000 := by omega
          have hb5 : (k + 1 = 2 → -20000 ≤ 64 * r + y - 128 ∧ 64 * r + y - 128 ≤ 20000) ∧ (k + 1 = 3 → -1300000 ≤ 64 * r + y - 128 ∧ 64 * r + y - 128 ≤ 1300000) := by omega
          go_wp2
          go_roundw
          case rel => exact ⟨k + 1, _, by go_num, rfl, by omega, by omega, trivial, HR2, by omega, by omega, by omega, by omega⟩
          case measure => simp [RowKit.intOf]; omega
        · obtain rfl : k = 2 := by omega
          go_wp2
          go_ret
          exact ⟨by rw [HE.out, HR.out]; rfl, rfl⟩
    · obtain rfl : z = 224 := HZ.out
      clear HZ hzr
      go_wp2
      go_loopw [4, 5] (fun v u wr => ∃ (k : Nat) (r : Int), u = .int .i64 k ∧ v = .int .i64 r ∧ 1 ≤ k ∧ k ≤ 3 ∧ wr = w ∧ Hid (valS xs 3 k = r) ∧ (k = 1 → -300 ≤ r ∧ r ≤ 300) ∧ (k = 2 → -20000 ≤ r ∧ r ≤ 20000) ∧ (k = 3 → -1300000 ≤ r ∧ r ≤ 1300000) ∧ (k = 4 → -90000000 ≤ r ∧ r ≤ 90000000)) (fun _ u _ => 3 - (RowKit.intOf u).toNat)
      case atStart => exact ⟨1, _, rfl, rfl, by omega, by omega, rfl, Lib.hid HS1.out, by omega, by omega, by omega, by omega⟩
      case round =>
        obtain ⟨k, r, rfl, rfl, hk1, hkn, rfl, HR, e1, e2, e3, e4⟩ := hrel
        by_cases hk : k < 3
        · have hcy := HC.out k hk
          have HR2 := Lib.hid ((HST.out k hk1).trans (by rw [HR.out]) : valS xs 3 (k + 1) = 64 * r + (bn xs k : Int) - 128)
          obtain ⟨y, hy⟩ : ∃ y, y = bn xs k := ⟨_, rfl⟩
          rw [← hy] at hcy HR2
          obtain ⟨hy0, hcy⟩ := hcy
          clear hy HR
          have hb : -90000000 ≤ 64 * r + y - 128 ∧ 64 * r + y - 128 ≤ 90000000 := by omega
          have hb2 : -90000000 ≤ 64 * r ∧ 64 * r ≤ 90000000 := by omega
          have hb3 : -90000000 ≤ 64 * r + y ∧ 64 * r + y ≤ 90000000 := by omega
          have hb5 : (k + 1 = 2 → -20000 ≤ 64 * r + y - 128 ∧ 64 * r + y - 128 ≤ 20000) ∧ (k + 1 = 3 → -1300000 ≤ 64 * r + y - 128 ∧ 64 * r + y - 128 ≤ 1300000) := by omega
          go_wp2
          go_roundw
          case rel => exact ⟨k + 1, _, by go_num, rfl, by omega, by omega, trivial, HR2, by omega, by omega, by omega, by omega⟩
          case measure => simp [RowKit.intOf]; omega
        · obtain rfl : k = 3 := by omega
          go_wp2
          go_ret
          exact ⟨by rw [HE.out, HR.out]; rfl, rfl⟩
    · obtain rfl : z = 240 := HZ.out
      clear HZ hzr
      go_wp2
      go_loopw [4, 5] (fun v u wr => ∃ (k : Nat) (r : Int), u = .int .i64 k ∧ v = .int .i64 r ∧ 1 ≤ k ∧ k ≤ 4 ∧ wr = w ∧ Hid (valS xs 4 k = r) ∧ (k = 1 → -300 ≤ r ∧ r ≤ 300) ∧ (k = 2 → -20000 ≤ r ∧ r ≤ 20000) ∧ (k = 3 → -1300000 ≤ r ∧ r ≤ 1300000) ∧ (k = 4 → -90000000 ≤ r ∧ r ≤ 90000000)) (fun _ u _ => 4 - (RowKit.intOf u).toNat)
      case atStart => exact ⟨1, _, rfl, rfl, by omega, by omega, rfl, Lib.hid HS1.out, by omega, by omega, by omega, by omega⟩
      case round =>
        obtain ⟨k, r, rfl, rfl, hk1, hkn, rfl, HR, e1, e2, e3, e4⟩ := hrel
        by_cases hk : k < 4
        · have hcy := HC.out k hk
          have HR2 := Lib.hid ((HST.out k hk1).trans (by rw [HR.out]) : valS xs 4 (k + 1) = 64 * r + (bn xs k : Int) - 128)
          obtain ⟨y, hy⟩ : ∃ y, y = bn xs k := ⟨_, rfl⟩
          rw [← hy] at hcy HR2
          obtain ⟨hy0, hcy⟩ := hcy
          clear hy HR
          have hb : -90000000 ≤ 64 * r + y - 128 ∧ 64 * r + y - 128 ≤ 90000000 := by omega
          have hb2 : -90000000 ≤ 64 * r ∧ 64 * r ≤ 90000000 := by omega
          have hb3 : -90000000 ≤ 64 * r + y ∧ 64 * r + y ≤ 90000000 := by omega
          have hb5 : (k + 1 = 2 → -20000 ≤ 64 * r + y - 128 ∧ 64 * r + y - 128 ≤ 20000) ∧ (k + 1 = 3 → -1300000 ≤ 64 * r + y - 128 ∧ 64 * r + y - 128 ≤ 1300000) := by omega
          go_wp2
          go_roundw
          case rel => exact ⟨k + 1, _, by go_num, rfl, by omega, by omega, trivial, HR2, by omega, by omega, by omega, by omega⟩
          case measure => simp [RowKit.intOf]; omega
        · obtain rfl : k = 4 := by omega
          go_wp2
          go_ret
          exact ⟨by rw [HE.out, HR.out]; rfl, rfl⟩
end Go.Proofs.Ytgajinnbmnnccaa
namespace Gim
open Go Go.Lib
theorem szR_zero {b : Nat} (hb : b < 256) (h : szR b = 0) : firstT b = 241 := by
  have hc : (128 ≤ b ∧ b < 194) ∨ 244 < b := by
    unfold szR at h
    repeat' split at h
    all_goals omega
  unfold firstT
  rcases hc with hc | hc
  · rw [if_neg (by omega), if_pos (by omega)]
  · rw [if_neg (by omega), if_neg (by omega), if_neg (by omega), if_neg (by omega), if_neg (by omega), if_neg (by omega), if_neg (by omega), if_neg (by omega), if_neg (by omega), if_neg (by omega)]
theorem szR_one {b : Nat} (h : szR b = 1) : firstT b = 240 ∧ b < 128 := by
  unfold szR at h
  by_cases hb : b < 128
  · exact ⟨by unfold firstT; rw [if_pos hb], hb⟩
  · rw [if_neg hb] at h
    repeat' split at h
    all_goals omega
theorem szR_more {b : Nat} (h : 2 ≤ szR b) : firstT b < 240 ∧ firstT b % 8 = szR b ∧ 128 ≤ accLo (firstT b / 16) ∧ accHi (firstT b / 16) ≤ 191 ∧ ∀ y, goesR b y = decide (accLo (firstT b / 16) ≤ y ∧ y ≤ accHi (firstT b / 16)) := by
  have hc : (194 ≤ b ∧ b < 224) ∨ b = 224 ∨ ((225 ≤ b ∧ b < 237) ∨ (238 ≤ b ∧ b < 240)) ∨ b = 237 ∨ b = 240 ∨ (241 ≤ b ∧ b < 244) ∨ b = 244 := by
    unfold szR at h
    repeat' split at h
    all_goals omega
  rcases hc with hc | hc | hc | hc | hc | hc | hc
  · have hs : szR b = 2 := by unfold szR; rw [if_neg (by omega), if_pos (by omega)]
    rw [firstT_C2 hc, hs]
    refine ⟨by omega, rfl, by decide, by decide, fun y => ?_⟩
    unfold goesR
    rw [if_neg (by omega), if_neg (by omega), if_neg (by omega), if_neg (by omega)]
    rfl
  · subst hc; rw [firstT_E0 rfl]; refine ⟨by omega, rfl, by decide, by decide, fun y => rfl⟩
  · have hs : szR b = 3 := by unfold szR; rw [if_neg (by omega), if_neg (by omega), if_pos (by omega)]
    rw [firstT_E1 hc, hs]
    refine ⟨by omega, rfl, by decide, by decide, fun y => ?_⟩
    unfold goesR
    rw [if_neg (by omega), if_neg (by omega), if_neg (by omega), if_neg (by omega)]
    rfl
  · subst hc; rw [firstT_ED rfl]; refine ⟨by omega, rfl, by decide, by decide, fun y => rfl⟩
  · subst hc; rw [firstT_F0 rfl]; refine ⟨by omega, rfl, by decide, by decide, fun y => rfl⟩
  · have hs : szR b = 4 := by unfold szR; rw [if_neg (by omega), if_neg (by omega), if_neg (by omega), if_pos (by omega)]
    rw [firstT_F1 hc, hs]
    refine ⟨by omega, rfl, by decide, by decide, fun y => ?_⟩
    unfold goesR
    rw [if_neg (by omega), if_neg (by omega), if_neg (by omega), if_neg (by omega)]
    rfl
  · subst hc; rw [firstT_F4 rfl]; refine ⟨by omega, rfl, by decide, by decide, fun y => rfl⟩
theorem szR_range {b n : Nat} (h : szR b = n) : (n = 2 → 194 ≤ b ∧ b ≤ 223) ∧ (n = 3 → 224 ≤ b ∧ b ≤ 239) ∧ (n = 4 → 240 ≤ b ∧ b ≤ 244) := by
  unfold szR at h
  repeat' split at h
  all_goals omega
theorem fit_one {t : List Int} (h : 2 ≤ szR (bn t 0)) : fitR t 0 1 = true ↔ (accLo (firstT (bn t 0) / 16) ≤ bn t 1 ∧ bn t 1 ≤ accHi (firstT (bn t 0) / 16)) := by
  obtain ⟨_, _, hlo, hhi, hg⟩ := szR_more h
  unfold fitR
  rw [Nat.zero_add, hg]
  simp only [decide_true, Bool.true_and, Bool.not_eq_true', Bool.or_eq_false_iff, decide_eq_false_iff_not, Bool.not_eq_false', decide_eq_true_eq]
  omega
theorem fit_more {t : List Int} {k : Nat} (h : 2 ≤ k) : fitR t 0 k = true ↔ (128 ≤ bn t k ∧ bn t k ≤ 191) := by
  unfold fitR
  rw [Nat.zero_add, decide_eq_false (show ¬ k = 1 by omega)]
  simp only [Bool.false_and, Bool.false_or, Bool.not_eq_true', Bool.or_eq_false_iff, decide_eq_false_iff_not]
  omega
theorem bn_take {t : List Int} {n j : Nat} (h : j < n) : bn (t.take n) j = bn t j := by
  unfold bn gt
  rw [List.getElem?_take_of_lt h]
/-- Go's answer and the document's, of bytes that are there -/
inductive Alike (t : List Int) : Prop
  | whole (n : Nat) (h : frontB t 0 = (n, n)) (h1 : 1 ≤ n) (h4 : n ≤ 4) (hl : n ≤ t.length) (hf : fullB t = true) (hd : (decB t).2 = n) (hv : ((decB t).1 : Int) = valB (t.take n)) (hok : ¬ ((decB t).1 = 65533 ∧ n ≤ 1))
  | waits (n : Nat) (h : frontB t 0 = (t.length, n)) (hl : t.length < n) (hf : fullB t = false) (hd : decB t = (65533, 1))
  | wrong (k n : Nat) (h : frontB t 0 = (k, n)) (hl : n = 0 ∧ k = 0 ∨ 1 ≤ k ∧ k < n ∧ k < t.length) (hf : fullB t = true) (hd : decB t = (65533, 1))
theorem alike {t : List Int} (hL : 1 ≤ t.length) (hb : ∀ j, bn t j < 256) : Alike t := by
  have hF : frontB t 0 = if szR (bn t 0) = 0 then (0, 0) else (frK t 0 (szR (bn t 0)) 1, szR (bn t 0)) := by rw [frontB, if_neg (by omega)]
  have hfull : fullB t = fullN t.length (bn t 0) (bn t 1) (bn t 2) := by rw [fullB, if_neg (by omega)]
  have hdec : decB t = decodeN t.length (bn t 0) (bn t 1) (bn t 2) (bn t 3) := by rw [decB, if_neg (by omega)]
  obtain ⟨n, hn⟩ : ∃ n, n = szR (bn t 0) := ⟨_, rfl⟩
  have hle := szR_le (bn t 0)
  rw [← hn] at hF hle
  have hrange := szR_range hn.symm
  by_cases n0 : n = 0
  · have hT := szR_zero (hb 0) (hn.symm.trans n0)
    rw [if_pos n0] at hF
    exact .wrong 0 0 hF (.inl ⟨rfl, rfl⟩) (by rw [hfull]; exact fullN_whole (by rw [hT]; omega)) (by rw [hdec, bad_eq _ _ _ _ _ (hb 0) hT])
  rw [if_neg n0] at hF
  by_cases n1 : n = 1
  · obtain ⟨hT, h128⟩ := szR_one (hn.symm.trans n1)
    have hd := hdec.trans (ascii_eq _ _ _ _ _ hT)
    rw [frK_end (by omega), n1] at hF
    refine .whole 1 hF (by omega) (by omega) hL (by rw [hfull]; exact fullN_whole (by rw [hT]; omega)) (by rw [hd]) ?_ (by rw [hd]; simp only []; omega)
    have hl1 : (t.take 1).length = 1 := by rw [List.length_take]; omega
    rw [hd, valB, if_pos hl1, bn_take (by omega)]
  have h2 : 2 ≤ szR (bn t 0) := by omega
  obtain ⟨hlow, h8, hlo, hhi, _⟩ := szR_more h2
  have hf1 := fit_one h2
  have hf2 := fit_more (t := t) (k := 2) (by omega)
  have hf3 := fit_more (t := t) (k := 3) (by omega)
  have hd := hdec.trans (slow_eq _ _ _ _ _ hL (hb 1) (hb 2) (hb 3) hlow).symm
  rw [h8, ← hn] at hd
  rw [← hn] at h8
  have hvs : ∀ m, 2 ≤ m → m ≤ t.length → valB (t.take m) = valS (t.take m) m m := fun m hm hml => by
    have : (t.take m).length = m := by rw [List.length_take]; omega
    rw [valB, this, if_neg (by omega)]
  have hb0 := hb 0
  by_cases c1 : 1 < t.length ∧ accLo (firstT (bn t 0) / 16) ≤ bn t 1 ∧ bn t 1 ≤ accHi (firstT (bn t 0) / 16)
  · rw [frK_next (by omega) (by omega) (hf1.2 c1.2)] at hF
    by_cases e2 : n = 2
    · rw [frK_end (by omega), e2] at hF
      have hd2 : decB t = (bn t 0 % 32 * 64 + bn t 1 % 64, 2) := by rw [hd, slowN, if_neg (by omega), if_neg (by omega), if_pos (by omega)]
      refine .whole 2 hF (by omega) (by omega) (by omega) (by rw [hfull]; exact fullN_whole (by omega)) (by rw [hd2]) ?_ (by omega)
      rw [hd2, hvs 2 (by omega) (by omega)]
      show _ = 64 * ((bn (t.take 2) 0 : Int) - 192) + (bn (t.take 2) 1 : Int) - 128
      rw [bn_take (by omega), bn_take (by omega)]
      simp only []
      omega
    by_cases c2 : 2 < t.length ∧ 128 ≤ bn t 2 ∧ bn t 2 ≤ 191
    · rw [frK_next (by omega) (by omega) (hf2.2 c2.2)] at hF
      by_cases e3 : n = 3
      · rw [frK_end (by omega), e3] at hF
        have hd2 : decB t = (bn t 0 % 16 * 4096 + bn t 1 % 64 * 64 + bn t 2 % 64, 3) := by rw [hd, slowN, if_neg (by omega), if_neg (by omega), if_neg (by omega), if_neg (by omega), if_pos (by omega)]
        refine .whole 3 hF (by omega) (by omega) (by omega) (by rw [hfull]; exact fullN_whole (by omega)) (by rw [hd2]) ?_ (by omega)
        rw [hd2, hvs 3 (by omega) (by omega)]
        show _ = 64 * (64 * ((bn (t.take 3) 0 : Int) - 224) + (bn (t.take 3) 1 : Int) - 128) + (bn (t.take 3) 2 : Int) - 128
        rw [bn_take (by omega), bn_take (by omega), bn_take (by omega)]
        simp only []
        omega
      have e4 : n = 4 := by omega
      by_cases c3 : 3 < t.length ∧ 128 ≤ bn t 3 ∧ bn t 3 ≤ 191
      · rw [frK_next (by omega) (by omega) (hf3.2 c3.2), frK_end (by omega), e4] at hF
        have hd2 : decB t = (bn t 0 % 8 * 262144 + bn t 1 % 64 * 4096 + bn t 2 % 64 * 64 + bn t 3 % 64, 4) := by rw [hd, slowN, if_neg (by omega), if_neg (by omega), if_neg (by omega), if_neg (by omega), if_neg (by omega), if_neg (by omega)]
        refine .whole 4 hF (by omega) (by omega) (by omega) (by rw [hfull]; exact fullN_whole (by omega)) (by rw [hd2]) ?_ (by omega)
        rw [hd2, hvs 4 (by omega) (by omega)]
        show _ = 64 * (64 * (64 * ((bn (t.take 4) 0 : Int) - 240) + (bn (t.take 4) 1 : Int) - 128) + (bn (t.take 4) 2 : Int) - 128) + (bn (t.take 4) 3 : Int) - 128
        rw [bn_take (by omega), bn_take (by omega), bn_take (by omega), bn_take (by omega)]
        simp only []
        omega
      · rw [frK_end (fun k => c3 ⟨by omega, hf3.1 k.2.2⟩)] at hF
        by_cases l3 : t.length = 3
        · exact .waits n (by rw [hF, l3]) (by omega) (by rw [hfull]; exact fullN_part (by omega) (fun _ => c1.2) (by omega)) (by rw [hd, slowN, if_pos (by omega)])
        · exact .wrong 3 n hF (.inr (by omega)) (by rw [hfull]; exact fullN_whole (by omega)) (by rw [hd, slowN, if_neg (by omega), if_neg (by omega), if_neg (by omega), if_neg (by omega), if_neg (by omega), if_pos (by omega)])
    · rw [frK_end (fun k => c2 ⟨by omega, hf2.1 k.2.2⟩)] at hF
      by_cases l2 : t.length = 2
      · exact .waits n (by rw [hF, l2]) (by omega) (by rw [hfull]; exact fullN_part (by omega) (fun _ => c1.2) (by omega)) (by rw [hd, slowN, if_pos (by omega)])
      · refine .wrong 2 n hF (.inr (by omega)) ?_ ?_
        · rw [hfull]; unfold fullN
          by_cases k : firstT (bn t 0) % 8 ≤ t.length
          · rw [if_pos k]
          · rw [if_neg k, if_neg (by omega), if_pos (by omega)]
        · rw [hd, slowN]
          by_cases k : t.length < n
          · rw [if_pos k]
          · rw [if_neg k, if_neg (by omega), if_neg (by omega), if_pos (by omega)]
  · rw [frK_end (fun k => c1 ⟨by omega, hf1.1 k.2.2⟩)] at hF
    by_cases l1 : t.length = 1
    · exact .waits n (by rw [hF, l1]) (by omega) (by rw [hfull]; exact fullN_part (by omega) (by omega) (by omega)) (by rw [hd, slowN, if_pos (by omega)])
    · refine .wrong 1 n hF (.inr (by omega)) ?_ ?_
      · rw [hfull]; unfold fullN
        by_cases k : firstT (bn t 0) % 8 ≤ t.length
        · rw [if_pos k]
        · rw [if_neg k, if_pos (by omega)]
      · rw [hd, slowN]
        by_cases k : t.length < n
        · rw [if_pos k]
        · rw [if_neg k, if_pos (by omega)]
end Gim
namespace Gim
open Go Go.Lib Go.RowKit
theorem frontB_snd {xs : List Int} {k m : Nat} (h : frontB xs 0 = (k, m)) (hm : m ≠ 0) : szR (bn xs 0) = m := by
  unfold frontB at h
  repeat' split at h
  all_goals
    simp only [Prod.mk.injEq] at h
    omega
/-- the second step may change new blocks too -/
theorem Fr.then {p q : Nat → Prop} {a b c : World} (h : Fr p a b) (k : Fr q b c) (hq : ∀ j, j < a.heap.size → q j → p j) : Fr p a c :=
  ⟨k.os.trans h.os, k.tape.trans h.tape, k.output.trans h.output, Nat.le_trans h.size k.size, fun j hj hp => (k.block j (Nat.lt_of_lt_of_le hj h.size) (fun hj2 => hp (hq j hj hj2))).trans (h.block j hj hp)⟩
theorem Fr.grown {p : Nat → Prop} {a b c : World} {o : Option Nat} (h : Fr p a b) (k : b.grownBy c o) (ho : ∀ g, o = some g → p g ∨ a.heap.size ≤ g) : Fr p a c :=
  ⟨k.os.trans h.os, k.tape.trans h.tape, k.output.trans h.output, Nat.le_trans h.size k.size, fun j hj hp => (k.block j (Nat.lt_of_lt_of_le hj h.size) (fun e => by
    rcases ho j e.symm with h1 | h1
    · exact hp h1
    · omega)).trans (h.block j hj hp)⟩
theorem Fr.alloc {p : Nat → Prop} {a b : World} (h : Fr p a b) (o : Obj) : Fr p a (b.alloc o) := h.trans (.of ((Below.refl _ _).alloc (Nat.le_refl _) o))
end Gim
namespace Gim
open Go
theorem Went.grown {w W1 : World} {k : Nat} {s : ByteArray} {p : Nat} (h : Went w k s p W1) : w.grownBy W1 (some k) := by
  have hb := h.below k w (RowKit.Below.refl _ _) (Nat.le_refl _)
  exact ⟨hb.os, hb.tape, hb.output, hb.size, fun j _ hne => h.other j (fun e => hne (by rw [e]))⟩
end Gim
namespace Gim
open Go Go.RowKit
/-- what At's variables hold: the slice, the answer's room, the place so far -/
structure AtI (B : Nat) (sl : Value) (m u v z : Int) (W : World) : Prop where
  c0 : W.cell? ⟨B, 0, none⟩ = some sl
  c10 : W.cell? ⟨B + 1, 0, none⟩ = some (.int .i64 0)
  c11 : W.cell? ⟨B + 1, 1, none⟩ = some (.int .i64 0)
  c12 : W.cell? ⟨B + 1, 2, none⟩ = some (.int .i64 0)
  c13 : W.cell? ⟨B + 1, 3, none⟩ = some (.int .i64 0)
  f10 : W.frozen? ⟨B + 1, 0, none⟩ = false
  f11 : W.frozen? ⟨B + 1, 1, none⟩ = false
  f12 : W.frozen? ⟨B + 1, 2, none⟩ = false
  f13 : W.frozen? ⟨B + 1, 3, none⟩ = false
  c20 : W.cell? ⟨B + 1 + 1, 0, none⟩ = some (.int .i64 m)
  c21 : W.cell? ⟨B + 1 + 1, 1, none⟩ = some (.int .i64 u)
  c22 : W.cell? ⟨B + 1 + 1, 2, none⟩ = some (.int .i64 v)
  c23 : W.cell? ⟨B + 1 + 1, 3, none⟩ = some (.int .i64 z)
  f21 : W.frozen? ⟨B + 1 + 1, 1, none⟩ = false
  f22 : W.frozen? ⟨B + 1 + 1, 2, none⟩ = false
  f23 : W.frozen? ⟨B + 1 + 1, 3, none⟩ = false
end Gim
namespace Gim
open Go Go.Lib
theorem bn_drop (xs : List Int) (p j : Nat) : bn (xs.drop p) j = bn xs (p + j) := by
  unfold bn gt
  rw [List.getElem?_drop]
theorem fitR_drop (xs : List Int) (p j : Nat) : fitR (xs.drop p) 0 j = fitR xs p j := by
  unfold fitR
  rw [bn_drop, bn_drop, Nat.zero_add, Nat.add_zero]
theorem frF_drop (xs : List Int) (p n : Nat) (hp : p ≤ xs.length) : ∀ f k, frF (xs.drop p) 0 n f k = frF xs p n f k
  | 0, _ => rfl
  | f + 1, k => by
    rw [frF, frF, fitR_drop, frF_drop xs p n hp f (k + 1), List.length_drop, Nat.zero_add]
    by_cases h : k < n ∧ p + k < xs.length ∧ fitR xs p k = true
    · rw [if_pos h, if_pos ⟨h.1, by omega, h.2.2⟩]
    · rw [if_neg h, if_neg (fun k => h ⟨k.1, by omega, k.2.2⟩)]
theorem frontB_drop {xs : List Int} {p : Nat} (h : p ≤ xs.length) : frontB (xs.drop p) 0 = frontB xs p := by
  unfold frontB
  rw [List.length_drop, bn_drop, Nat.add_zero]
  by_cases hp : xs.length ≤ p
  · rw [if_pos hp, if_pos (by omega)]
  · rw [if_neg hp, if_neg (by omega)]
    unfold frK
    rw [frF_drop xs p _ h]
/-- where a beginning ends -/
structure Stops (t : List Int) (n k : Nat) : Prop where
  lo : 1 ≤ k
  hi : k ≤ n
  fit : ∀ j, 1 ≤ j → j < k → j < t.length ∧ fitR t 0 j = true
  stop : ¬ (k < n ∧ k < t.length ∧ fitR t 0 k = true)
theorem frF_stops (t : List Int) (n : Nat) : ∀ f k, 1 ≤ k → k ≤ n → n ≤ k + f → (∀ j, 1 ≤ j → j < k → j < t.length ∧ fitR t 0 j = true) → Stops t n (frF t 0 n f k)
  | 0, k, h1, h2, h3, hf => show Stops t n k from ⟨h1, h2, hf, by omega⟩
  | f + 1, k, h1, h2, h3, hf => by
    rw [frF]
    by_cases h : k < n ∧ 0 + k < t.length ∧ fitR t 0 k = true
    · rw [if_pos h]
      refine frF_stops t n f (k + 1) (by omega) (by omega) (by omega) (fun j hj1 hj2 => ?_)
      by_cases hjk : j = k
      · rw [hjk]; exact ⟨by omega, h.2.2⟩
      · exact hf j hj1 (by omega)
    · rw [if_neg h]
      exact ⟨h1, h2, hf, fun k => h ⟨k.1, by omega, k.2.2⟩⟩
theorem frK_stops {t : List Int} {n : Nat} (h : 1 ≤ n) : Stops t n (frK t 0 n 1) := frF_stops t n _ 1 (by omega) h (by omega) (by omega)
theorem Stops.eq {t : List Int} {n k r : Nat} (h : Stops t n k) (g : Stops t n r) : k = r := by
  rcases Nat.lt_trichotomy k r with hl | hl | hl
  · have := g.fit k h.lo hl
    exact absurd ⟨by have := g.hi; omega, this.1, this.2⟩ h.stop
  · exact hl
  · have := h.fit r g.lo hl
    exact absurd ⟨by have := h.hi; omega, this.1, this.2⟩ g.stop
theorem fitR_take {t : List Int} {m j : Nat} (h0 : 0 < m) (h : j < m) : fitR (t.take m) 0 j = fitR t 0 j := by
  unfold fitR
  rw [Nat.zero_add, bn_take h, bn_take h0]
theorem frontB_zero {t : List Int} {k : Nat} (h : frontB t 0 = (k, 0)) : k = 0 := by
  unfold frontB at h
  repeat' split at h
  all_goals
    simp only [Prod.mk.injEq] at h
    omega
theorem frontB_some {t : List Int} {k n : Nat} (h : frontB t 0 = (k, n)) (hn : n ≠ 0) : szR (bn t 0) = n ∧ 1 ≤ t.length ∧ Stops t n k := by
  have hz := frontB_snd h hn
  by_cases hl : t.length ≤ 0
  · rw [frontB, if_pos hl] at h
    simp only [Prod.mk.injEq] at h
    omega
  · rw [frontB, if_neg hl, if_neg (by omega), hz] at h
    simp only [Prod.mk.injEq] at h
    exact ⟨hz, by omega, h.1 ▸ frK_stops (by omega)⟩
theorem frontB_of {t : List Int} {k n : Nat} (hl : 1 ≤ t.length) (hz : szR (bn t 0) = n) (hn : n ≠ 0) (hs : Stops t n k) : frontB t 0 = (k, n) := by
  rw [frontB, if_neg (by omega), hz, if_neg hn, (frK_stops (by omega)).eq hs]
theorem frontB_take {t : List Int} {k n m : Nat} (h : frontB t 0 = (k, n)) (hm : 1 ≤ m) (hl : m ≤ t.length) : frontB (t.take m) 0 = (min k m, n) := by
  have hlen : (t.take m).length = m := by rw [List.length_take]; omega
  by_cases hn : n = 0
  · subst hn
    obtain rfl := frontB_zero h
    have hz : szR (bn t 0) = 0 := by
      by_cases h0 : szR (bn t 0) = 0
      · exact h0
      · rw [frontB, if_neg (by omega), if_neg h0] at h
        simp only [Prod.mk.injEq] at h
        omega
    rw [frontB, if_neg (by omega), bn_take (by omega), if_pos hz, Nat.zero_min]
  · obtain ⟨hz, _, hs⟩ := frontB_some h hn
    refine frontB_of (by omega) (by rw [bn_take (by omega)]; exact hz) hn ⟨by have := hs.lo; omega, by have := hs.hi; omega, fun j h1 h2 => ?_, fun hh => ?_⟩
    · rw [hlen, fitR_take (by omega) (by omega)]
      exact ⟨by omega, (hs.fit j h1 (by omega)).2⟩
    · rw [hlen] at hh
      have hk : min k m = k := by omega
      rw [hk] at hh
      rw [fitR_take (by omega) (by omega)] at hh
      exact hs.stop ⟨hh.1, by omega, hh.2.2⟩
theorem runF_eq {xs : List Int} {p k : Nat} : ∀ f n, n ≤ k → xs.length ≤ p + n + f → (∀ j, n ≤ j → j < k → p + j < xs.length ∧ beginsB ((xs.drop p).take (j + 1)) = true) → ¬ (p + k < xs.length ∧ beginsB ((xs.drop p).take (k + 1)) = true) → runF xs p f n = k
  | 0, n, h1, h2, h3, _ => by
    rw [runF]
    by_cases hk : n = k
    · exact hk
    · have := (h3 n (Nat.le_refl _) (by omega)).1
      omega
  | f + 1, n, h1, h2, h3, h4 => by
    by_cases hk : n = k
    · subst hk; exact runF_end _ h4
    · rw [runF, if_pos (h3 n (Nat.le_refl _) (by omega))]
      exact runF_eq f (n + 1) (by omega) (by omega) (fun j hj1 hj2 => h3 j (by omega) hj2) h4
theorem bn_lt {xs : List Int} (h : ∀ x ∈ xs, 0 ≤ x ∧ x ≤ 255) (j : Nat) : bn xs j < 256 := by
  unfold bn gt
  cases hj : xs[j]? with
  | none => simp
  | some x =>
    have := h x (List.mem_of_getElem? hj)
    simp only [Option.getD_some]
    omega
/-- the longest piece that can go on is what Front finds -/
theorem piece_front {xs : List Int} {p k n : Nat} (hb : ∀ x ∈ xs, 0 ≤ x ∧ x ≤ 255) (hp : p < xs.length) (h : frontB xs p = (k, n)) (hno : k ≠ n ∨ n = 0) : pieceN xs p = k := by
  rw [← frontB_drop (by omega)] at h
  obtain ⟨t, ht⟩ : ∃ t, t = xs.drop p := ⟨_, rfl⟩
  have htl : t.length = xs.length - p := by rw [ht, List.length_drop]
  have htb : ∀ x ∈ t, 0 ≤ x ∧ x ≤ 255 := fun x hx => hb x (List.mem_of_mem_drop (ht ▸ hx))
  rw [← ht] at h
  unfold pieceN
  have hal : ∀ m, 1 ≤ m → m ≤ t.length → Alike (t.take m) ∧ frontB (t.take m) 0 = (min k m, n) ∧ (t.take m).length = m := fun m h1 h2 =>
    ⟨alike (by rw [List.length_take]; omega) (bn_lt (fun x hx => htb x (List.mem_of_mem_take hx))), frontB_take h h1 h2, by rw [List.length_take]; omega⟩
  have hk : k < n ∨ n = 0 ∧ k = 0 := by
    by_cases hn : n = 0
    · subst hn; exact .inr ⟨rfl, frontB_zero h⟩
    · have := (frontB_some h hn).2.2.hi
      omega
  have hkl : k ≤ t.length := by
    by_cases hn : n = 0
    · omega
    · have hs := (frontB_some h hn).2.2
      have := hs.lo
      by_cases h1 : k = 1
      · omega
      · have := (hs.fit (k - 1) (by omega) (by omega)).1
        omega
  refine runF_eq _ 0 (by omega) (by omega) (fun j _ hj => ⟨by omega, ?_⟩) (fun hh => ?_)
  · rw [← ht]
    obtain ⟨ha, hf, hl⟩ := hal (j + 1) (by omega) (by omega)
    rcases ha with ⟨m, hF, h1, _, _, _, _, _, _⟩ | ⟨m, hF, hlt, hfu, _⟩ | ⟨k', m, hF, hk', hfu, hd⟩
    · rw [hf] at hF; simp only [Prod.mk.injEq] at hF; omega
    · unfold beginsB; rw [hfu]; rfl
    · rw [hf] at hF; simp only [Prod.mk.injEq] at hF; omega
  · rw [← ht] at hh
    obtain ⟨ha, hf, hl⟩ := hal (k + 1) (by omega) (by omega)
    rcases ha with ⟨m, hF, h1, _, _, _, _, _, _⟩ | ⟨m, hF, hlt, hfu, _⟩ | ⟨k', m, hF, hk', hfu, hd⟩
    · rw [hf] at hF; simp only [Prod.mk.injEq] at hF; omega
    · rw [hf] at hF; simp only [Prod.mk.injEq] at hF; omega
    · have := hh.2
      unfold beginsB validB at this
      rw [hfu, hd] at this
      simp at this
theorem decB_shape (t : List Int) (h : 1 ≤ t.length) (hb : ∀ j, bn t j < 256) : Ch ((decB t).1 : Int) ∧ ((decB t).1 < 128 → (decB t).2 = 1) ∧ 1 ≤ (decB t).2 ∧ (decB t).2 ≤ 4 := by
  have h0 := hb 0
  rw [decB, if_neg (by omega)]
  unfold Ch
  rcases decodeN_shape t.length (bn t 0) (bn t 1) (bn t 2) (bn t 3) with ⟨c, e⟩ | ⟨c1, c2, c3, cv, e⟩ | ⟨c1, c2, c3, c4, cv, cs, e⟩ | ⟨c1, c2, c3, c4, c5, cv, cw, e⟩ | e
  all_goals
    rw [e]
    dsimp only
    exact ⟨by omega, fun _ => by omega, by omega, by omega⟩
/-- what lies at a place of bytes -/
inductive Step (xs : List Int) (p : Nat) : Prop
  | whole (m : Nat) (hF : frontB xs p = (m, m)) (h1 : 1 ≤ m) (h4 : m ≤ 4) (hl : p + m ≤ xs.length) (hf : fullB (xs.drop p) = true) (hv : validB (xs.drop p) = true) (hd : (decB (xs.drop p)).2 = m) (hV : ((decB (xs.drop p)).1 : Int) = valB ((xs.drop p).take m)) (hok : ¬ ((decB (xs.drop p)).1 = 65533 ∧ m ≤ 1))
  | waits (k n : Nat) (hF : frontB xs p = (k, n)) (hk : p + k = xs.length) (hkn : k < n) (hf : fullB (xs.drop p) = false) (hd : decB (xs.drop p) = (65533, 1)) (hp : pieceN xs p = k)
  | wrong (k n : Nat) (hF : frontB xs p = (k, n)) (hk : p + k < xs.length) (hkn : n = 0 ∧ k = 0 ∨ 1 ≤ k ∧ k < n) (hf : fullB (xs.drop p) = true) (hv : validB (xs.drop p) = false) (hd : decB (xs.drop p) = (65533, 1)) (hp : pieceN xs p = k)
theorem step {xs : List Int} {p : Nat} (hb : ∀ x ∈ xs, 0 ≤ x ∧ x ≤ 255) (hp : p < xs.length) : Step xs p := by
  have hbd : ∀ x ∈ xs.drop p, 0 ≤ x ∧ x ≤ 255 := fun x hx => hb x (List.mem_of_mem_drop hx)
  have hl : (xs.drop p).length = xs.length - p := List.length_drop
  have hfr := frontB_drop (xs := xs) (p := p) (by omega)
  rcases alike (by omega) (bn_lt hbd) with ⟨n, hF, h1, h4, hle, hf, hd, hv, hok⟩ | ⟨n, hF, hlt, hf, hd⟩ | ⟨k, n, hF, hk, hf, hd⟩
  · exact .whole n (hfr ▸ hF) h1 h4 (by omega) hf (by unfold validB; rw [hd, decide_eq_false hok]; rfl) hd hv hok
  · rw [hfr] at hF
    exact .waits _ n hF (by omega) hlt hf hd (piece_front hb hp hF (.inl (by omega)))
  · rw [hfr] at hF
    refine .wrong k n hF (by omega) (by omega) hf (by unfold validB; rw [hd]; rfl) hd (piece_front hb hp hF (by omega))
/-- the characters: place, character, width -/
def chF (xs : List Int) : Nat → Nat → List (Int × Int × Int)
  | 0, _ => []
  | f + 1, p => if p < xs.length then ((p : Int), ((decB (xs.drop p)).1 : Int), ((decB (xs.drop p)).2 : Int)) :: chF xs f (p + (decB (xs.drop p)).2) else []
def chAt (xs : List Int) (p : Nat) : List (Int × Int × Int) := chF xs (xs.length - p) p
def chB (xs : List Int) : List (Int × Int × Int) := chAt xs 0
theorem chF_end {xs : List Int} {p : Nat} : ∀ f, ¬ p < xs.length → chF xs f p = []
  | 0, _ => rfl
  | f + 1, h => by rw [chF, if_neg h]
theorem chF_fuel {xs : List Int} : ∀ (f g p : Nat), xs.length ≤ p + f → xs.length ≤ p + g → chF xs f p = chF xs g p
  | 0, g, p, h, _ => by rw [chF_end g (by omega)]; rfl
  | f + 1, g, p, h, h2 => by
    by_cases hc : p < xs.length
    · obtain ⟨g, rfl⟩ : ∃ g', g = g' + 1 := ⟨g - 1, by omega⟩
      have hw := decB_width (xs := xs.drop p) (by rw [List.length_drop]; omega)
      rw [chF, chF, if_pos hc, if_pos hc, chF_fuel f g _ (by omega) (by omega)]
    · rw [chF_end _ hc, chF_end _ hc]
theorem chAt_next {xs : List Int} {p : Nat} (h : p < xs.length) : chAt xs p = ((p : Int), ((decB (xs.drop p)).1 : Int), ((decB (xs.drop p)).2 : Int)) :: chAt xs (p + (decB (xs.drop p)).2) := by
  unfold chAt
  have hw := decB_width (xs := xs.drop p) (by rw [List.length_drop]; omega)
  obtain ⟨f, hf⟩ : ∃ f, xs.length - p = f + 1 := ⟨xs.length - p - 1, by omega⟩
  rw [hf, chF, if_pos h, chF_fuel f (xs.length - (p + (decB (xs.drop p)).2)) _ (by omega) (by omega)]
theorem chAt_end {xs : List Int} {p : Nat} (h : ¬ p < xs.length) : chAt xs p = [] := chF_end _ h
theorem chF_length {xs : List Int} : ∀ (f p : Nat), (chF xs f p).length ≤ f
  | 0, _ => Nat.le_refl _
  | f + 1, p => by
    rw [chF]
    split
    · have := chF_length (xs := xs) f (p + (decB (xs.drop p)).2)
      simp only [List.length_cons]
      omega
    · simp
theorem chB_length (xs : List Int) : (chB xs).length ≤ xs.length := chF_length _ _
/-- bytes as Lean's -/
def unb (xs : List Int) : List UInt8 := xs.map fun n => UInt8.ofNat n.toNat
theorem bz_unb {xs : List Int} (h : ∀ x ∈ xs, 0 ≤ x ∧ x ≤ 255) : bz (unb xs) = xs := by
  unfold bz unb
  rw [List.map_map]
  conv => rhs; rw [← List.map_id xs]
  refine List.map_congr_left fun x hx => ?_
  have := h x hx
  simp only [Function.comp, id, UInt8.toNat_ofNat', Nat.reducePow]
  omega
theorem dec_str {xs : List Int} (h : ∀ x ∈ xs, 0 ≤ x ∧ x ≤ 255) {p : Nat} (hp : p < xs.length) : Utf8.decode (strOfNums xs) p = decB (xs.drop p) := by
  rw [← decodeL_drop, show (strOfNums xs).data.toList = unb xs from rfl, show (unb xs).drop p = unb (xs.drop p) from List.map_drop.symm]
  rw [← decB_bz (l := unb (xs.drop p)) (by unfold unb; simp; omega), bz_unb (fun x hx => h x (List.mem_of_mem_drop hx))]
theorem rsAt_ch {xs : List Int} (h : ∀ x ∈ xs, 0 ≤ x ∧ x ≤ 255) : ∀ (f p : Nat), xs.length ≤ p + f → rsAt (strOfNums xs) p = (chAt xs p).map fun c => c.2.1
  | 0, p, hf => by rw [rsAt_end (by rw [strOfNums_size]; omega), chAt_end (by omega)]; rfl
  | f + 1, p, hf => by
    by_cases hp : p < xs.length
    · have hw := decB_width (xs := xs.drop p) (by rw [List.length_drop]; omega)
      rw [rsAt_next (by rw [strOfNums_size]; exact hp), chAt_next hp, dec_str h hp, rsAt_ch h f _ (by omega)]
      rfl
    · rw [rsAt_end (by rw [strOfNums_size]; omega), chAt_end (by omega)]; rfl
theorem str_bz (s : ByteArray) : strOfNums (bz s.data.toList) = s := Lz.strOfNums_map _
theorem bz_by (l : List UInt8) : ∀ x ∈ bz l, 0 ≤ x ∧ x ≤ 255 := fun _ h => bz_byte h
theorem rs_ch_eq (s : ByteArray) : rs s = (chB (bz s.data.toList)).map fun c => c.2.1 := by
  have := rsAt_ch (bz_by s.data.toList) (bz s.data.toList).length 0 (by omega)
  rw [str_bz] at this
  exact this
/-- bounds of the characters of bytes -/
structure ChI (n : Nat) (c : Int × Int × Int) : Prop where
  at0 : 0 ≤ c.1
  ch : Ch c.2.1
  w1 : 1 ≤ c.2.2
  w4 : c.2.2 ≤ 4
  hi : c.1 + c.2.2 ≤ n
  one : c.2.1 < 128 → c.2.2 = 1
theorem chAt_inv {xs : List Int} (h : ∀ x ∈ xs, 0 ≤ x ∧ x ≤ 255) : ∀ (f p : Nat), xs.length ≤ p + f → ∀ c ∈ chAt xs p, ChI xs.length c
  | 0, p, hf, c, hc => by rw [chAt_end (by omega)] at hc; cases hc
  | f + 1, p, hf, c, hc => by
    by_cases hp : p < xs.length
    · rw [chAt_next hp] at hc
      have hl : (xs.drop p).length = xs.length - p := List.length_drop
      have hs := decB_shape (xs.drop p) (by omega) (bn_lt (fun x hx => h x (List.mem_of_mem_drop hx)))
      have hle := decB_le (xs := xs.drop p) (by omega)
      rcases List.mem_cons.1 hc with rfl | hc
      · exact ⟨by simp, hs.1, by simp only []; omega, by simp only []; omega, by simp only []; omega, fun k => by have := hs.2.1; simp only [] at k ⊢; omega⟩
      · exact chAt_inv h f _ (by omega) c hc
    · rw [chAt_end hp] at hc; cases hc
theorem chB_inv {xs : List Int} (h : ∀ x ∈ xs, 0 ≤ x ∧ x ≤ 255) : ∀ c ∈ chB xs, ChI xs.length c := chAt_inv h xs.length 0 (by omega)
end Gim
namespace Gim
open Go Go.RowKit
/-- characters in memory: place, character, width -/
def cells3 (cs : List (Int × Int × Int)) : List Value := cs.flatMap fun c => [.int .i64 c.1, .int .i64 c.2.1, .int .i64 c.2.2]
theorem cells3_get : ∀ {cs : List (Int × Int × Int)} {i : Nat} {c : Int × Int × Int}, cs[i]? = some c → (cells3 cs)[3 * i]? = some (.int .i64 c.1) ∧ (cells3 cs)[3 * i + 1]? = some (.int .i64 c.2.1) ∧ (cells3 cs)[3 * i + 2]? = some (.int .i64 c.2.2)
  | [], i, c, h => by simp at h
  | d :: cs, 0, c, h => by
    simp only [List.getElem?_cons_zero, Option.some.injEq] at h
    subst h
    exact ⟨rfl, rfl, rfl⟩
  | d :: cs, i + 1, c, h => by
    rw [List.getElem?_cons_succ] at h
    have hr := cells3_get h
    have e : cells3 (d :: cs) = [.int .i64 d.1, .int .i64 d.2.1, .int .i64 d.2.2] ++ cells3 cs := rfl
    rw [e, show 3 * (i + 1) = 3 * i + 3 from by omega, show 3 * i + 3 + 1 = 3 * i + 1 + 3 from by omega, show 3 * i + 3 + 2 = 3 * i + 2 + 3 from by omega]
    exact hr
def Row3 (w : World) (B : Nat) (e : TypeId) (v : Value) (cs : List (Int × Int × Int)) : Prop := w.ownsRow B e 3 v cs.length (cells3 cs)
theorem three_new (w : World) (a b c : Value) (t : TypeId) : ∀ j u, [a, b, c][j]? = some u → (w.alloc (.cells #[a, b, c] t)).cell? ((⟨w.heap.size, 0, none⟩ : Addr).add j) = some u := by
  intro j u hj
  have hn := heap_alloc_new w (.cells #[a, b, c] t)
  have hlt : j < 3 := (List.getElem?_eq_some_iff.1 hj).1
  rw [Addr.add_lit]
  unfold World.cell?
  rw [hn]
  rcases (show j = 0 ∨ j = 1 ∨ j = 2 by omega) with rfl | rfl | rfl
  all_goals
    simp at hj
    subst hj
    rfl
/-- 'append(out, Ch{..})' -/
theorem append3 {P : Program} (w : World) {ops : Array Oper} {rest : List Oper} {o : Oper} {a : Act} {Q : Exit → Act → World → Prop} (hg : o.guard = none) (s x : Operand) (t : TypeId)
    (ho : o.op = .call { callee := .builtin .append, args := #[s, x], argTypes := #[t, t] }) (B : Nat) (e : TypeId)
    (hinfo : (P.info? e).map (fun i => (i.zero, i.size, i.bytes)) = some (some (.agg #[.int .i64 0, .int .i64 0, .int .i64 0]), 3, 24)) (ht : P.underlying t = some (.slice e))
    (v : Value) (cs : List (Int × Int × Int)) (hs : a.eval s = v) (hrow : Row3 w B e v cs) (c1 c2 c3 : Int) (hx : a.eval x = .slice (some ⟨w.heap.size, 0, none⟩) 1 1)
    (hlen : cs.length < 1099511627776) (hB : B ≤ w.heap.size)
    (hK : ∀ v' w', Row3 w' B e v' (cs ++ [(c1, c2, c3)]) → w.grownBy w' v.ownBlock → wpList P ops Q rest (a.put o.dst v') w') :
    wpList P ops Q (o :: rest) a (w.alloc (.cells #[.int .i64 c1, .int .i64 c2, .int .i64 c3] e)) := by
  cases hi : P.info? e with
  | none => rw [hi] at hinfo; simp at hinfo
  | some i0 =>
    rw [hi] at hinfo
    simp only [Option.map_some, Option.some.injEq, Prod.mk.injEq] at hinfo
    obtain ⟨hz0, hz1, hz2⟩ := hinfo
    refine wpList_append_own _ hg s x t ho B e i0 _ 3 24 ht hi hz0 hz1 hz2 rfl (by decide) v cs.length (cells3 cs) hs (World.ownsRow.alloc hrow _) ⟨w.heap.size, 0, none⟩ 1 1 [.int .i64 c1, .int .i64 c2, .int .i64 c3] hx rfl (three_new _ _ _ _ _)
      (fun x hx => by simp at hx; rcases hx with rfl | rfl | rfl <;> rfl) (by unfold maxLen; omega) (by omega) (by simp; omega) ?_
    intro v' w' h1 h2 _
    refine hK v' w' ?_ ?_
    · unfold Row3
      rw [List.length_append, show cells3 (cs ++ [(c1, c2, c3)]) = cells3 cs ++ [.int .i64 c1, .int .i64 c2, .int .i64 c3] from by simp [cells3]]
      exact h1
    · have h3 := World.grownBy_alloc w (.cells #[.int .i64 c1, .int .i64 c2, .int .i64 c3] e) v.ownBlock
      exact ⟨h2.os.trans h3.os, h2.tape.trans h3.tape, h2.output.trans h3.output, Nat.le_trans h3.size h2.size,
        fun j hj hne => (h2.block j (Nat.lt_of_lt_of_le hj h3.size) hne).trans (h3.block j hj hne)⟩
end Gim
namespace Go.Proofs.Ytgajinnbmnnccaa
open Go.RowKit Gim
theorem info_ch : (Try.prog.info? 80).map (fun i => (i.zero, i.size, i.bytes)) = some (some (.agg #[.int .i64 0, .int .i64 0, .int .i64 0]), 3, 24) := by kernel_rfl
/-- b[p:p+m] -/
theorem Rb.mid {w : World} {b o n cap : Nat} {xs : List Int} (h : Rb w (some ⟨b, o, none⟩) n cap xs) {p m : Nat} (hm : p + m ≤ n) (h0 : p < cap) : Rb w (some ⟨b, o + p, none⟩) m (cap - p) ((xs.drop p).take m) := by
  have rbd := h.drop (m := p) (by omega)
  rw [if_neg (by omega)] at rbd
  replace rbd : Rb w (some ⟨b, o + p, none⟩) (n - p) (cap - p) (xs.drop p) := by simpa [Addr.add_lit] using rbd
  exact rbd.take (by omega)
def GivesCh (w : World) (cs : List (Int × Int × Int)) (e : Ending) (w' : World) : Prop := ∃ v, e = .returned v ∧ Row3 w' w.heap.size 80 v cs ∧ Below w.heap.size w w'
set_option maxRecDepth 100000 in
set_option maxHeartbeats 4000000 in
theorem chars_calls (w : World) (ao : Option Addr) (n cap : Nat) (xs : List Int) (h : Rb w ao n cap xs) (hxs : ∀ x ∈ xs, 0 ≤ x ∧ x ≤ 255) (hn : n ≤ 1099511627770) :
    Calls Try.prog 44 #[.slice ao n cap] w (GivesCh w (chB xs)) := by
  have HL := Lib.hid h.rd.len
  have hcl := h.rd.cap_le
  have hle := h.rd.le
  have HXS := Lib.hid hxs
  go_enter Try.func44, Try.ntmps44
  go_wp2
  go_loopw [3, 4] (fun v u wr => ∃ (p : Nat) (done : List (Int × Int × Int)), u = .int .i64 p ∧ Row3 wr w.heap.size 80 v done ∧ p ≤ n ∧ done.length ≤ p ∧ Below w.heap.size w wr ∧ Hid (done ++ chAt xs p = chB xs)) (fun _ u wr => n - (intOf u).toNat)
  case atStart => exact ⟨0, [], rfl, World.ownsRow_nil _ _ _ _, by omega, by simp, Below.refl _ _, Lib.hid (by rw [List.nil_append]; rfl)⟩
  case round =>
    obtain ⟨p, done, rfl, hrow, hps, hdl, hb, H⟩ := hrel
    have hBr : w.heap.size ≤ wr.heap.size := hb.size
    by_cases hp : p < n
    · have hst := Gim.step HXS.out (p := p) (by rw [HL.out]; exact hp)
      have hN := H.out
      rw [chAt_next (by rw [HL.out]; exact hp)] at hN
      have rbr := h.below hb
      obtain ⟨b, o, rfl, _, _⟩ := rbr.at_ (by omega)
      have cF := front_calls wr _ _ _ _ rbr p (by omega)
      rcases hst with ⟨m, hF, h1, h4, hl, hf, hv, hd, hV, hok⟩ | ⟨k, m, hF, hk, hkn, hf, hd, hpc⟩ | ⟨k, m, hF, hk, hkn, hf, hv, hd, hpc⟩
      · rw [HL.out] at hl
        have rbm := rbr.mid (p := p) (m := m) hl (by omega)
        have cV := value_calls wr _ _ _ _ rbm h1 h4
        rw [hF] at cF
        rw [← hV] at cV
        rw [hd] at hN
        obtain ⟨r, hr⟩ : ∃ r : Int, r = ((decB (xs.drop p)).1 : Int) := ⟨_, rfl⟩
        rw [← hr] at hN cV
        have HN := Lib.hid (show (done ++ [((p : Int), r, (m : Int))]) ++ chAt xs (p + m) = chB xs by rw [List.append_assoc]; exact hN)
        clear hF hf hv hd hV hok hr hN H
        go_wp2_with fail
        refine cF.mono ?_
        rintro e w1 ⟨rfl, rfl⟩
        clear cF
        go_wp2_with fail
        refine cV.mono ?_
        rintro e w2 ⟨rfl, rfl⟩
        clear cV
        go_wp2_with (at_builtin; refine append3 _ rfl _ _ 77 rfl w.heap.size 80 info_ch Try.underlying77 _ done rfl hrow _ _ _ rfl (by omega) hBr ?_; intro v' w3 hown' hgrow3)
        go_roundw
        case rel => exact ⟨p + m, _, by go_num, hown', by omega, by simp; omega, hb.grown hgrow3 hBr (fun j hj => (World.ownsRow.lt hrow j hj).1), HN⟩
        case measure => simp [RowKit.intOf]; omega
      · rw [HL.out] at hk
        rw [hF] at cF
        rw [hd] at hN
        have HN := Lib.hid (show (done ++ [((p : Int), (65533 : Int), (1 : Int))]) ++ chAt xs (p + 1) = chB xs by rw [List.append_assoc]; exact hN)
        clear hF hf hd hpc hN H
        have hkd : ((k : Int) == (m : Int)) = false := by simp; omega
        go_wp2_with fail
        refine cF.mono ?_
        rintro e w1 ⟨rfl, rfl⟩
        clear cF
        go_wp2_with (at_builtin; refine append3 _ rfl _ _ 77 rfl w.heap.size 80 info_ch Try.underlying77 _ done rfl hrow _ _ _ rfl (by omega) hBr ?_; intro v' w3 hown' hgrow3)
        go_roundw
        case rel => exact ⟨p + 1, _, by go_num, hown', by omega, by simp; omega, hb.grown hgrow3 hBr (fun j hj => (World.ownsRow.lt hrow j hj).1), HN⟩
        case measure => simp [RowKit.intOf]; omega
      · rw [HL.out] at hk
        rw [hF] at cF
        rw [hd] at hN
        have HN := Lib.hid (show (done ++ [((p : Int), (65533 : Int), (1 : Int))]) ++ chAt xs (p + 1) = chB xs by rw [List.append_assoc]; exact hN)
        clear hF hf hv hd hpc hN H
        have hcase : m = 0 ∨ 0 < m ∧ k ≠ m := by omega
        rcases hcase with rfl | ⟨hm, hkm⟩
        · go_wp2_with fail
          refine cF.mono ?_
          rintro e w1 ⟨rfl, rfl⟩
          clear cF
          go_wp2_with (at_builtin; refine append3 _ rfl _ _ 77 rfl w.heap.size 80 info_ch Try.underlying77 _ done rfl hrow _ _ _ rfl (by omega) hBr ?_; intro v' w3 hown' hgrow3)
          go_roundw
          case rel => exact ⟨p + 1, _, by go_num, hown', by omega, by simp; omega, hb.grown hgrow3 hBr (fun j hj => (World.ownsRow.lt hrow j hj).1), HN⟩
          case measure => simp [RowKit.intOf]; omega
        · have hkd : ((k : Int) == (m : Int)) = false := by simp; omega
          go_wp2_with fail
          refine cF.mono ?_
          rintro e w1 ⟨rfl, rfl⟩
          clear cF
          go_wp2_with (at_builtin; refine append3 _ rfl _ _ 77 rfl w.heap.size 80 info_ch Try.underlying77 _ done rfl hrow _ _ _ rfl (by omega) hBr ?_; intro v' w3 hown' hgrow3)
          go_roundw
          case rel => exact ⟨p + 1, _, by go_num, hown', by omega, by simp; omega, hb.grown hgrow3 hBr (fun j hj => (World.ownsRow.lt hrow j hj).1), HN⟩
          case measure => simp [RowKit.intOf]; omega
    · have he : done = chB xs := by
        have := H.out
        rw [chAt_end (by rw [HL.out]; omega), List.append_nil] at this
        exact this
      have HE := Lib.hid he
      clear H he
      go_wp2
      go_ret
      exact ⟨_, rfl, HE.out ▸ hrow, hb⟩
end Go.Proofs.Ytgajinnbmnnccaa
namespace Gim
open Go Go.RowKit
/-- characters in memory, to be read -/
structure Rd3 (w : World) (B : Nat) (ao : Option Addr) (n cap : Nat) (cs : List (Int × Int × Int)) : Prop where
  len : cs.length = n
  le : n ≤ cap
  cap_le : cap ≤ maxLen
  cell : 0 < n → ∃ g, ao = some ⟨g, 0, none⟩ ∧ B ≤ g ∧ g < w.heap.size ∧ ∀ i c, cs[i]? = some c → w.cell? ⟨g, i * 3, none⟩ = some (.int .i64 c.1) ∧ w.cell? ⟨g, i * 3 + 1, none⟩ = some (.int .i64 c.2.1) ∧ w.cell? ⟨g, i * 3 + 2, none⟩ = some (.int .i64 c.2.2)
theorem Row3.rd {w : World} {B : Nat} {e : TypeId} {v : Value} {cs : List (Int × Int × Int)} (h : Row3 w B e v cs) : ∃ ao cap, v = .slice ao cs.length cap ∧ Rd3 w B ao cs.length cap cs := by
  rcases h.2 with ⟨rfl, h0⟩ | ⟨g, cap, cur, rfl, hb, hg, hn, hc, hs, ht⟩
  · exact ⟨none, 0, by rw [h0], rfl, by omega, by unfold maxLen; omega, fun hh => by omega⟩
  · refine ⟨_, cap, rfl, rfl, hn, hc, fun _ => ⟨g, rfl, hb, (Array.getElem?_eq_some_iff.1 hg).1, fun i c hi => ?_⟩⟩
    have hc3 := cells3_get hi
    have h0 := World.ownsRow.cells (g := g) h rfl _ _ hc3.1
    have h1 := World.ownsRow.cells (g := g) h rfl _ _ hc3.2.1
    have h2 := World.ownsRow.cells (g := g) h rfl _ _ hc3.2.2
    rw [Addr.add_lit, Nat.zero_add, Nat.mul_comm 3 i] at h0 h1 h2
    exact ⟨h0, h1, h2⟩
theorem Rd3.below {w w' : World} {B : Nat} {ao : Option Addr} {n cap : Nat} {cs : List (Int × Int × Int)} (h : Rd3 w B ao n cap cs) (hb : Below w.heap.size w w') : Rd3 w' B ao n cap cs :=
  ⟨h.len, h.le, h.cap_le, fun h0 => by
    obtain ⟨g, e, hB, hg, hc⟩ := h.cell h0
    exact ⟨g, e, hB, Nat.lt_of_lt_of_le hg hb.size, fun i c hi => by
      have := hc i c hi
      exact ⟨(hb.cell (p := ⟨g, i * 3, none⟩) hg).trans this.1, (hb.cell (p := ⟨g, i * 3 + 1, none⟩) hg).trans this.2.1, (hb.cell (p := ⟨g, i * 3 + 2, none⟩) hg).trans this.2.2⟩⟩⟩
/-- what At's variables hold: the answer's room, the place so far -/
structure PI (R P : Nat) (m u v z : Int) (W : World) : Prop where
  c10 : W.cell? ⟨R, 0, none⟩ = some (.int .i64 0)
  c11 : W.cell? ⟨R, 1, none⟩ = some (.int .i64 0)
  c12 : W.cell? ⟨R, 2, none⟩ = some (.int .i64 0)
  c13 : W.cell? ⟨R, 3, none⟩ = some (.int .i64 0)
  f10 : W.frozen? ⟨R, 0, none⟩ = false
  f11 : W.frozen? ⟨R, 1, none⟩ = false
  f12 : W.frozen? ⟨R, 2, none⟩ = false
  f13 : W.frozen? ⟨R, 3, none⟩ = false
  c20 : W.cell? ⟨P, 0, none⟩ = some (.int .i64 m)
  c21 : W.cell? ⟨P, 1, none⟩ = some (.int .i64 u)
  c22 : W.cell? ⟨P, 2, none⟩ = some (.int .i64 v)
  c23 : W.cell? ⟨P, 3, none⟩ = some (.int .i64 z)
  f21 : W.frozen? ⟨P, 1, none⟩ = false
  f22 : W.frozen? ⟨P, 2, none⟩ = false
  f23 : W.frozen? ⟨P, 3, none⟩ = false
theorem PI.drewN {R P : Nat} {m u v z : Int} {W : World} (h : PI R P m u v z W) (n : Nat) : PI R P m u v z (W.drewN n) :=
  ⟨h.c10, h.c11, h.c12, h.c13, h.f10, h.f11, h.f12, h.f13, h.c20, h.c21, h.c22, h.c23, h.f21, h.f22, h.f23⟩
theorem Fr.cell {p : Nat → Prop} {w w' : World} (h : Fr p w w') {b o : Nat} (hb : b < w.heap.size) (hp : ¬ p b) : w'.cell? ⟨b, o, none⟩ = w.cell? ⟨b, o, none⟩ := World.cell?_of_block (a := ⟨b, o, none⟩) (h.block b hb hp)
end Gim
