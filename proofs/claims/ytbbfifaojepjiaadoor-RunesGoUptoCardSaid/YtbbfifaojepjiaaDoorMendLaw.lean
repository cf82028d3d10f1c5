/- What MendParts answers: plain. -/
import Derived.Test.YtbbfifaojepjiaaDoorNextWalk
import Derived.Laws.BytesArg
import Derived.Laws.IdiomStrings
namespace Gim
open Go Go.RowKit
/-- bytes as numbers -/
def bz (l : List UInt8) : List Int := l.map fun b => (b.toNat : Int)
theorem bz_length (l : List UInt8) : (bz l).length = l.length := by simp [bz]
theorem bz_byte {l : List UInt8} {x : Int} (h : x ∈ bz l) : 0 ≤ x ∧ x ≤ 255 := by
  simp only [bz, List.mem_map] at h
  obtain ⟨b, _, rfl⟩ := h
  have := b.toNat_lt
  omega
/-- the numbers of a new slice of a string's bytes -/
theorem rd_bytes (w : World) (X : ByteArray) (t : TypeId) (cap : Nat) (fr : Nat × Nat) (h1 : X.size ≤ cap) (h2 : cap ≤ maxLen) :
    Rd (w.alloc (.cells (bytesRow X cap) t fr)) .u8 (some ⟨w.heap.size, 0, none⟩) X.size cap (bz X.data.toList) :=
  ⟨by rw [bz_length]; rfl, h1, h2, fun j hj => ⟨_, _, rfl, by simp, fun i hi => by
    have hi' : i < X.data.size := hi
    have hg : gt (bz X.data.toList) i = (X.data[i].toNat : Int) := by simp [gt, bz]; rw [Array.getElem?_eq_getElem hi']; rfl
    rw [hg]
    have := bytesRow_at X cap i hi'
    have hh := heap_alloc_new w (.cells (bytesRow X cap) t fr)
    unfold World.cell?
    rw [hh, Nat.zero_add]
    exact this⟩⟩
/-- how many bytes from a place on can go on to be one character's: so many already, with fuel -/
def runF (xs : List Int) (at_ : Nat) : Nat → Nat → Nat
  | 0, n => n
  | f + 1, n => if at_ + n < xs.length ∧ beginsB ((xs.drop at_).take (n + 1)) = true then runF xs at_ f (n + 1) else n
def pieceN (xs : List Int) (at_ : Nat) : Nat := runF xs at_ (xs.length - at_) 0
/-- how many bytes MendParts takes for one character -/
def partW (xs : List Int) (at_ : Nat) : Nat := if (decB (xs.drop at_)).1 = 65533 ∧ (decB (xs.drop at_)).2 ≤ 1 then max (pieceN xs at_) 1 else (decB (xs.drop at_)).2
def partsF (xs : List Int) : Nat → Nat → List Int
  | 0, _ => []
  | f + 1, at_ => if at_ < xs.length then ((decB (xs.drop at_)).1 : Int) :: partsF xs f (at_ + partW xs at_) else []
def parts (xs : List Int) : List Int := partsF xs xs.length 0
theorem runF_end {xs : List Int} {at_ n : Nat} : ∀ f, ¬ (at_ + n < xs.length ∧ beginsB ((xs.drop at_).take (n + 1)) = true) → runF xs at_ f n = n
  | 0, _ => rfl
  | f + 1, h => by rw [runF, if_neg h]
theorem runF_fuel {xs : List Int} {at_ : Nat} : ∀ (f g n : Nat), xs.length ≤ at_ + n + f → xs.length ≤ at_ + n + g → runF xs at_ f n = runF xs at_ g n
  | 0, g, n, h, _ => by rw [runF_end g (fun k => by omega)]; rfl
  | f + 1, g, n, h, h2 => by
    by_cases hc : at_ + n < xs.length ∧ beginsB ((xs.drop at_).take (n + 1)) = true
    · obtain ⟨g, rfl⟩ : ∃ g', g = g' + 1 := ⟨g - 1, by omega⟩
      rw [runF, runF, if_pos hc, if_pos hc, runF_fuel f g (n + 1) (by omega) (by omega)]
    · rw [runF_end _ hc, runF_end _ hc]
theorem decB_width {xs : List Int} (h : 0 < xs.length) : 1 ≤ (decB xs).2 := by
  rw [decB, if_neg (by omega)]
  unfold Lib.decodeN
  repeat' split
  all_goals simp
theorem partW_pos {xs : List Int} {at_ : Nat} (h : at_ < xs.length) : 1 ≤ partW xs at_ := by
  unfold partW
  split
  · omega
  · exact decB_width (by rw [List.length_drop]; omega)
theorem partsF_end {xs : List Int} {at_ : Nat} : ∀ f, ¬ at_ < xs.length → partsF xs f at_ = []
  | 0, _ => rfl
  | f + 1, h => by rw [partsF, if_neg h]
theorem partsF_fuel {xs : List Int} : ∀ (f g at_ : Nat), xs.length ≤ at_ + f → xs.length ≤ at_ + g → partsF xs f at_ = partsF xs g at_
  | 0, g, at_, h, _ => by rw [partsF_end g (by omega)]; rfl
  | f + 1, g, at_, h, h2 => by
    by_cases hc : at_ < xs.length
    · obtain ⟨g, rfl⟩ : ∃ g', g = g' + 1 := ⟨g - 1, by omega⟩
      have := partW_pos hc
      rw [partsF, partsF, if_pos hc, if_pos hc, partsF_fuel f g _ (by omega) (by omega)]
    · rw [partsF_end _ hc, partsF_end _ hc]
/-- what is left from a place on -/
def partsAt (xs : List Int) (at_ : Nat) : List Int := partsF xs (xs.length - at_) at_
theorem partsAt_next {xs : List Int} {at_ : Nat} (h : at_ < xs.length) : partsAt xs at_ = ((decB (xs.drop at_)).1 : Int) :: partsAt xs (at_ + partW xs at_) := by
  unfold partsAt
  have := partW_pos h
  obtain ⟨f, hf⟩ : ∃ f, xs.length - at_ = f + 1 := ⟨xs.length - at_ - 1, by omega⟩
  rw [hf, partsF, if_pos h, partsF_fuel f (xs.length - (at_ + partW xs at_)) _ (by omega) (by omega)]
theorem partsAt_end {xs : List Int} {at_ : Nat} (h : ¬ at_ < xs.length) : partsAt xs at_ = [] := partsF_end _ h
theorem runF_le {xs : List Int} {at_ : Nat} : ∀ (f n : Nat), at_ + n ≤ xs.length → at_ + runF xs at_ f n ≤ xs.length ∧ n ≤ runF xs at_ f n
  | 0, n, h => ⟨h, Nat.le_refl _⟩
  | f + 1, n, h => by
    rw [runF]
    split
    · rename_i hc
      have := runF_le f (n + 1) (show at_ + (n + 1) ≤ xs.length by omega)
      exact ⟨this.1, by omega⟩
    · exact ⟨h, Nat.le_refl _⟩
theorem decB_le {xs : List Int} (h : 0 < xs.length) : (decB xs).2 ≤ xs.length := by
  rw [decB, if_neg (by omega)]
  unfold Lib.decodeN
  repeat' split
  all_goals simp
  all_goals omega
theorem partW_le {xs : List Int} {at_ : Nat} (h : at_ < xs.length) : at_ + partW xs at_ ≤ xs.length := by
  unfold partW
  split
  · have := (runF_le (xs := xs) (at_ := at_) (xs.length - at_) 0 (by omega)).1
    unfold pieceN
    omega
  · have := decB_le (xs := xs.drop at_) (by rw [List.length_drop]; omega)
    rw [List.length_drop] at this
    omega
end Gim
