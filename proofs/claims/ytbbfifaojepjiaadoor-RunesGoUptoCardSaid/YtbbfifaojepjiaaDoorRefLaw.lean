/- The document's characters (gimletref01): plain. -/
import Derived.Test.YtbbfifaojepjiaaDoorBackLaw
namespace Gim
open Go Go.Lib
/-- how many bytes a character has that begins with b -/
def szR (b : Nat) : Nat := if b < 128 then 1 else if 194 ≤ b ∧ b ≤ 223 then 2 else if 224 ≤ b ∧ b ≤ 239 then 3 else if 240 ≤ b ∧ b ≤ 244 then 4 else 0
/-- can y be the second byte behind x? -/
def goesR (x y : Nat) : Bool :=
  if x = 224 then decide (160 ≤ y ∧ y ≤ 191) else if x = 237 then decide (128 ≤ y ∧ y ≤ 159) else if x = 240 then decide (144 ≤ y ∧ y ≤ 191)
  else if x = 244 then decide (128 ≤ y ∧ y ≤ 143) else decide (128 ≤ y ∧ y ≤ 191)
/-- may the byte number k stand there? -/
def fitR (xs : List Int) (at_ k : Nat) : Bool := !(decide (k = 1) && !goesR (bn xs at_) (bn xs (at_ + k)) || decide (bn xs (at_ + k) < 128) || decide (191 < bn xs (at_ + k)))
def frF (xs : List Int) (at_ n : Nat) : Nat → Nat → Nat
  | 0, k => k
  | f + 1, k => if k < n ∧ at_ + k < xs.length ∧ fitR xs at_ k = true then frF xs at_ n f (k + 1) else k
def frK (xs : List Int) (at_ n k : Nat) : Nat := frF xs at_ n (n - k) k
/-- Front's answer -/
def frontB (xs : List Int) (at_ : Nat) : Nat × Nat :=
  if xs.length ≤ at_ then (0, 0) else if szR (bn xs at_) = 0 then (0, 0) else (frK xs at_ (szR (bn xs at_)) 1, szR (bn xs at_))
theorem szR_le (b : Nat) : szR b ≤ 4 := by
  unfold szR
  repeat' split
  all_goals omega
theorem frF_end {xs : List Int} {at_ n k : Nat} : ∀ f, ¬ (k < n ∧ at_ + k < xs.length ∧ fitR xs at_ k = true) → frF xs at_ n f k = k
  | 0, _ => rfl
  | f + 1, h => by rw [frF, if_neg h]
theorem frK_next {xs : List Int} {at_ n k : Nat} (h : k < n) (h2 : at_ + k < xs.length) (h3 : fitR xs at_ k = true) : frK xs at_ n k = frK xs at_ n (k + 1) := by
  unfold frK
  obtain ⟨f, hf⟩ : ∃ f, n - k = f + 1 := ⟨n - k - 1, by omega⟩
  rw [hf, frF, if_pos ⟨h, h2, h3⟩, show n - (k + 1) = f by omega]
theorem frK_end {xs : List Int} {at_ n k : Nat} (h : ¬ (k < n ∧ at_ + k < xs.length ∧ fitR xs at_ k = true)) : frK xs at_ n k = k := frF_end _ h
end Gim
