/- The walks of runes.valid, begins, Next. -/
import Derived.Test.YtbbfifaojepjiaaDoorFullRune
namespace Gim
open Go
def validB (xs : List Int) : Bool := !decide ((decB xs).1 = 65533 ∧ (decB xs).2 ≤ 1)
def beginsB (xs : List Int) : Bool := !fullB xs || validB xs
end Gim
namespace Go.Proofs.YtbbfifaojepjiaaDoor
open Go.RowKit Go.Lib Gim
theorem Rb.take {w : World} {ao : Option Addr} {n cap : Nat} {xs : List Int} (h : Rb w ao n cap xs) {m : Nat} (hm : m ≤ n) : Rb w ao m cap (xs.take m) :=
  ⟨h.rd.take hm, fun j hj => by
    have := h.by_ j (by omega)
    have e : gt (xs.take m) j = gt xs j := by simp [gt, hj]
    rw [e]; exact this⟩
theorem Rb.drop {w : World} {ao : Option Addr} {n cap : Nat} {xs : List Int} (h : Rb w ao n cap xs) {m : Nat} (hm : m ≤ n) :
    Rb w (if cap = m then ao else ao.map (·.add m)) (n - m) (cap - m) (xs.drop m) :=
  ⟨h.rd.drop hm, fun j hj => by
    have := h.by_ (m + j) (by omega)
    have e : gt (xs.drop m) j = gt xs (m + j) := by simp [gt]
    rw [e]; exact this⟩
theorem Rb.drewN {w : World} {ao : Option Addr} {n cap : Nat} {xs : List Int} (h : Rb w ao n cap xs) (m : Nat) : Rb (w.drewN m) ao n cap xs := ⟨h.rd.drewN m, h.by_⟩
-- gimlet/runes.valid
theorem valid_calls (w : World) (ao : Option Addr) (n cap : Nat) (xs : List Int) (h : Rb w ao n cap xs) (hT : U8 w) :
    Calls Tryd.prog 25 #[.slice ao n cap] w fun e w' => e = .returned (.bool (validB xs)) ∧ Below w.heap.size w w' := by
  go_enter Tryd.func25, Tryd.ntmps25
  go_wp2_with fail
  refine (decode_calls _ _ _ _ xs h hT).mono ?_
  rintro e w1 ⟨rfl, hb1⟩
  have HV := Lib.hid (rfl : validB xs = !decide ((decB xs).1 = 65533 ∧ (decB xs).2 ≤ 1))
  obtain ⟨D, hD⟩ : ∃ D, D = decB xs := ⟨_, rfl⟩
  have HB : Hid (validB xs = !decide (D.1 = 65533 ∧ D.2 ≤ 1)) := Lib.hid (by rw [hD]; rfl)
  rw [← hD]
  clear hD HV
  obtain ⟨r, k⟩ := D
  by_cases h1 : r = 65533
  · subst h1
    by_cases h2 : k ≤ 1
    · have h3 : decide ((1 : Int) < k) = false := by simp; omega
      have HV := Lib.hid (HB.out.trans (by rw [decide_eq_true ⟨rfl, h2⟩]; rfl) : validB xs = false)
      clear HB
      go_wp2
      go_ret
      exact ⟨by rw [HV.out]; rfl, hb1⟩
    · have h3 : decide ((1 : Int) < k) = true := by simp; omega
      have HV := Lib.hid (HB.out.trans (by rw [decide_eq_false fun h => h2 h.2]; rfl) : validB xs = true)
      clear HB
      go_wp2
      go_ret
      exact ⟨by rw [HV.out]; rfl, hb1⟩
  · have h3 : ((r : Int) != 65533) = true := by simp; omega
    have h4 : ((r : Int) == 65533) = false := by simp; omega
    have HV := Lib.hid (HB.out.trans (by rw [decide_eq_false fun h => h1 h.1]; rfl) : validB xs = true)
    clear HB
    go_wp2
    go_ret
    exact ⟨by rw [HV.out]; rfl, hb1⟩
-- gimlet/runes.begins
theorem begins_calls (w : World) (ao : Option Addr) (n cap : Nat) (xs : List Int) (h : Rb w ao n cap xs) (hT : U8 w) :
    Calls Tryd.prog 27 #[.slice ao n cap] w fun e w' => e = .returned (.bool (beginsB xs)) ∧ Below w.heap.size w w' := by
  go_enter Tryd.func27, Tryd.ntmps27
  go_wp2_with fail
  refine (full_calls _ _ _ _ xs h hT).mono ?_
  rintro e w1 ⟨rfl, hb1⟩
  cases hf : fullB xs
  · have HF := Lib.hid (show beginsB xs = true by rw [beginsB, hf]; rfl)
    clear hf
    go_wp2
    go_ret
    exact ⟨by rw [HF.out]; rfl, hb1⟩
  · have HF := Lib.hid (show beginsB xs = validB xs by rw [beginsB, hf]; rfl)
    clear hf
    go_wp2_with fail
    refine (valid_calls _ _ _ _ xs (h.below hb1) (U8.below hT hb1)).mono ?_
    rintro e w2 ⟨rfl, hb2⟩
    go_wp2
    go_ret
    exact ⟨by rw [HF.out]; rfl, hb1.trans (hb2.mono hb1.size)⟩
end Go.Proofs.YtbbfifaojepjiaaDoor
