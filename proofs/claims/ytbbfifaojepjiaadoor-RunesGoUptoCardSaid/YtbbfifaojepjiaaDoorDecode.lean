/- unicode/utf8's FullRune and DecodeRune over any bytes. Printed by mkdecode.py. -/
import Derived.Test.YtbbfifaojepjiaaDoorHanded
import Derived.Shelf.Unicode.DecodeSlow
import Derived.Lib.LaidU8T
set_option linter.unusedVariables false
namespace Gim
open Go Go.Lib
/-- byte number j -/
def bn (xs : List Int) (j : Nat) : Nat := (gt xs j).toNat
/-- the character that bytes begin with, and its width, as Go's decoder has it -/
def decB (xs : List Int) : Nat × Nat := if xs.length = 0 then (65533, 0) else decodeN xs.length (bn xs 0) (bn xs 1) (bn xs 2) (bn xs 3)
def fullN (n b0 b1 b2 : Nat) : Bool :=
  if firstT b0 % 8 ≤ n then true
  else if 1 < n ∧ (b1 < accLo (firstT b0 / 16) ∨ accHi (firstT b0 / 16) < b1) then true
  else if 2 < n ∧ (b2 < 128 ∨ 191 < b2) then true else false
/-- is there a whole character, or a wrong byte? -/
def fullB (xs : List Int) : Bool := if xs.length = 0 then false else fullN xs.length (bn xs 0) (bn xs 1) (bn xs 2)
theorem bn_cast {xs : List Int} {j : Nat} (h : 0 ≤ gt xs j) : gt xs j = ((bn xs j : Nat) : Int) := (Int.toNat_of_nonneg h).symm
end Gim
namespace Go.Proofs.YtbbfifaojepjiaaDoor
open Go.RowKit Go.Lib Gim
abbrev U8 (w : World) : Prop := Utf8Tabs 1 2 w
theorem U8.below {w w' : World} (h : U8 w) (hb : Below w.heap.size w w') : U8 w' := Utf8Tabs_below h hb
/-- bytes in memory, byte by byte -/
structure Rb (w : World) (ao : Option Addr) (n cap : Nat) (xs : List Int) : Prop where
  rd : Rd w .u8 ao n cap xs
  by_ : ∀ j, j < n → 0 ≤ gt xs j ∧ gt xs j ≤ 255
theorem Rb.below {w w' : World} {ao : Option Addr} {n cap : Nat} {xs : List Int} (h : Rb w ao n cap xs) (hb : Below w.heap.size w w') : Rb w' ao n cap xs := ⟨h.rd.below hb, h.by_⟩
theorem Rb.at_ {w : World} {ao : Option Addr} {n cap : Nat} {xs : List Int} (h : Rb w ao n cap xs) (h0 : 0 < n) : ∃ b o, ao = some ⟨b, o, none⟩ ∧ b < w.heap.size ∧ ∀ j, j < n → bn xs j < 256 ∧ ∀ w', Below w.heap.size w w' → w'.cell? ⟨b, o + j, none⟩ = some (.int .u8 ((bn xs j : Nat) : Int)) := by
  obtain ⟨b, o, e, hb, hc⟩ := h.rd.cell 0 h0
  exact ⟨b, o, e, hb, fun j hj => ⟨by have := h.by_ j hj; unfold bn; omega, fun w' hw => by
    rw [hw.cell (p := ⟨b, o + j, none⟩) hb, hc j hj, bn_cast (h.by_ j hj).1]⟩⟩
-- unicode/utf8.decodeRuneSlow
set_option maxHeartbeats 4000000 in
set_option maxRecDepth 1000000 in
theorem slow_2 (w : World) (b o n cap : Nat) (x0 x1 x2 x3 : Nat) (hT : U8 w) (h0 : 0 < n) (hle : n ≤ cap) (hcap : cap ≤ maxLen) (hb : b < w.heap.size) (l0 : x0 < 256) (l1 : x1 < 256) (l2 : x2 < 256) (l3 : x3 < 256)
    (c0 : ∀ w', Below w.heap.size w w' → w'.cell? ⟨b, o, none⟩ = some (.int .u8 (x0 : Int))) (c1 : 1 < n → ∀ w', Below w.heap.size w w' → w'.cell? ⟨b, o + 1, none⟩ = some (.int .u8 (x1 : Int)))
    (c2 : 2 < n → ∀ w', Below w.heap.size w w' → w'.cell? ⟨b, o + 2, none⟩ = some (.int .u8 (x2 : Int))) (c3 : 3 < n → ∀ w', Below w.heap.size w w' → w'.cell? ⟨b, o + 3, none⟩ = some (.int .u8 (x3 : Int))) (hX : firstT x0 = 2) :
    Calls Tryd.prog 33 #[.slice (some ⟨b, o, none⟩) n cap] w fun e w' => e = .returned (.tuple #[.int .i32 (decodeN n x0 x1 x2 x3).1, .int .i64 (decodeN n x0 x1 x2 x3).2]) ∧ Below w.heap.size w w' := by
  have hres : decodeN n x0 x1 x2 x3 = slowN n x0 x1 x2 x3 (firstT x0 % 8) (accLo (firstT x0 / 16)) (accHi (firstT x0 / 16)) := (slow_eq _ _ _ _ _ (by omega) l1 l2 l3 (by omega)).symm
  have hc0 := hT.1 x0 l0
  rw [hX] at hc0 hres
  have ha0 := (hT.2 0 (by omega)).1
  have ha1 := (hT.2 0 (by omega)).2
  simp only [accLo, accHi, Nat.reduceMul, Nat.reduceAdd, Nat.reduceEqDiff, if_true, if_false, Nat.reduceMod, Nat.reduceDiv] at ha0 ha1 hres
  rw [hres]
  have hx0 := c0 w (Below.refl _ _)
  clear hres hT hX
  have hnz' : ¬ ((n : Int) < 1) := by omega
  have hA : ∀ o', Below w.heap.size w (w.alloc o') := fun o' => (Below.refl _ _).alloc (Nat.le_refl _) _
  by_cases hn : n < 2
  · have hnz : (n : Int) < 2 := by omega
    clear c0 c1 c2 c3 hA
    go_enter Tryd.func33, Tryd.ntmps33
    go_wp2
    all_goals (go_ret2; refine ⟨?_, (Below.refl _ _).alloc (Nat.le_refl _) _⟩; utf8_leaf)
  · have hnz : ¬ ((n : Int) < 2) := by omega
    have hx1 := fun o' => c1 (by omega) (w.alloc o') (hA o')
    have hz1 : (1 : Int) < (n : Int) := by omega
    clear c0 c1 c2 c3 hA
    go_enter Tryd.func33, Tryd.ntmps33
    go_wp2
    all_goals (go_ret2; refine ⟨?_, (Below.refl _ _).alloc (Nat.le_refl _) _⟩; utf8_leaf)
set_option maxHeartbeats 4000000 in
set_option maxRecDepth 1000000 in
theorem slow_19 (w : World) (b o n cap : Nat) (x0 x1 x2 x3 : Nat) (hT : U8 w) (h0 : 0 < n) (hle : n ≤ cap) (hcap : cap ≤ maxLen) (hb : b < w.heap.size) (l0 : x0 < 256) (l1 : x1 < 256) (l2 : x2 < 256) (l3 : x3 < 256)
    (c0 : ∀ w', Below w.heap.size w w' → w'.cell? ⟨b, o, none⟩ = some (.int .u8 (x0 : Int))) (c1 : 1 < n → ∀ w', Below w.heap.size w w' → w'.cell? ⟨b, o + 1, none⟩ = some (.int .u8 (x1 : Int)))
    (c2 : 2 < n → ∀ w', Below w.heap.size w w' → w'.cell? ⟨b, o + 2, none⟩ = some (.int .u8 (x2 : Int))) (c3 : 3 < n → ∀ w', Below w.heap.size w w' → w'.cell? ⟨b, o + 3, none⟩ = some (.int .u8 (x3 : Int))) (hX : firstT x0 = 19) :
    Calls Tryd.prog 33 #[.slice (some ⟨b, o, none⟩) n cap] w fun e w' => e = .returned (.tuple #[.int .i32 (decodeN n x0 x1 x2 x3).1, .int .i64 (decodeN n x0 x1 x2 x3).2]) ∧ Below w.heap.size w w' := by
  have hres : decodeN n x0 x1 x2 x3 = slowN n x0 x1 x2 x3 (firstT x0 % 8) (accLo (firstT x0 / 16)) (accHi (firstT x0 / 16)) := (slow_eq _ _ _ _ _ (by omega) l1 l2 l3 (by omega)).symm
  have hc0 := hT.1 x0 l0
  rw [hX] at hc0 hres
  have ha0 := (hT.2 1 (by omega)).1
  have ha1 := (hT.2 1 (by omega)).2
  simp only [accLo, accHi, Nat.reduceMul, Nat.reduceAdd, Nat.reduceEqDiff, if_true, if_false, Nat.reduceMod, Nat.reduceDiv] at ha0 ha1 hres
  rw [hres]
  have hx0 := c0 w (Below.refl _ _)
  clear hres hT hX
  have hnz' : ¬ ((n : Int) < 1) := by omega
  have hA : ∀ o', Below w.heap.size w (w.alloc o') := fun o' => (Below.refl _ _).alloc (Nat.le_refl _) _
  by_cases hn : n < 3
  · have hnz : (n : Int) < 3 := by omega
    clear c0 c1 c2 c3 hA
    go_enter Tryd.func33, Tryd.ntmps33
    go_wp2
    all_goals (go_ret2; refine ⟨?_, (Below.refl _ _).alloc (Nat.le_refl _) _⟩; utf8_leaf)
  · have hnz : ¬ ((n : Int) < 3) := by omega
    have hx1 := fun o' => c1 (by omega) (w.alloc o') (hA o')
    have hz1 : (1 : Int) < (n : Int) := by omega
    have hx2 := fun o' => c2 (by omega) (w.alloc o') (hA o')
    have hz2 : (2 : Int) < (n : Int) := by omega
    clear c0 c1 c2 c3 hA
    go_enter Tryd.func33, Tryd.ntmps33
    go_wp2
    all_goals (go_ret2; refine ⟨?_, (Below.refl _ _).alloc (Nat.le_refl _) _⟩; utf8_leaf)
set_option maxHeartbeats 4000000 in
set_option maxRecDepth 1000000 in
theorem slow_3 (w : World) (b o n cap : Nat) (x0 x1 x2 x3 : Nat) (hT : U8 w) (h0 : 0 < n) (hle : n ≤ cap) (hcap : cap ≤ maxLen) (hb : b < w.heap.size) (l0 : x0 < 256) (l1 : x1 < 256) (l2 : x2 < 256) (l3 : x3 < 256)
    (c0 : ∀ w', Below w.heap.size w w' → w'.cell? ⟨b, o, none⟩ = some (.int .u8 (x0 : Int))) (c1 : 1 < n → ∀ w', Below w.heap.size w w' → w'.cell? ⟨b, o + 1, none⟩ = some (.int .u8 (x1 : Int)))
    (c2 : 2 < n → ∀ w', Below w.heap.size w w' → w'.cell? ⟨b, o + 2, none⟩ = some (.int .u8 (x2 : Int))) (c3 : 3 < n → ∀ w', Below w.heap.size w w' → w'.cell? ⟨b, o + 3, none⟩ = some (.int .u8 (x3 : Int))) (hX : firstT x0 = 3) :
    Calls Tryd.prog 33 #[.slice (some ⟨b, o, none⟩) n cap] w fun e w' => e = .returned (.tuple #[.int .i32 (decodeN n x0 x1 x2 x3).1, .int .i64 (decodeN n x0 x1 x2 x3).2]) ∧ Below w.heap.size w w' := by
  have hres : decodeN n x0 x1 x2 x3 = slowN n x0 x1 x2 x3 (firstT x0 % 8) (accLo (firstT x0 / 16)) (accHi (firstT x0 / 16)) := (slow_eq _ _ _ _ _ (by omega) l1 l2 l3 (by omega)).symm
  have hc0 := hT.1 x0 l0
  rw [hX] at hc0 hres
  have ha0 := (hT.2 0 (by omega)).1
  have ha1 := (hT.2 0 (by omega)).2
  simp only [accLo, accHi, Nat.reduceMul, Nat.reduceAdd, Nat.reduceEqDiff, if_true, if_false, Nat.reduceMod, Nat.reduceDiv] at ha0 ha1 hres
  rw [hres]
  have hx0 := c0 w (Below.refl _ _)
  clear hres hT hX
  have hnz' : ¬ ((n : Int) < 1) := by omega
  have hA : ∀ o', Below w.heap.size w (w.alloc o') := fun o' => (Below.refl _ _).alloc (Nat.le_refl _) _
  by_cases hn : n < 3
  · have hnz : (n : Int) < 3 := by omega
    clear c0 c1 c2 c3 hA
    go_enter Tryd.func33, Tryd.ntmps33
    go_wp2
    all_goals (go_ret2; refine ⟨?_, (Below.refl _ _).alloc (Nat.le_refl _) _⟩; utf8_leaf)
  · have hnz : ¬ ((n : Int) < 3) := by omega
    have hx1 := fun o' => c1 (by omega) (w.alloc o') (hA o')
    have hz1 : (1 : Int) < (n : Int) := by omega
    have hx2 := fun o' => c2 (by omega) (w.alloc o') (hA o')
    have hz2 : (2 : Int) < (n : Int) := by omega
    clear c0 c1 c2 c3 hA
    go_enter Tryd.func33, Tryd.ntmps33
    go_wp2
    all_goals (go_ret2; refine ⟨?_, (Below.refl _ _).alloc (Nat.le_refl _) _⟩; utf8_leaf)
set_option maxHeartbeats 4000000 in
set_option maxRecDepth 1000000 in
theorem slow_35 (w : World) (b o n cap : Nat) (x0 x1 x2 x3 : Nat) (hT : U8 w) (h0 : 0 < n) (hle : n ≤ cap) (hcap : cap ≤ maxLen) (hb : b < w.heap.size) (l0 : x0 < 256) (l1 : x1 < 256) (l2 : x2 < 256) (l3 : x3 < 256)
    (c0 : ∀ w', Below w.heap.size w w' → w'.cell? ⟨b, o, none⟩ = some (.int .u8 (x0 : Int))) (c1 : 1 < n → ∀ w', Below w.heap.size w w' → w'.cell? ⟨b, o + 1, none⟩ = some (.int .u8 (x1 : Int)))
    (c2 : 2 < n → ∀ w', Below w.heap.size w w' → w'.cell? ⟨b, o + 2, none⟩ = some (.int .u8 (x2 : Int))) (c3 : 3 < n → ∀ w', Below w.heap.size w w' → w'.cell? ⟨b, o + 3, none⟩ = some (.int .u8 (x3 : Int))) (hX : firstT x0 = 35) :
    Calls Tryd.prog 33 #[.slice (some ⟨b, o, none⟩) n cap] w fun e w' => e = .returned (.tuple #[.int .i32 (decodeN n x0 x1 x2 x3).1, .int .i64 (decodeN n x0 x1 x2 x3).2]) ∧ Below w.heap.size w w' := by
  have hres : decodeN n x0 x1 x2 x3 = slowN n x0 x1 x2 x3 (firstT x0 % 8) (accLo (firstT x0 / 16)) (accHi (firstT x0 / 16)) := (slow_eq _ _ _ _ _ (by omega) l1 l2 l3 (by omega)).symm
  have hc0 := hT.1 x0 l0
  rw [hX] at hc0 hres
  have ha0 := (hT.2 2 (by omega)).1
  have ha1 := (hT.2 2 (by omega)).2
  simp only [accLo, accHi, Nat.reduceMul, Nat.reduceAdd, Nat.reduceEqDiff, if_true, if_false, Nat.reduceMod, Nat.reduceDiv] at ha0 ha1 hres
  rw [hres]
  have hx0 := c0 w (Below.refl _ _)
  clear hres hT hX
  have hnz' : ¬ ((n : Int) < 1) := by omega
  have hA : ∀ o', Below w.heap.size w (w.alloc o') := fun o' => (Below.refl _ _).alloc (Nat.le_refl _) _
  by_cases hn : n < 3
  · have hnz : (n : Int) < 3 := by omega
    clear c0 c1 c2 c3 hA
    go_enter Tryd.func33, Tryd.ntmps33
    go_wp2
    all_goals (go_ret2; refine ⟨?_, (Below.refl _ _).alloc (Nat.le_refl _) _⟩; utf8_leaf)
  · have hnz : ¬ ((n : Int) < 3) := by omega
    have hx1 := fun o' => c1 (by omega) (w.alloc o') (hA o')
    have hz1 : (1 : Int) < (n : Int) := by omega
    have hx2 := fun o' => c2 (by omega) (w.alloc o') (hA o')
    have hz2 : (2 : Int) < (n : Int) := by omega
    clear c0 c1 c2 c3 hA
    go_enter Tryd.func33, Tryd.ntmps33
    go_wp2
    all_goals (go_ret2; refine ⟨?_, (Below.refl _ _).alloc (Nat.le_refl _) _⟩; utf8_leaf)
set_option maxHeartbeats 4000000 in
set_option maxRecDepth 1000000 in
theorem slow_52 (w : World) (b o n cap : Nat) (x0 x1 x2 x3 : Nat) (hT : U8 w) (h0 : 0 < n) (hle : n ≤ cap) (hcap : cap ≤ maxLen) (hb : b < w.heap.size) (l0 : x0 < 256) (l1 : x1 < 256) (l2 : x2 < 256) (l3 : x3 < 256)
    (c0 : ∀ w', Below w.heap.size w w' → w'.cell? ⟨b, o, none⟩ = some (.int .u8 (x0 : Int))) (c1 : 1 < n → ∀ w', Below w.heap.size w w' → w'.cell? ⟨b, o + 1, none⟩ = some (.int .u8 (x1 : Int)))
    (c2 : 2 < n → ∀ w', Below w.heap.size w w' → w'.cell? ⟨b, o + 2, none⟩ = some (.int .u8 (x2 : Int))) (c3 : 3 < n → ∀ w', Below w.heap.size w w' → w'.cell? ⟨b, o + 3, none⟩ = some (.int .u8 (x3 : Int))) (hX : firstT x0 = 52) :
    Calls Tryd.prog 33 #[.slice (some ⟨b, o, none⟩) n cap] w fun e w' => e = .returned (.tuple #[.int .i32 (decodeN n x0 x1 x2 x3).1, .int .i64 (decodeN n x0 x1 x2 x3).2]) ∧ Below w.heap.size w w' := by
  have hres : decodeN n x0 x1 x2 x3 = slowN n x0 x1 x2 x3 (firstT x0 % 8) (accLo (firstT x0 / 16)) (accHi (firstT x0 / 16)) := (slow_eq _ _ _ _ _ (by omega) l1 l2 l3 (by omega)).symm
  have hc0 := hT.1 x0 l0
  rw [hX] at hc0 hres
  have ha0 := (hT.2 3 (by omega)).1
  have ha1 := (hT.2 3 (by omega)).2
  simp only [accLo, accHi, Nat.reduceMul, Nat.reduceAdd, Nat.reduceEqDiff, if_true, if_false, Nat.reduceMod, Nat.reduceDiv] at ha0 ha1 hres
  rw [hres]
  have hx0 := c0 w (Below.refl _ _)
  clear hres hT hX
  have hnz' : ¬ ((n : Int) < 1) := by omega
  have hA : ∀ o', Below w.heap.size w (w.alloc o') := fun o' => (Below.refl _ _).alloc (Nat.le_refl _) _
  by_cases hn : n < 4
  · have hnz : (n : Int) < 4 := by omega
    clear c0 c1 c2 c3 hA
    go_enter Tryd.func33, Tryd.ntmps33
    go_wp2
    all_goals (go_ret2; refine ⟨?_, (Below.refl _ _).alloc (Nat.le_refl _) _⟩; utf8_leaf)
  · have hnz : ¬ ((n : Int) < 4) := by omega
    have hx1 := fun o' => c1 (by omega) (w.alloc o') (hA o')
    have hz1 : (1 : Int) < (n : Int) := by omega
    have hx2 := fun o' => c2 (by omega) (w.alloc o') (hA o')
    have hz2 : (2 : Int) < (n : Int) := by omega
    have hx3 := fun o' => c3 (by omega) (w.alloc o') (hA o')
    have hz3 : (3 : Int) < (n : Int) := by omega
    clear c0 c1 c2 c3 hA
    go_enter Tryd.func33, Tryd.ntmps33
    go_wp2
    all_goals (go_ret2; refine ⟨?_, (Below.refl _ _).alloc (Nat.le_refl _) _⟩; utf8_leaf)
set_option maxHeartbeats 4000000 in
set_option maxRecDepth 1000000 in
theorem slow_4 (w : World) (b o n cap : Nat) (x0 x1 x2 x3 : Nat) (hT : U8 w) (h0 : 0 < n) (hle : n ≤ cap) (hcap : cap ≤ maxLen) (hb : b < w.heap.size) (l0 : x0 < 256) (l1 : x1 < 256) (l2 : x2 < 256) (l3 : x3 < 256)
    (c0 : ∀ w', Below w.heap.size w w' → w'.cell? ⟨b, o, none⟩ = some (.int .u8 (x0 : Int))) (c1 : 1 < n → ∀ w', Below w.heap.size w w' → w'.cell? ⟨b, o + 1, none⟩ = some (.int .u8 (x1 : Int)))
    (c2 : 2 < n → ∀ w', Below w.heap.size w w' → w'.cell? ⟨b, o + 2, none⟩ = some (.int .u8 (x2 : Int))) (c3 : 3 < n → ∀ w', Below w.heap.size w w' → w'.cell? ⟨b, o + 3, none⟩ = some (.int .u8 (x3 : Int))) (hX : firstT x0 = 4) :
    Calls Tryd.prog 33 #[.slice (some ⟨b, o, none⟩) n cap] w fun e w' => e = .returned (.tuple #[.int .i32 (decodeN n x0 x1 x2 x3).1, .int .i64 (decodeN n x0 x1 x2 x3).2]) ∧ Below w.heap.size w w' := by
  have hres : decodeN n x0 x1 x2 x3 = slowN n x0 x1 x2 x3 (firstT x0 % 8) (accLo (firstT x0 / 16)) (accHi (firstT x0 / 16)) := (slow_eq _ _ _ _ _ (by omega) l1 l2 l3 (by omega)).symm
  have hc0 := hT.1 x0 l0
  rw [hX] at hc0 hres
  have ha0 := (hT.2 0 (by omega)).1
  have ha1 := (hT.2 0 (by omega)).2
  simp only [accLo, accHi, Nat.reduceMul, Nat.reduceAdd, Nat.reduceEqDiff, if_true, if_false, Nat.reduceMod, Nat.reduceDiv] at ha0 ha1 hres
  rw [hres]
  have hx0 := c0 w (Below.refl _ _)
  clear hres hT hX
  have hnz' : ¬ ((n : Int) < 1) := by omega
  have hA : ∀ o', Below w.heap.size w (w.alloc o') := fun o' => (Below.refl _ _).alloc (Nat.le_refl _) _
  by_cases hn : n < 4
  · have hnz : (n : Int) < 4 := by omega
    clear c0 c1 c2 c3 hA
    go_enter Tryd.func33, Tryd.ntmps33
    go_wp2
    all_goals (go_ret2; refine ⟨?_, (Below.refl _ _).alloc (Nat.le_refl _) _⟩; utf8_leaf)
  · have hnz : ¬ ((n : Int) < 4) := by omega
    have hx1 := fun o' => c1 (by omega) (w.alloc o') (hA o')
    have hz1 : (1 : Int) < (n : Int) := by omega
    have hx2 := fun o' => c2 (by omega) (w.alloc o') (hA o')
    have hz2 : (2 : Int) < (n : Int) := by omega
    have hx3 := fun o' => c3 (by omega) (w.alloc o') (hA o')
    have hz3 : (3 : Int) < (n : Int) := by omega
    clear c0 c1 c2 c3 hA
    go_enter Tryd.func33, Tryd.ntmps33
    go_wp2
    all_goals (go_ret2; refine ⟨?_, (Below.refl _ _).alloc (Nat.le_refl _) _⟩; utf8_leaf)
set_option maxHeartbeats 4000000 in
set_option maxRecDepth 1000000 in
theorem slow_68 (w : World) (b o n cap : Nat) (x0 x1 x2 x3 : Nat) (hT : U8 w) (h0 : 0 < n) (hle : n ≤ cap) (hcap : cap ≤ maxLen) (hb : b < w.heap.size) (l0 : x0 < 256) (l1 : x1 < 256) (l2 : x2 < 256) (l3 : x3 < 256)
    (c0 : ∀ w', Below w.heap.size w w' → w'.cell? ⟨b, o, none⟩ = some (.int .u8 (x0 : Int))) (c1 : 1 < n → ∀ w', Below w.heap.size w w' → w'.cell? ⟨b, o + 1, none⟩ = some (.int .u8 (x1 : Int)))
    (c2 : 2 < n → ∀ w', Below w.heap.size w w' → w'.cell? ⟨b, o + 2, none⟩ = some (.int .u8 (x2 : Int))) (c3 : 3 < n → ∀ w', Below w.heap.size w w' → w'.cell? ⟨b, o + 3, none⟩ = some (.int .u8 (x3 : Int))) (hX : firstT x0 = 68) :
    Calls Tryd.prog 33 #[.slice (some ⟨b, o, none⟩) n cap] w fun e w' => e = .returned (.tuple #[.int .i32 (decodeN n x0 x1 x2 x3).1, .int .i64 (decodeN n x0 x1 x2 x3).2]) ∧ Below w.heap.size w w' := by
  have hres : decodeN n x0 x1 x2 x3 = slowN n x0 x1 x2 x3 (firstT x0 % 8) (accLo (firstT x0 / 16)) (accHi (firstT x0 / 16)) := (slow_eq _ _ _ _ _ (by omega) l1 l2 l3 (by omega)).symm
  have hc0 := hT.1 x0 l0
  rw [hX] at hc0 hres
  have ha0 := (hT.2 4 (by omega)).1
  have ha1 := (hT.2 4 (by omega)).2
  simp only [accLo, accHi, Nat.reduceMul, Nat.reduceAdd, Nat.reduceEqDiff, if_true, if_false, Nat.reduceMod, Nat.reduceDiv] at ha0 ha1 hres
  rw [hres]
  have hx0 := c0 w (Below.refl _ _)
  clear hres hT hX
  have hnz' : ¬ ((n : Int) < 1) := by omega
  have hA : ∀ o', Below w.heap.size w (w.alloc o') := fun o' => (Below.refl _ _).alloc (Nat.le_refl _) _
  by_cases hn : n < 4
  · have hnz : (n : Int) < 4 := by omega
    clear c0 c1 c2 c3 hA
    go_enter Tryd.func33, Tryd.ntmps33
    go_wp2
    all_goals (go_ret2; refine ⟨?_, (Below.refl _ _).alloc (Nat.le_refl _) _⟩; utf8_leaf)
  · have hnz : ¬ ((n : Int) < 4) := by omega
    have hx1 := fun o' => c1 (by omega) (w.alloc o') (hA o')
    have hz1 : (1 : Int) < (n : Int) := by omega
    have hx2 := fun o' => c2 (by omega) (w.alloc o') (hA o')
    have hz2 : (2 : Int) < (n : Int) := by omega
    have hx3 := fun o' => c3 (by omega) (w.alloc o') (hA o')
    have hz3 : (3 : Int) < (n : Int) := by omega
    clear c0 c1 c2 c3 hA
    go_enter Tryd.func33, Tryd.ntmps33
    go_wp2
    all_goals (go_ret2; refine ⟨?_, (Below.refl _ _).alloc (Nat.le_refl _) _⟩; utf8_leaf)
end Go.Proofs.YtbbfifaojepjiaaDoor
