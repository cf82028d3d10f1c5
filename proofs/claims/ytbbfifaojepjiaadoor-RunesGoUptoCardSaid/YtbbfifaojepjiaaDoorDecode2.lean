/- unicode/utf8's DecodeRune and FullRune over any bytes. -/
import Derived.Test.YtbbfifaojepjiaaDoorDecode
set_option linter.unusedVariables false
namespace Gim
open Go Go.Lib
theorem decN_low {n b0 b1 b2 b3 : Nat} (h : b0 < 128) : decodeN n b0 b1 b2 b3 = (b0, 1) := by simp [decodeN, h]
end Gim
namespace Go.Proofs.YtbbfifaojepjiaaDoor
open Go.RowKit Go.Lib Gim
set_option maxHeartbeats 1000000 in
set_option maxRecDepth 1000000 in
theorem slow_240 (w : World) (b o n cap : Nat) (x0 x1 x2 x3 : Nat) (hT : U8 w) (h0 : 0 < n) (l0 : x0 < 256)
    (c0 : w.cell? ⟨b, o, none⟩ = some (.int .u8 (x0 : Int))) (hX : firstT x0 = 240) :
    Calls Tryd.prog 33 #[.slice (some ⟨b, o, none⟩) n cap] w fun e w' => e = .returned (.tuple #[.int .i32 (decodeN n x0 x1 x2 x3).1, .int .i64 (decodeN n x0 x1 x2 x3).2]) ∧ Below w.heap.size w w' := by
  have hc0 := hT.1 x0 l0
  rw [ascii_eq _ _ _ _ _ hX]
  rw [hX] at hc0
  have hnz' : ¬ ((n : Int) < 1) := by omega
  clear hT hX
  go_enter Tryd.func33, Tryd.ntmps33
  go_wp2
  rw [Utf8W.mask240, Utf8W.keep_byte ⟨x0, l0⟩]
  go_ret2
  exact ⟨rfl, Below.refl _ _⟩
set_option maxHeartbeats 1000000 in
set_option maxRecDepth 1000000 in
theorem slow_241 (w : World) (b o n cap : Nat) (x0 x1 x2 x3 : Nat) (hT : U8 w) (h0 : 0 < n) (l0 : x0 < 256)
    (c0 : w.cell? ⟨b, o, none⟩ = some (.int .u8 (x0 : Int))) (hX : firstT x0 = 241) :
    Calls Tryd.prog 33 #[.slice (some ⟨b, o, none⟩) n cap] w fun e w' => e = .returned (.tuple #[.int .i32 (decodeN n x0 x1 x2 x3).1, .int .i64 (decodeN n x0 x1 x2 x3).2]) ∧ Below w.heap.size w w' := by
  have hc0 := hT.1 x0 l0
  rw [bad_eq _ _ _ _ _ l0 hX]
  rw [hX] at hc0
  have hnz' : ¬ ((n : Int) < 1) := by omega
  clear hT hX
  go_enter Tryd.func33, Tryd.ntmps33
  go_wp2
  rw [Utf8W.mask241, Utf8W.drop_byte ⟨x0, l0⟩]
  go_ret2
  exact ⟨rfl, Below.refl _ _⟩
/-- what of four bytes stands in memory -/
theorem Rb.four {w : World} {ao : Option Addr} {n cap : Nat} {xs : List Int} (h : Rb w ao n cap xs) (h0 : 0 < n) : ∃ b o x0 x1 x2 x3 : Nat, ao = some ⟨b, o, none⟩ ∧ b < w.heap.size ∧ x0 < 256 ∧ x1 < 256 ∧ x2 < 256 ∧ x3 < 256 ∧
    (∀ w', Below w.heap.size w w' → w'.cell? ⟨b, o, none⟩ = some (.int .u8 (x0 : Int))) ∧ (1 < n → ∀ w', Below w.heap.size w w' → w'.cell? ⟨b, o + 1, none⟩ = some (.int .u8 (x1 : Int))) ∧
    (2 < n → ∀ w', Below w.heap.size w w' → w'.cell? ⟨b, o + 2, none⟩ = some (.int .u8 (x2 : Int))) ∧ (3 < n → ∀ w', Below w.heap.size w w' → w'.cell? ⟨b, o + 3, none⟩ = some (.int .u8 (x3 : Int))) ∧
    decB xs = decodeN n x0 x1 x2 x3 ∧ fullB xs = fullN n x0 x1 x2 := by
  obtain ⟨b, o, e, hb, hc⟩ := h.at_ h0
  have hl := h.rd.len
  have hbn : ∀ j, bn xs j < 256 := fun j => by
    rcases Nat.lt_or_ge j n with hj | hj
    · exact (hc j hj).1
    · have : gt xs j = 0 := by unfold gt; rw [List.getElem?_eq_none (by omega)]; rfl
      unfold bn; rw [this]; decide
  exact ⟨b, o, bn xs 0, bn xs 1, bn xs 2, bn xs 3, e, hb, hbn 0, hbn 1, hbn 2, hbn 3, (hc 0 h0).2, fun h1 => (hc 1 h1).2, fun h1 => (hc 2 h1).2, fun h1 => (hc 3 h1).2,
    by rw [decB, if_neg (by omega), hl], by rw [fullB, if_neg (by omega), hl]⟩
theorem slow_calls (w : World) (ao : Option Addr) (n cap : Nat) (xs : List Int) (h : Rb w ao n cap xs) (hT : U8 w) :
    Calls Tryd.prog 33 #[.slice ao n cap] w fun e w' => e = .returned (.tuple #[.int .i32 (decB xs).1, .int .i64 (decB xs).2]) ∧ Below w.heap.size w w' := by
  have hle := h.rd.le
  have hcap := h.rd.cap_le
  rcases Nat.eq_zero_or_pos n with rfl | h0
  · have HD := Lib.hid (show decB xs = (65533, 0) by rw [decB, if_pos h.rd.len])
    clear hT
    go_enter Tryd.func33, Tryd.ntmps33
    go_wp2
    go_ret2
    exact ⟨by rw [HD.out]; rfl, Below.refl _ _⟩
  · obtain ⟨b, o, x0, x1, x2, x3, rfl, hb, l0, l1, l2, l3, c0, c1, c2, c3, hd, _⟩ := h.four h0
    rw [hd]
    rcases firstT_cases x0 with hX | hX | hX | hX | hX | hX | hX | hX | hX
    · exact slow_240 w b o n cap x0 x1 x2 x3 hT h0 l0 (c0 w (Below.refl _ _)) hX
    · exact slow_241 w b o n cap x0 x1 x2 x3 hT h0 l0 (c0 w (Below.refl _ _)) hX
    · exact slow_2 w b o n cap x0 x1 x2 x3 hT h0 hle hcap hb l0 l1 l2 l3 c0 c1 c2 c3 hX
    · exact slow_19 w b o n cap x0 x1 x2 x3 hT h0 hle hcap hb l0 l1 l2 l3 c0 c1 c2 c3 hX
    · exact slow_3 w b o n cap x0 x1 x2 x3 hT h0 hle hcap hb l0 l1 l2 l3 c0 c1 c2 c3 hX
    · exact slow_35 w b o n cap x0 x1 x2 x3 hT h0 hle hcap hb l0 l1 l2 l3 c0 c1 c2 c3 hX
    · exact slow_52 w b o n cap x0 x1 x2 x3 hT h0 hle hcap hb l0 l1 l2 l3 c0 c1 c2 c3 hX
    · exact slow_4 w b o n cap x0 x1 x2 x3 hT h0 hle hcap hb l0 l1 l2 l3 c0 c1 c2 c3 hX
    · exact slow_68 w b o n cap x0 x1 x2 x3 hT h0 hle hcap hb l0 l1 l2 l3 c0 c1 c2 c3 hX
-- unicode/utf8.DecodeRune
set_option maxHeartbeats 1000000 in
set_option maxRecDepth 1000000 in
theorem decode_calls (w : World) (ao : Option Addr) (n cap : Nat) (xs : List Int) (h : Rb w ao n cap xs) (hT : U8 w) :
    Calls Tryd.prog 26 #[.slice ao n cap] w fun e w' => e = .returned (.tuple #[.int .i32 (decB xs).1, .int .i64 (decB xs).2]) ∧ Below w.heap.size w w' := by
  have cS := slow_calls w ao n cap xs h hT
  have hle := h.rd.le
  have hcap := h.rd.cap_le
  rcases Nat.eq_zero_or_pos n with rfl | h0
  · obtain ⟨R, hR⟩ : ∃ R, R = decB xs := ⟨_, rfl⟩
    rw [← hR] at cS ⊢
    clear hR
    go_enter Tryd.func26, Tryd.ntmps26
    go_wp2
    go_loopw [8] (fun i wr => i = .int .i64 0 ∧ wr = w) (fun _ _ => 0)
    case atStart => exact ⟨rfl, rfl⟩
    case round =>
      obtain ⟨rfl, rfl⟩ := hrel
      go_wp2_with fail
      refine cS.mono ?_
      rintro e w1 ⟨rfl, hb1⟩
      go_wp2
      go_ret2
      exact ⟨rfl, hb1⟩
  · obtain ⟨b, o, x0, x1, x2, x3, rfl, hb, l0, l1, l2, l3, c0, c1, c2, c3, hd, _⟩ := h.four h0
    have hx0 := c0 w (Below.refl _ _)
    by_cases h128 : x0 < 128
    · have HD := Lib.hid hd
      clear c0 c1 c2 c3 hd cS
      go_enter Tryd.func26, Tryd.ntmps26
      go_wp2
      go_loopw [8] (fun i wr => i = .int .i64 0 ∧ wr = w) (fun _ _ => 0)
      case atStart => exact ⟨rfl, rfl⟩
      case round =>
        obtain ⟨rfl, rfl⟩ := hrel
        go_wp2
        go_ret2
        exact ⟨by rw [HD.out, decN_low h128]; rfl, Below.refl _ _⟩
    · obtain ⟨R, hR⟩ : ∃ R, R = decB xs := ⟨_, rfl⟩
      rw [← hR] at cS ⊢
      clear c0 c1 c2 c3 hd hR
      go_enter Tryd.func26, Tryd.ntmps26
      go_wp2
      go_loopw [8] (fun i wr => i = .int .i64 0 ∧ wr = w) (fun _ _ => 0)
      case atStart => exact ⟨rfl, rfl⟩
      case round =>
        obtain ⟨rfl, rfl⟩ := hrel
        go_wp2_with fail
        refine cS.mono ?_
        rintro e w1 ⟨rfl, hb1⟩
        go_wp2
        go_ret2
        exact ⟨rfl, hb1⟩
end Go.Proofs.YtbbfifaojepjiaaDoor
