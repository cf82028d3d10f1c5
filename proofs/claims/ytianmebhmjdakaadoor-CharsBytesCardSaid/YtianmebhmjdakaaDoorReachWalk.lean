/- The walk of chars.reach. Printed by mkreach.py. -/
import Derived.Test.YtianmebhmjdakaaDoorReachLaw
namespace Go.Proofs.YtianmebhmjdakaaDoor
open Go.RowKit Gim
/-- what a call of reach hands back -/
def Reached (xs : List Int) (w : World) (e : Ending) (w' : World) : Prop :=
  ∃ a b ok, e = .returned (.tuple #[.int .i32 a, .int .i32 b, .bool ok]) ∧ Meets (spanL xs) a b ok ∧ Below w.heap.size w w'
set_option maxHeartbeats 4000000 in
theorem reach_c1 (w : World) (ao : Option Addr) (n cap : Nat) (xs : List Int) (h : Rd w .u8 ao n cap xs) (_hby : ∀ j, j < n → 0 ≤ gt xs j ∧ gt xs j ≤ 255) (x : Int) (hx : gt xs 0 = x) (h1 : 1 ≤ n) (h4 : n ≤ 4) (hx0 : 0 ≤ x) (hx1 : x < 128) :
    Calls Tryd.prog 32 #[.slice ao n cap] w (Reached xs w) := by
  obtain ⟨b0, o0, rfl, hb0, hc0⟩ := h.cell 0 (by omega)
  have hz : w.cell? ⟨b0, o0, none⟩ = some (.int .u8 x) := by rw [← hx]; exact hc0 0 (by omega)
  have he : ((n : Int) == 0) = false := by simp; omega
  have he2 : (n : Int) ≠ 0 := by omega
  have hle := h.le
  have hcl := h.cap_le
  have HL := Lib.hid h.len
  have HW := Lib.hid (wid1 hx1)
  have HS := Lib.hid (spanL_head HL.out hx h1 h4)
  rw [HW.out.1] at HS
  clear hx
  go_enter Tryd.func32, Tryd.ntmps32
  by_cases hN : 1 < n
  · have HF := Lib.hid (HS.out.trans (if_pos hN))
    clear HS
    go_wp2
    go_ret3
    exact ⟨_, _, _, rfl, .inr ⟨rfl, by rw [HF.out]; decide⟩, Below.refl _ _⟩
  have HF := Lib.hid (HS.out.trans (if_neg hN))
  clear HS
  go_wp2
  go_loopw [2, 3, 8] (fun lo hi i wr => ∃ (k : Nat) (a b : Int), k ≤ 1 - 1 ∧ i = .int .i64 ((k : Int) + 1) ∧ lo = .int .i32 a ∧ hi = .int .i32 b ∧ 0 ≤ a ∧ a ≤ b ∧ b < bd k ∧ Hid (goR (1 - 1 - k) ((xs.drop 1).drop k) a b = goR (1 - 1) (xs.drop 1) x x) ∧ Below w.heap.size w wr) (fun _ _ i _ => 1 + 1 - (intOf i).toNat)
  case atStart => exact ⟨0, _, _, by omega, rfl, rfl, rfl, by omega, by omega, by show _ < (128 : Int); omega, Lib.hid rfl, Below.refl _ _⟩
  case round =>
    clear hz
    obtain ⟨k, a, b, hk, rfl, rfl, rfl, ha0, hab, hb1, H, hb⟩ := hrel
    obtain rfl : k = 0 := by omega
    clear hc0
    have st := H.out
    rw [Nat.sub_self, goR] at st
    have HR := Lib.hid (meets_some (x := x) HF.out HL.out h1 (by omega) (by rw [HW.out.2.1]; exact st.symm))
    rw [HW.out.2.2] at HR
    clear st H HF
    by_cases u1 : a ≤ 0
    all_goals by_cases u2 : b ≤ 1114111
    all_goals
      have u3 : a ≤ 0 ∨ 0 ≤ a := by omega
      have u4 : b ≤ 1114111 ∨ 1114111 ≤ b := by omega
      have HQ := HR.out
      first | rw [if_pos u1, if_pos u2] at HQ | rw [if_pos u1, if_neg u2] at HQ | rw [if_neg u1, if_pos u2] at HQ | rw [if_neg u1, if_neg u2] at HQ
      replace HQ := Lib.hid HQ
      clear HR
      go_wp2
      all_goals go_ret3
      all_goals exact ⟨_, _, _, rfl, .inl ⟨rfl, by first | exact HQ.out | (have e1 : a = 0 := (by omega); subst e1; exact HQ.out) | (have e2 : b = 1114111 := (by omega); subst e2; exact HQ.out) | (have e1 : a = 0 := (by omega); have e2 : b = 1114111 := (by omega); subst e1; subst e2; exact HQ.out)⟩, hb⟩
set_option maxHeartbeats 4000000 in
theorem reach_c2 (w : World) (ao : Option Addr) (n cap : Nat) (xs : List Int) (h : Rd w .u8 ao n cap xs) (hby : ∀ j, j < n → 0 ≤ gt xs j ∧ gt xs j ≤ 255) (x : Int) (hx : gt xs 0 = x) (h1 : 1 ≤ n) (h4 : n ≤ 4) (hx0 : 194 ≤ x) (hx1 : x < 224) :
    Calls Tryd.prog 32 #[.slice ao n cap] w (Reached xs w) := by
  obtain ⟨b0, o0, rfl, hb0, hc0⟩ := h.cell 0 (by omega)
  have hz : w.cell? ⟨b0, o0, none⟩ = some (.int .u8 x) := by rw [← hx]; exact hc0 0 (by omega)
  have he : ((n : Int) == 0) = false := by simp; omega
  have he2 : (n : Int) ≠ 0 := by omega
  have hle := h.le
  have hcl := h.cap_le
  have HL := Lib.hid h.len
  have HW := Lib.hid (wid2 ⟨by omega, hx1⟩)
  have HS := Lib.hid (spanL_head HL.out hx h1 h4)
  rw [HW.out.1] at HS
  clear hx
  have hm : bits .and .u8 x 31 = x - 192 := by rw [u8_and31 _ (by omega) (by omega)]; omega
  go_enter Tryd.func32, Tryd.ntmps32
  by_cases hN : 2 < n
  · have HF := Lib.hid (HS.out.trans (if_pos hN))
    clear HS
    go_wp2
    go_ret3
    exact ⟨_, _, _, rfl, .inr ⟨rfl, by rw [HF.out]; decide⟩, Below.refl _ _⟩
  have HF := Lib.hid (HS.out.trans (if_neg hN))
  clear HS
  go_wp2
  go_loopw [2, 3, 8] (fun lo hi i wr => ∃ (k : Nat) (a b : Int), k ≤ 2 - 1 ∧ i = .int .i64 ((k : Int) + 1) ∧ lo = .int .i32 a ∧ hi = .int .i32 b ∧ 0 ≤ a ∧ a ≤ b ∧ b < bd k ∧ Hid (goR (2 - 1 - k) ((xs.drop 1).drop k) a b = goR (2 - 1) (xs.drop 1) (x - 192) (x - 192)) ∧ Below w.heap.size w wr) (fun _ _ i _ => 2 + 1 - (intOf i).toNat)
  case atStart => exact ⟨0, _, _, by omega, rfl, rfl, rfl, by omega, by omega, by show _ < (128 : Int); omega, Lib.hid rfl, Below.refl _ _⟩
  case round =>
    clear hz
    obtain ⟨k, a, b, hk, rfl, rfl, rfl, ha0, hab, hb1, H, hb⟩ := hrel
    by_cases hkW : k < 2 - 1
    · have hkW' : (k : Int) + 1 < 2 := by omega
      have hbd := bd_le (q := k) (by omega)
      have hbd2 := bd_le (q := k + 1) (by omega)
      have hbs := bd_succ k
      have e1 : bits .or .i32 (b * 64) 63 = b * 64 + 63 := i32_or6 _ _ (by omega) (by omega) (by omega) (by omega) (by omega)
      by_cases hkn : k + 1 < n
      · have hkn' : (k : Int) + 1 < n := by omega
        have hy : wr.cell? ⟨b0, o0 + (k + 1), none⟩ = some (.int .u8 (gt xs (k + 1))) := (hb.cell (p := ⟨b0, o0 + (k + 1), none⟩) hb0).trans (hc0 (k + 1) hkn)
        have hyb := hby (k + 1) hkn
        have st := H.out
        rw [tail_at HL.out hkn, show 2 - 1 - k = (2 - 1 - (k + 1)) + 1 from by omega, goR] at st
        obtain ⟨y, hyy⟩ : ∃ y, y = gt xs (k + 1) := ⟨_, rfl⟩
        rw [← hyy] at hy hyb st
        clear hyy hc0
        have e2 := u8_and192 hyb.1 hyb.2
        by_cases hbad : y < 128 ∨ 191 < y
        · have HE := Lib.hid (meets_none (x := x) HF.out HL.out h1 (by omega) (by rw [HW.out.2.1, ← st, if_pos hbad]))
          have e3 : (y / 64 * 64 != 128) = true := by simp; omega
          have e4 : (y / 64 * 64 == 128) = false := by simp; omega
          have e5 : ¬ y / 64 * 64 = 128 := by omega
          clear st H
          go_wp2
          go_ret3
          exact ⟨_, _, _, rfl, .inr ⟨rfl, HE.out⟩, hb⟩
        · rw [show y / 64 * 64 = 128 from by omega] at e2
          have e3 : bits .and .u8 y 63 = y - 128 := by rw [u8_and63 _ hyb.1 (by omega)]; omega
          have e4 : bits .or .i32 (a * 64) (y - 128) = a * 64 + (y - 128) := i32_or6 _ _ (by omega) (by omega) (by omega) (by omega) (by omega)
          have e5 : bits .andNot .i32 (b * 64 + 63) 63 = b * 64 := by rw [i32_andNot63 (by omega) (by omega) (by omega)]; omega
          have e6 : bits .or .i32 (b * 64) (y - 128) = b * 64 + (y - 128) := i32_or6 _ _ (by omega) (by omega) (by omega) (by omega) (by omega)
          have HE := Lib.hid (if_neg hbad ▸ st)
          have hlt := bd_step (q := k) (g := b) (y := y - 128) hb1 (by omega)
          clear st H
          go_wp2
          go_roundw
          case rel => exact ⟨k + 1, a * 64 + (y - 128), b * 64 + (y - 128), by omega, by go_num, by go_num, by go_num, by omega, by omega, hlt, HE, hb⟩
          case measure => simp [intOf]; omega
      · have hkn' : ¬ ((k : Int) + 1 < n) := by omega
        have st := H.out
        rw [tail_end HL.out (by omega), show 2 - 1 - k = (2 - 1 - (k + 1)) + 1 from by omega, goR] at st
        have HE := Lib.hid (show goR (2 - 1 - (k + 1)) ((xs.drop 1).drop (k + 1)) (a * 64) (b * 64 + 63) = goR (2 - 1) (xs.drop 1) (x - 192) (x - 192) by rw [tail_end HL.out (by omega)]; exact st)
        have hlt := bd_step (q := k) (g := b) (y := 63) hb1 (by omega)
        clear st H hc0
        go_wp2
        go_roundw
        case rel => exact ⟨k + 1, a * 64, b * 64 + 63, by omega, by go_num, by go_num, by go_num, by omega, by omega, hlt, HE, hb⟩
        case measure => simp [intOf]; omega
    · obtain rfl : k = 2 - 1 := by omega
      clear hc0
      have st := H.out
      rw [Nat.sub_self, goR] at st
      have HR := Lib.hid (meets_some (x := x) HF.out HL.out h1 (by omega) (by rw [HW.out.2.1]; exact st.symm))
      rw [HW.out.2.2] at HR
      clear st H HF
      by_cases u1 : a ≤ 128
      all_goals by_cases u2 : b ≤ 1114111
      all_goals
        have u3 : a ≤ 128 ∨ 128 ≤ a := by omega
        have u4 : b ≤ 1114111 ∨ 1114111 ≤ b := by omega
        have HQ := HR.out
        first | rw [if_pos u1, if_pos u2] at HQ | rw [if_pos u1, if_neg u2] at HQ | rw [if_neg u1, if_pos u2] at HQ | rw [if_neg u1, if_neg u2] at HQ
        replace HQ := Lib.hid HQ
        clear HR
        go_wp2
        all_goals go_ret3
        all_goals exact ⟨_, _, _, rfl, .inl ⟨rfl, by first | exact HQ.out | (have e1 : a = 128 := (by omega); subst e1; exact HQ.out) | (have e2 : b = 1114111 := (by omega); subst e2; exact HQ.out) | (have e1 : a = 128 := (by omega); have e2 : b = 1114111 := (by omega); subst e1; subst e2; exact HQ.out)⟩, hb⟩
set_option maxHeartbeats 4000000 in
theorem reach_c3 (w : World) (ao : Option Addr) (n cap : Nat) (xs : List Int) (h : Rd w .u8 ao n cap xs) (hby : ∀ j, j < n → 0 ≤ gt xs j ∧ gt xs j ≤ 255) (x : Int) (hx : gt xs 0 = x) (h1 : 1 ≤ n) (h4 : n ≤ 4) (hx0 : 224 ≤ x) (hx1 : x < 240) :
    Calls Tryd.prog 32 #[.slice ao n cap] w (Reached xs w) := by
  obtain ⟨b0, o0, rfl, hb0, hc0⟩ := h.cell 0 (by omega)
  have hz : w.cell? ⟨b0, o0, none⟩ = some (.int .u8 x) := by rw [← hx]; exact hc0 0 (by omega)
  have he : ((n : Int) == 0) = false := by simp; omega
  have he2 : (n : Int) ≠ 0 := by omega
  have hle := h.le
  have hcl := h.cap_le
  have HL := Lib.hid h.len
  have HW := Lib.hid (wid3 ⟨hx0, hx1⟩)
  have HS := Lib.hid (spanL_head HL.out hx h1 h4)
  rw [HW.out.1] at HS
  clear hx
  have hm : bits .and .u8 x 15 = x - 224 := by rw [u8_and15 _ (by omega) (by omega)]; omega
  go_enter Tryd.func32, Tryd.ntmps32
  by_cases hN : 3 < n
  · have HF := Lib.hid (HS.out.trans (if_pos hN))
    clear HS
    go_wp2
    go_ret3
    exact ⟨_, _, _, rfl, .inr ⟨rfl, by rw [HF.out]; decide⟩, Below.refl _ _⟩
  have HF := Lib.hid (HS.out.trans (if_neg hN))
  clear HS
  go_wp2
  go_loopw [2, 3, 8] (fun lo hi i wr => ∃ (k : Nat) (a b : Int), k ≤ 3 - 1 ∧ i = .int .i64 ((k : Int) + 1) ∧ lo = .int .i32 a ∧ hi = .int .i32 b ∧ 0 ≤ a ∧ a ≤ b ∧ b < bd k ∧ Hid (goR (3 - 1 - k) ((xs.drop 1).drop k) a b = goR (3 - 1) (xs.drop 1) (x - 224) (x - 224)) ∧ Below w.heap.size w wr) (fun _ _ i _ => 3 + 1 - (intOf i).toNat)
  case atStart => exact ⟨0, _, _, by omega, rfl, rfl, rfl, by omega, by omega, by show _ < (128 : Int); omega, Lib.hid rfl, Below.refl _ _⟩
  case round =>
    clear hz
    obtain ⟨k, a, b, hk, rfl, rfl, rfl, ha0, hab, hb1, H, hb⟩ := hrel
    by_cases hkW : k < 3 - 1
    · have hkW' : (k : Int) + 1 < 3 := by omega
      have hbd := bd_le (q := k) (by omega)
      have hbd2 := bd_le (q := k + 1) (by omega)
      have hbs := bd_succ k
      have e1 : bits .or .i32 (b * 64) 63 = b * 64 + 63 := i32_or6 _ _ (by omega) (by omega) (by omega) (by omega) (by omega)
      by_cases hkn : k + 1 < n
      · have hkn' : (k : Int) + 1 < n := by omega
        have hy : wr.cell? ⟨b0, o0 + (k + 1), none⟩ = some (.int .u8 (gt xs (k + 1))) := (hb.cell (p := ⟨b0, o0 + (k + 1), none⟩) hb0).trans (hc0 (k + 1) hkn)
        have hyb := hby (k + 1) hkn
        have st := H.out
        rw [tail_at HL.out hkn, show 3 - 1 - k = (3 - 1 - (k + 1)) + 1 from by omega, goR] at st
        obtain ⟨y, hyy⟩ : ∃ y, y = gt xs (k + 1) := ⟨_, rfl⟩
        rw [← hyy] at hy hyb st
        clear hyy hc0
        have e2 := u8_and192 hyb.1 hyb.2
        by_cases hbad : y < 128 ∨ 191 < y
        · have HE := Lib.hid (meets_none (x := x) HF.out HL.out h1 (by omega) (by rw [HW.out.2.1, ← st, if_pos hbad]))
          have e3 : (y / 64 * 64 != 128) = true := by simp; omega
          have e4 : (y / 64 * 64 == 128) = false := by simp; omega
          have e5 : ¬ y / 64 * 64 = 128 := by omega
          clear st H
          go_wp2
          go_ret3
          exact ⟨_, _, _, rfl, .inr ⟨rfl, HE.out⟩, hb⟩
        · rw [show y / 64 * 64 = 128 from by omega] at e2
          have e3 : bits .and .u8 y 63 = y - 128 := by rw [u8_and63 _ hyb.1 (by omega)]; omega
          have e4 : bits .or .i32 (a * 64) (y - 128) = a * 64 + (y - 128) := i32_or6 _ _ (by omega) (by omega) (by omega) (by omega) (by omega)
          have e5 : bits .andNot .i32 (b * 64 + 63) 63 = b * 64 := by rw [i32_andNot63 (by omega) (by omega) (by omega)]; omega
          have e6 : bits .or .i32 (b * 64) (y - 128) = b * 64 + (y - 128) := i32_or6 _ _ (by omega) (by omega) (by omega) (by omega) (by omega)
          have HE := Lib.hid (if_neg hbad ▸ st)
          have hlt := bd_step (q := k) (g := b) (y := y - 128) hb1 (by omega)
          clear st H
          go_wp2
          go_roundw
          case rel => exact ⟨k + 1, a * 64 + (y - 128), b * 64 + (y - 128), by omega, by go_num, by go_num, by go_num, by omega, by omega, hlt, HE, hb⟩
          case measure => simp [intOf]; omega
      · have hkn' : ¬ ((k : Int) + 1 < n) := by omega
        have st := H.out
        rw [tail_end HL.out (by omega), show 3 - 1 - k = (3 - 1 - (k + 1)) + 1 from by omega, goR] at st
        have HE := Lib.hid (show goR (3 - 1 - (k + 1)) ((xs.drop 1).drop (k + 1)) (a * 64) (b * 64 + 63) = goR (3 - 1) (xs.drop 1) (x - 224) (x - 224) by rw [tail_end HL.out (by omega)]; exact st)
        have hlt := bd_step (q := k) (g := b) (y := 63) hb1 (by omega)
        clear st H hc0
        go_wp2
        go_roundw
        case rel => exact ⟨k + 1, a * 64, b * 64 + 63, by omega, by go_num, by go_num, by go_num, by omega, by omega, hlt, HE, hb⟩
        case measure => simp [intOf]; omega
    · obtain rfl : k = 3 - 1 := by omega
      clear hc0
      have st := H.out
      rw [Nat.sub_self, goR] at st
      have HR := Lib.hid (meets_some (x := x) HF.out HL.out h1 (by omega) (by rw [HW.out.2.1]; exact st.symm))
      rw [HW.out.2.2] at HR
      clear st H HF
      by_cases u1 : a ≤ 2048
      all_goals by_cases u2 : b ≤ 1114111
      all_goals
        have u3 : a ≤ 2048 ∨ 2048 ≤ a := by omega
        have u4 : b ≤ 1114111 ∨ 1114111 ≤ b := by omega
        have HQ := HR.out
        first | rw [if_pos u1, if_pos u2] at HQ | rw [if_pos u1, if_neg u2] at HQ | rw [if_neg u1, if_pos u2] at HQ | rw [if_neg u1, if_neg u2] at HQ
        replace HQ := Lib.hid HQ
        clear HR
        go_wp2
        all_goals go_ret3
        all_goals exact ⟨_, _, _, rfl, .inl ⟨rfl, by first | exact HQ.out | (have e1 : a = 2048 := (by omega); subst e1; exact HQ.out) | (have e2 : b = 1114111 := (by omega); subst e2; exact HQ.out) | (have e1 : a = 2048 := (by omega); have e2 : b = 1114111 := (by omega); subst e1; subst e2; exact HQ.out)⟩, hb⟩
set_option maxHeartbeats 4000000 in
theorem reach_c4 (w : World) (ao : Option Addr) (n cap : Nat) (xs : List Int) (h : Rd w .u8 ao n cap xs) (hby : ∀ j, j < n → 0 ≤ gt xs j ∧ gt xs j ≤ 255) (x : Int) (hx : gt xs 0 = x) (h1 : 1 ≤ n) (h4 : n ≤ 4) (hx0 : 240 ≤ x) (hx1 : x ≤ 244) :
    Calls Tryd.prog 32 #[.slice ao n cap] w (Reached xs w) := by
  obtain ⟨b0, o0, rfl, hb0, hc0⟩ := h.cell 0 (by omega)
  have hz : w.cell? ⟨b0, o0, none⟩ = some (.int .u8 x) := by rw [← hx]; exact hc0 0 (by omega)
  have he : ((n : Int) == 0) = false := by simp; omega
  have he2 : (n : Int) ≠ 0 := by omega
  have hle := h.le
  have hcl := h.cap_le
  have HL := Lib.hid h.len
  have HW := Lib.hid (wid4 ⟨hx0, by omega⟩)
  have HS := Lib.hid (spanL_head HL.out hx h1 h4)
  rw [HW.out.1] at HS
  clear hx
  have hm : bits .and .u8 x 7 = x - 240 := by rw [u8_and7 _ (by omega) (by omega)]; omega
  go_enter Tryd.func32, Tryd.ntmps32
  by_cases hN : 4 < n
  · exfalso; omega
  have HF := Lib.hid (HS.out.trans (if_neg hN))
  clear HS
  go_wp2
  go_loopw [2, 3, 8] (fun lo hi i wr => ∃ (k : Nat) (a b : Int), k ≤ 4 - 1 ∧ i = .int .i64 ((k : Int) + 1) ∧ lo = .int .i32 a ∧ hi = .int .i32 b ∧ 0 ≤ a ∧ a ≤ b ∧ b < bd k ∧ Hid (goR (4 - 1 - k) ((xs.drop 1).drop k) a b = goR (4 - 1) (xs.drop 1) (x - 240) (x - 240)) ∧ Below w.heap.size w wr) (fun _ _ i _ => 4 + 1 - (intOf i).toNat)
  case atStart => exact ⟨0, _, _, by omega, rfl, rfl, rfl, by omega, by omega, by show _ < (128 : Int); omega, Lib.hid rfl, Below.refl _ _⟩
  case round =>
    clear hz
    obtain ⟨k, a, b, hk, rfl, rfl, rfl, ha0, hab, hb1, H, hb⟩ := hrel
    by_cases hkW : k < 4 - 1
    · have hkW' : (k : Int) + 1 < 4 := by omega
      have hbd := bd_le (q := k) (by omega)
      have hbd2 := bd_le (q := k + 1) (by omega)
      have hbs := bd_succ k
      have e1 : bits .or .i32 (b * 64) 63 = b * 64 + 63 := i32_or6 _ _ (by omega) (by omega) (by omega) (by omega) (by omega)
      by_cases hkn : k + 1 < n
      · have hkn' : (k : Int) + 1 < n := by omega
        have hy : wr.cell? ⟨b0, o0 + (k + 1), none⟩ = some (.int .u8 (gt xs (k + 1))) := (hb.cell (p := ⟨b0, o0 + (k + 1), none⟩) hb0).trans (hc0 (k + 1) hkn)
        have hyb := hby (k + 1) hkn
        have st := H.out
        rw [tail_at HL.out hkn, show 4 - 1 - k = (4 - 1 - (k + 1)) + 1 from by omega, goR] at st
        obtain ⟨y, hyy⟩ : ∃ y, y = gt xs (k + 1) := ⟨_, rfl⟩
        rw [← hyy] at hy hyb st
        clear hyy hc0
        have e2 := u8_and192 hyb.1 hyb.2
        by_cases hbad : y < 128 ∨ 191 < y
        · have HE := Lib.hid (meets_none (x := x) HF.out HL.out h1 (by omega) (by rw [HW.out.2.1, ← st, if_pos hbad]))
          have e3 : (y / 64 * 64 != 128) = true := by simp; omega
          have e4 : (y / 64 * 64 == 128) = false := by simp; omega
          have e5 : ¬ y / 64 * 64 = 128 := by omega
          clear st H
          go_wp2
          go_ret3
          exact ⟨_, _, _, rfl, .inr ⟨rfl, HE.out⟩, hb⟩
        · rw [show y / 64 * 64 = 128 from by omega] at e2
          have e3 : bits .and .u8 y 63 = y - 128 := by rw [u8_and63 _ hyb.1 (by omega)]; omega
          have e4 : bits .or .i32 (a * 64) (y - 128) = a * 64 + (y - 128) := i32_or6 _ _ (by omega) (by omega) (by omega) (by omega) (by omega)
          have e5 : bits .andNot .i32 (b * 64 + 63) 63 = b * 64 := by rw [i32_andNot63 (by omega) (by omega) (by omega)]; omega
          have e6 : bits .or .i32 (b * 64) (y - 128) = b * 64 + (y - 128) := i32_or6 _ _ (by omega) (by omega) (by omega) (by omega) (by omega)
          have HE := Lib.hid (if_neg hbad ▸ st)
          have hlt := bd_step (q := k) (g := b) (y := y - 128) hb1 (by omega)
          clear st H
          go_wp2
          go_roundw
          case rel => exact ⟨k + 1, a * 64 + (y - 128), b * 64 + (y - 128), by omega, by go_num, by go_num, by go_num, by omega, by omega, hlt, HE, hb⟩
          case measure => simp [intOf]; omega
      · have hkn' : ¬ ((k : Int) + 1 < n) := by omega
        have st := H.out
        rw [tail_end HL.out (by omega), show 4 - 1 - k = (4 - 1 - (k + 1)) + 1 from by omega, goR] at st
        have HE := Lib.hid (show goR (4 - 1 - (k + 1)) ((xs.drop 1).drop (k + 1)) (a * 64) (b * 64 + 63) = goR (4 - 1) (xs.drop 1) (x - 240) (x - 240) by rw [tail_end HL.out (by omega)]; exact st)
        have hlt := bd_step (q := k) (g := b) (y := 63) hb1 (by omega)
        clear st H hc0
        go_wp2
        go_roundw
        case rel => exact ⟨k + 1, a * 64, b * 64 + 63, by omega, by go_num, by go_num, by go_num, by omega, by omega, hlt, HE, hb⟩
        case measure => simp [intOf]; omega
    · obtain rfl : k = 4 - 1 := by omega
      clear hc0
      have st := H.out
      rw [Nat.sub_self, goR] at st
      have HR := Lib.hid (meets_some (x := x) HF.out HL.out h1 (by omega) (by rw [HW.out.2.1]; exact st.symm))
      rw [HW.out.2.2] at HR
      clear st H HF
      by_cases u1 : a ≤ 65536
      all_goals by_cases u2 : b ≤ 1114111
      all_goals
        have u3 : a ≤ 65536 ∨ 65536 ≤ a := by omega
        have u4 : b ≤ 1114111 ∨ 1114111 ≤ b := by omega
        have HQ := HR.out
        first | rw [if_pos u1, if_pos u2] at HQ | rw [if_pos u1, if_neg u2] at HQ | rw [if_neg u1, if_pos u2] at HQ | rw [if_neg u1, if_neg u2] at HQ
        replace HQ := Lib.hid HQ
        clear HR
        go_wp2
        all_goals go_ret3
        all_goals exact ⟨_, _, _, rfl, .inl ⟨rfl, by first | exact HQ.out | (have e1 : a = 65536 := (by omega); subst e1; exact HQ.out) | (have e2 : b = 1114111 := (by omega); subst e2; exact HQ.out) | (have e1 : a = 65536 := (by omega); have e2 : b = 1114111 := (by omega); subst e1; subst e2; exact HQ.out)⟩, hb⟩
set_option maxHeartbeats 1000000 in
theorem reach_calls (w : World) (ao : Option Addr) (n cap : Nat) (xs : List Int) (h : Rd w .u8 ao n cap xs) (hby : ∀ j, j < n → 0 ≤ gt xs j ∧ gt xs j ≤ 255) :
    Calls Tryd.prog 32 #[.slice ao n cap] w (Reached xs w) := by
  have hl := h.len
  have hle := h.le
  have hcl := h.cap_le
  unfold maxLen at hcl
  by_cases h0 : n = 0
  · subst h0
    have HE := Lib.hid (show spanL xs = (1, 0) by rw [List.eq_nil_of_length_eq_zero hl]; rfl)
    clear hl
    go_enter Tryd.func32, Tryd.ntmps32
    go_wp2
    go_ret3
    exact ⟨_, _, _, rfl, .inr ⟨rfl, by rw [HE.out]; decide⟩, Below.refl _ _⟩
  by_cases h4 : 4 < n
  · have HE := Lib.hid (show spanL xs = (1, 0) by
      cases xs with
      | nil => rfl
      | cons x t => rw [spanL, if_pos (by simp at hl; omega)])
    have he : ((n : Int) == 0) = false := by simp; omega
    have he2 : (n : Int) ≠ 0 := by omega
    clear hl
    go_enter Tryd.func32, Tryd.ntmps32
    go_wp2
    go_ret3
    exact ⟨_, _, _, rfl, .inr ⟨rfl, by rw [HE.out]; decide⟩, Below.refl _ _⟩
  have hb := hby 0 (by omega)
  by_cases x1 : gt xs 0 < 128
  · exact reach_c1 w ao n cap xs h hby _ rfl (by omega) (by omega) (by omega) x1
  by_cases x2 : 194 ≤ gt xs 0 ∧ gt xs 0 < 224
  · exact reach_c2 w ao n cap xs h hby _ rfl (by omega) (by omega) x2.1 x2.2
  by_cases x3 : 224 ≤ gt xs 0 ∧ gt xs 0 < 240
  · exact reach_c3 w ao n cap xs h hby _ rfl (by omega) (by omega) x3.1 x3.2
  by_cases x4 : 240 ≤ gt xs 0 ∧ gt xs 0 ≤ 244
  · exact reach_c4 w ao n cap xs h hby _ rfl (by omega) (by omega) x4.1 x4.2
  obtain ⟨b0, o0, rfl, hb0, hc0⟩ := h.cell 0 (by omega)
  have HE := Lib.hid (span_low hl rfl (by omega) (by omega) hby (by omega))
  obtain ⟨x, hx⟩ : ∃ x, x = gt xs 0 := ⟨_, rfl⟩
  have hz : w.cell? ⟨b0, o0, none⟩ = some (.int .u8 x) := by rw [hx]; exact hc0 0 (by omega)
  rw [← hx] at hb x1 x2 x3 x4
  have he : ((n : Int) == 0) = false := by simp; omega
  have he2 : (n : Int) ≠ 0 := by omega
  clear hx hc0 hl
  rcases (by omega : x < 194 ∨ 244 < x) with y1 | y1
  · clear x2 x3 x4
    go_enter Tryd.func32, Tryd.ntmps32
    go_wp2
    go_ret3
    exact ⟨_, _, _, rfl, .inr ⟨rfl, HE.out⟩, Below.refl _ _⟩
  · clear x2 x3 x4
    go_enter Tryd.func32, Tryd.ntmps32
    go_wp2
    go_ret3
    exact ⟨_, _, _, rfl, .inr ⟨rfl, HE.out⟩, Below.refl _ _⟩
end Go.Proofs.YtianmebhmjdakaaDoor
