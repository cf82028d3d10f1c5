/- The walk of gimletref02.Span. Printed by mkspan.py. -/
import Derived.Test.YtkhejkfjhddobaaGreatDoorRangeLawM
import Derived.Test.YtkhejkfjhddobaaGreatDoorCrefM
namespace Gim
open Go
def bd (q : Nat) : Int := 128 * 64 ^ q
theorem bd_succ (q : Nat) : bd (q + 1) = bd q * 64 := by unfold bd; rw [Int.pow_succ, Int.mul_assoc]
theorem bd_step {q : Nat} {g y : Int} (h : g < bd q) (hy : y ≤ 63) : g * 64 + y < bd (q + 1) := by rw [bd_succ]; omega
theorem bd_le : ∀ {q : Nat}, q ≤ 3 → bd q ≤ 33554432
  | 0, _ => by decide
  | 1, _ => by decide
  | 2, _ => by decide
  | 3, _ => by decide
  | n + 4, h => by omega
theorem spanL_head {xs : List Int} {x : Int} {n : Nat} (hl : xs.length = n) (hx : gt xs 0 = x) (h1 : 1 ≤ n) (h4 : n ≤ 4) : spanL xs = if wid x < n then (1, 0) else endS x (wid x - n) (contR (xs.drop 1) (fst0 x)) := by
  cases xs with
  | nil => simp at hl; omega
  | cons y t =>
    have : y = x := by simpa [gt] using hx
    subst this
    have ht : t.length + 1 = n := by simpa using hl
    rw [spanL, if_neg (by omega), ht]
    rfl
theorem tail_at {xs : List Int} {n q : Nat} (hl : xs.length = n) (hq : q + 1 < n) : (xs.drop 1).drop q = gt xs (q + 1) :: (xs.drop 1).drop (q + 1) := by
  rw [List.drop_drop, List.drop_drop, List.drop_eq_getElem_cons (by omega)]
  have : (1 + q) = q + 1 := by omega
  simp only [this, gt]
  congr 1
  · rw [List.getElem?_eq_getElem (by omega)]; rfl
  · congr 1; omega
theorem tail_end {xs : List Int} {n q : Nat} (hl : xs.length = n) (hq : n ≤ q + 1) : (xs.drop 1).drop q = [] := by
  rw [List.drop_drop]; exact List.drop_of_length_le (by omega)
end Gim
namespace Go.Proofs.YtkhejkfjhddobaaGreatDoor
open Go.RowKit Gim
set_option maxHeartbeats 2000000 in
theorem span_c1 (w : World) (ao : Option Addr) (n cap : Nat) (xs : List Int) (h : Rd w .u8 ao n cap xs) (_hby : ∀ j, j < n → 0 ≤ gt xs j ∧ gt xs j ≤ 255) (x : Int) (hx : gt xs 0 = x) (h1 : 1 ≤ n) (h4 : n ≤ 4) (hx0 : 0 ≤ x) (hx1 : x < 128) :
    Calls Tryz.prog 108 #[.slice ao n cap] w fun e w' => e = .returned (.tuple #[.int .i64 (spanL xs).1, .int .i64 (spanL xs).2]) ∧ Below w.heap.size w w' := by
  obtain ⟨b0, o0, rfl, hb0, hc0⟩ := h.cell 0 (by omega)
  have hz : w.cell? ⟨b0, o0, none⟩ = some (.int .u8 x) := by rw [← hx]; exact hc0 0 (by omega)
  have he : ((n : Int) == 0) = false := by simp; omega
  have he2 : (n : Int) ≠ 0 := by omega
  have hle := h.le
  have hcl := h.cap_le
  have HL := Lib.hid h.len
  have HW := Lib.hid (wid1 hx1)
  have HS := Lib.hid (spanL_head HL.out hx h1 h4)
  rw [HW.out.1, HW.out.2.1] at HS
  clear hx
  go_enter Tryz.func108, Tryz.ntmps108
  by_cases hN : 1 < n
  · have HF := Lib.hid (HS.out.trans (if_pos hN))
    clear HS
    go_wp2
    go_ret2
    exact ⟨by rw [HF.out]; rfl, Below.refl _ _⟩
  have HF := Lib.hid (HS.out.trans (if_neg hN))
  clear HS
  by_cases hc1 : cap = 1
  · go_wp2
    go_loopw [5, 61] (fun f i wr => ∃ (q : Nat) (g : Int), q ≤ n - 1 ∧ i = .int .i64 q ∧ f = .int .i64 g ∧ 0 ≤ g ∧ g < bd q ∧ Hid (contR ((xs.drop 1).drop q) g = contR (xs.drop 1) x) ∧ Below w.heap.size w wr) (fun f i _ => n - (intOf i).toNat)
    case atStart => exact ⟨0, _, by omega, rfl, rfl, by omega, by show _ < (128 : Int); omega, Lib.hid rfl, Below.refl _ _⟩
    case round =>
      clear hz
      obtain ⟨q, g, hq, rfl, rfl, hg0, hg1, H, hb⟩ := hrel
      have hqe : q = n - 1 := by omega
      clear hc0
      subst hqe
      have HG := Lib.hid (HF.out.trans (by rw [← H.out, tail_end HL.out (by omega)]; rfl) : spanL xs = (if padLo (1 - n) g ≤ lst0 x then lst0 x else padLo (1 - n) g, if padHi (1 - n) g ≤ 1114111 then padHi (1 - n) g else 1114111))
      rw [HW.out.2.2] at HG
      go_wp2
      go_loopw [5, 10, 83] (fun f l i wi => ∃ (k : Nat) (a b : Int), k ≤ 1 - n ∧ i = .int .i64 k ∧ f = .int .i64 a ∧ l = .int .i64 b ∧ 0 ≤ a ∧ a ≤ b ∧ b < bd (n - 1 + k) ∧ Hid (padLo (1 - n - k) a = padLo (1 - n) g) ∧ Hid (padHi (1 - n - k) b = padHi (1 - n) g) ∧ Below w.heap.size w wi) (fun f l i _ => 1 - n - (intOf i).toNat)
      case atStart => exact ⟨0, g, g, by omega, rfl, rfl, rfl, hg0, by omega, hg1, Lib.hid rfl, Lib.hid rfl, hb⟩
      case round =>
        clear hb
        obtain ⟨k, a, b, hk, rfl, rfl, rfl, ha0, hab, hb1, HA, HB, hb⟩ := hrel
        by_cases hkn : k < 1 - n
        · exfalso; omega
        · obtain rfl : k = 1 - n := by omega
          have hnl : ¬ (((1 - n : Nat) : Int) < 1 - n) := by omega
          rw [Nat.sub_self] at HA HB
          have HR := Lib.hid (show spanL xs = (if a ≤ 0 then 0 else a, if b ≤ 1114111 then b else 1114111) by rw [HG.out, ← HA.out, ← HB.out]; rfl)
          clear HA HB HF HG
          by_cases u1 : a ≤ 0
          all_goals by_cases u2 : b ≤ 1114111
          all_goals
            have u3 : a ≤ 0 ∨ 0 ≤ a := by omega
            have u4 : b ≤ 1114111 ∨ 1114111 ≤ b := by omega
            have HQ := HR.out
            first | rw [if_pos u1, if_pos u2] at HQ | rw [if_pos u1, if_neg u2] at HQ | rw [if_neg u1, if_pos u2] at HQ | rw [if_neg u1, if_neg u2] at HQ
            replace HQ := Lib.hid HQ
            clear HR
            go_wp2
            all_goals go_ret2
            all_goals exact ⟨by rw [HQ.out]; (first | rw [show max a 0 = 0 by omega] | rw [show max a 0 = a by omega] | rw [show max 0 a = 0 by omega] | rw [show max 0 a = a by omega] | skip); (first | rw [show min b 1114111 = b by omega] | rw [show min b 1114111 = 1114111 by omega] | rw [show min 1114111 b = b by omega] | rw [show min 1114111 b = 1114111 by omega] | skip); first | rfl | (have e1 : a = 0 := (by omega); subst e1; rfl) | (have e2 : b = 1114111 := (by omega); subst e2; rfl) | (have e1 : a = 0 := (by omega); have e2 : b = 1114111 := (by omega); subst e1; subst e2; rfl), hb⟩
  · go_wp2
    go_loopw [5, 61] (fun f i wr => ∃ (q : Nat) (g : Int), q ≤ n - 1 ∧ i = .int .i64 q ∧ f = .int .i64 g ∧ 0 ≤ g ∧ g < bd q ∧ Hid (contR ((xs.drop 1).drop q) g = contR (xs.drop 1) x) ∧ Below w.heap.size w wr) (fun f i _ => n - (intOf i).toNat)
    case atStart => exact ⟨0, _, by omega, rfl, rfl, by omega, by show _ < (128 : Int); omega, Lib.hid rfl, Below.refl _ _⟩
    case round =>
      clear hz
      obtain ⟨q, g, hq, rfl, rfl, hg0, hg1, H, hb⟩ := hrel
      have hqe : q = n - 1 := by omega
      clear hc0
      subst hqe
      have HG := Lib.hid (HF.out.trans (by rw [← H.out, tail_end HL.out (by omega)]; rfl) : spanL xs = (if padLo (1 - n) g ≤ lst0 x then lst0 x else padLo (1 - n) g, if padHi (1 - n) g ≤ 1114111 then padHi (1 - n) g else 1114111))
      rw [HW.out.2.2] at HG
      go_wp2
      go_loopw [5, 10, 83] (fun f l i wi => ∃ (k : Nat) (a b : Int), k ≤ 1 - n ∧ i = .int .i64 k ∧ f = .int .i64 a ∧ l = .int .i64 b ∧ 0 ≤ a ∧ a ≤ b ∧ b < bd (n - 1 + k) ∧ Hid (padLo (1 - n - k) a = padLo (1 - n) g) ∧ Hid (padHi (1 - n - k) b = padHi (1 - n) g) ∧ Below w.heap.size w wi) (fun f l i _ => 1 - n - (intOf i).toNat)
      case atStart => exact ⟨0, g, g, by omega, rfl, rfl, rfl, hg0, by omega, hg1, Lib.hid rfl, Lib.hid rfl, hb⟩
      case round =>
        clear hb
        obtain ⟨k, a, b, hk, rfl, rfl, rfl, ha0, hab, hb1, HA, HB, hb⟩ := hrel
        by_cases hkn : k < 1 - n
        · exfalso; omega
        · obtain rfl : k = 1 - n := by omega
          have hnl : ¬ (((1 - n : Nat) : Int) < 1 - n) := by omega
          rw [Nat.sub_self] at HA HB
          have HR := Lib.hid (show spanL xs = (if a ≤ 0 then 0 else a, if b ≤ 1114111 then b else 1114111) by rw [HG.out, ← HA.out, ← HB.out]; rfl)
          clear HA HB HF HG
          by_cases u1 : a ≤ 0
          all_goals by_cases u2 : b ≤ 1114111
          all_goals
            have u3 : a ≤ 0 ∨ 0 ≤ a := by omega
            have u4 : b ≤ 1114111 ∨ 1114111 ≤ b := by omega
            have HQ := HR.out
            first | rw [if_pos u1, if_pos u2] at HQ | rw [if_pos u1, if_neg u2] at HQ | rw [if_neg u1, if_pos u2] at HQ | rw [if_neg u1, if_neg u2] at HQ
            replace HQ := Lib.hid HQ
            clear HR
            go_wp2
            all_goals go_ret2
            all_goals exact ⟨by rw [HQ.out]; (first | rw [show max a 0 = 0 by omega] | rw [show max a 0 = a by omega] | rw [show max 0 a = 0 by omega] | rw [show max 0 a = a by omega] | skip); (first | rw [show min b 1114111 = b by omega] | rw [show min b 1114111 = 1114111 by omega] | rw [show min 1114111 b = b by omega] | rw [show min 1114111 b = 1114111 by omega] | skip); first | rfl | (have e1 : a = 0 := (by omega); subst e1; rfl) | (have e2 : b = 1114111 := (by omega); subst e2; rfl) | (have e1 : a = 0 := (by omega); have e2 : b = 1114111 := (by omega); subst e1; subst e2; rfl), hb⟩
set_option maxHeartbeats 2000000 in
theorem span_c2 (w : World) (ao : Option Addr) (n cap : Nat) (xs : List Int) (h : Rd w .u8 ao n cap xs) (hby : ∀ j, j < n → 0 ≤ gt xs j ∧ gt xs j ≤ 255) (x : Int) (hx : gt xs 0 = x) (h1 : 1 ≤ n) (h4 : n ≤ 4) (hx0 : 192 ≤ x) (hx1 : x < 224) :
    Calls Tryz.prog 108 #[.slice ao n cap] w fun e w' => e = .returned (.tuple #[.int .i64 (spanL xs).1, .int .i64 (spanL xs).2]) ∧ Below w.heap.size w w' := by
  obtain ⟨b0, o0, rfl, hb0, hc0⟩ := h.cell 0 (by omega)
  have hz : w.cell? ⟨b0, o0, none⟩ = some (.int .u8 x) := by rw [← hx]; exact hc0 0 (by omega)
  have he : ((n : Int) == 0) = false := by simp; omega
  have he2 : (n : Int) ≠ 0 := by omega
  have hle := h.le
  have hcl := h.cap_le
  have HL := Lib.hid h.len
  have HW := Lib.hid (wid2 ⟨hx0, hx1⟩)
  have HS := Lib.hid (spanL_head HL.out hx h1 h4)
  rw [HW.out.1, HW.out.2.1] at HS
  clear hx
  go_enter Tryz.func108, Tryz.ntmps108
  by_cases hN : 2 < n
  · have HF := Lib.hid (HS.out.trans (if_pos hN))
    clear HS
    go_wp2
    go_ret2
    exact ⟨by rw [HF.out]; rfl, Below.refl _ _⟩
  have HF := Lib.hid (HS.out.trans (if_neg hN))
  clear HS
  by_cases hc1 : cap = 1
  · go_wp2
    go_loopw [5, 61] (fun f i wr => ∃ (q : Nat) (g : Int), q ≤ n - 1 ∧ i = .int .i64 q ∧ f = .int .i64 g ∧ 0 ≤ g ∧ g < bd q ∧ Hid (contR ((xs.drop 1).drop q) g = contR (xs.drop 1) (x - 192)) ∧ Below w.heap.size w wr) (fun f i _ => n - (intOf i).toNat)
    case atStart => exact ⟨0, _, by omega, rfl, rfl, by omega, by show _ < (128 : Int); omega, Lib.hid rfl, Below.refl _ _⟩
    case round =>
      clear hz
      obtain ⟨q, g, hq, rfl, rfl, hg0, hg1, H, hb⟩ := hrel
      have hqe : q = n - 1 := by omega
      clear hc0
      subst hqe
      have HG := Lib.hid (HF.out.trans (by rw [← H.out, tail_end HL.out (by omega)]; rfl) : spanL xs = (if padLo (2 - n) g ≤ lst0 x then lst0 x else padLo (2 - n) g, if padHi (2 - n) g ≤ 1114111 then padHi (2 - n) g else 1114111))
      rw [HW.out.2.2] at HG
      go_wp2
      go_loopw [5, 10, 83] (fun f l i wi => ∃ (k : Nat) (a b : Int), k ≤ 2 - n ∧ i = .int .i64 k ∧ f = .int .i64 a ∧ l = .int .i64 b ∧ 0 ≤ a ∧ a ≤ b ∧ b < bd (n - 1 + k) ∧ Hid (padLo (2 - n - k) a = padLo (2 - n) g) ∧ Hid (padHi (2 - n - k) b = padHi (2 - n) g) ∧ Below w.heap.size w wi) (fun f l i _ => 2 - n - (intOf i).toNat)
      case atStart => exact ⟨0, g, g, by omega, rfl, rfl, rfl, hg0, by omega, hg1, Lib.hid rfl, Lib.hid rfl, hb⟩
      case round =>
        clear hb
        obtain ⟨k, a, b, hk, rfl, rfl, rfl, ha0, hab, hb1, HA, HB, hb⟩ := hrel
        by_cases hkn : k < 2 - n
        · have hbd := bd_le (q := n - 1 + k) (by omega)
          have HA2 := Lib.hid (show padLo (2 - n - (k + 1)) (a * 64) = padLo (2 - n) g by rw [← HA.out, show 2 - n - k = (2 - n - (k + 1)) + 1 from by omega, padLo])
          have HB2 := Lib.hid (show padHi (2 - n - (k + 1)) (b * 64 + 63) = padHi (2 - n) g by rw [← HB.out, show 2 - n - k = (2 - n - (k + 1)) + 1 from by omega, padHi])
          have hstep := bd_step (q := n - 1 + k) (g := b) (y := 63) hb1 (by omega)
          have hsub : (2 : Int) - n = ((2 - n : Nat) : Int) := by omega
          have hlt : (k : Int) < 2 - n := by omega
          have hbd2 := bd_le (q := n - 1 + (k + 1)) (by omega)
          clear HA HB HF HG
          go_wp2
          go_roundw
          case rel => exact ⟨k + 1, a * 64, b * 64 + 63, by omega, by go_num, by go_num, by go_num, by omega, by omega, hstep, HA2, HB2, hb⟩
          case measure => simp [intOf]; omega
        · obtain rfl : k = 2 - n := by omega
          have hnl : ¬ (((2 - n : Nat) : Int) < 2 - n) := by omega
          rw [Nat.sub_self] at HA HB
          have HR := Lib.hid (show spanL xs = (if a ≤ 128 then 128 else a, if b ≤ 1114111 then b else 1114111) by rw [HG.out, ← HA.out, ← HB.out]; rfl)
          clear HA HB HF HG
          by_cases u1 : a ≤ 128
          all_goals by_cases u2 : b ≤ 1114111
          all_goals
            have u3 : a ≤ 128 ∨ 128 ≤ a := by omega
            have u4 : b ≤ 1114111 ∨ 1114111 ≤ b := by omega
            have HQ := HR.out
            first | rw [if_pos u1, if_pos u2] at HQ | rw [if_pos u1, if_neg u2] at HQ | rw [if_neg u1, if_pos u2] at HQ | rw [if_neg u1, if_neg u2] at HQ
            replace HQ := Lib.hid HQ
            clear HR
            go_wp2
            all_goals go_ret2
            all_goals exact ⟨by rw [HQ.out]; (first | rw [show max a 128 = 128 by omega] | rw [show max a 128 = a by omega] | rw [show max 128 a = 128 by omega] | rw [show max 128 a = a by omega] | skip); (first | rw [show min b 1114111 = b by omega] | rw [show min b 1114111 = 1114111 by omega] | rw [show min 1114111 b = b by omega] | rw [show min 1114111 b = 1114111 by omega] | skip); first | rfl | (have e1 : a = 128 := (by omega); subst e1; rfl) | (have e2 : b = 1114111 := (by omega); subst e2; rfl) | (have e1 : a = 128 := (by omega); have e2 : b = 1114111 := (by omega); subst e1; subst e2; rfl), hb⟩
  · go_wp2
    go_loopw [5, 61] (fun f i wr => ∃ (q : Nat) (g : Int), q ≤ n - 1 ∧ i = .int .i64 q ∧ f = .int .i64 g ∧ 0 ≤ g ∧ g < bd q ∧ Hid (contR ((xs.drop 1).drop q) g = contR (xs.drop 1) (x - 192)) ∧ Below w.heap.size w wr) (fun f i _ => n - (intOf i).toNat)
    case atStart => exact ⟨0, _, by omega, rfl, rfl, by omega, by show _ < (128 : Int); omega, Lib.hid rfl, Below.refl _ _⟩
    case round =>
      clear hz
      obtain ⟨q, g, hq, rfl, rfl, hg0, hg1, H, hb⟩ := hrel
      by_cases hqn : q + 1 < n
      · have hy : wr.cell? ⟨b0, o0 + 1 + q, none⟩ = some (.int .u8 (gt xs (q + 1))) := by
          have := (hb.cell (p := ⟨b0, o0 + (q + 1), none⟩) hb0).trans (hc0 (q + 1) hqn)
          rw [show o0 + 1 + q = o0 + (q + 1) from by omega]; exact this
        have hyb := hby (q + 1) hqn
        have st := H.out
        rw [tail_at HL.out hqn] at st
        have hbd := bd_le (q := q) (by omega)
        obtain ⟨y, hyy⟩ : ∃ y, y = gt xs (q + 1) := ⟨_, rfl⟩
        rw [← hyy] at hy hyb st
        clear hyy hc0
        by_cases h128 : y < 128
        · have HE := Lib.hid (HF.out.trans (by rw [← st, contR, if_pos (Or.inl h128)]; rfl) : spanL xs = (1, 0))
          clear st
          go_wp2
          go_ret2
          exact ⟨by rw [HE.out]; rfl, hb⟩
        by_cases h191 : 191 < y
        · have HE := Lib.hid (HF.out.trans (by rw [← st, contR, if_pos (Or.inr h191)]; rfl) : spanL xs = (1, 0))
          clear st
          go_wp2
          go_ret2
          exact ⟨by rw [HE.out]; rfl, hb⟩
        · rw [contR, if_neg (by omega)] at st
          have HE := Lib.hid st
          have hstep := bd_step (q := q) (g := g) (y := y - 128) hg1 (by omega)
          have hbd2 := bd_le (q := q + 1) (by omega)
          clear st
          go_wp2
          go_roundw
          case rel => exact ⟨q + 1, g * 64 + (y - 128), by omega, by go_num, by go_num, by omega, hstep, HE, hb⟩
          case measure => simp [intOf]; omega
      · have hqe : q = n - 1 := by omega
        clear hc0
        subst hqe
        have HG := Lib.hid (HF.out.trans (by rw [← H.out, tail_end HL.out (by omega)]; rfl) : spanL xs = (if padLo (2 - n) g ≤ lst0 x then lst0 x else padLo (2 - n) g, if padHi (2 - n) g ≤ 1114111 then padHi (2 - n) g else 1114111))
        rw [HW.out.2.2] at HG
        go_wp2
        go_loopw [5, 10, 83] (fun f l i wi => ∃ (k : Nat) (a b : Int), k ≤ 2 - n ∧ i = .int .i64 k ∧ f = .int .i64 a ∧ l = .int .i64 b ∧ 0 ≤ a ∧ a ≤ b ∧ b < bd (n - 1 + k) ∧ Hid (padLo (2 - n - k) a = padLo (2 - n) g) ∧ Hid (padHi (2 - n - k) b = padHi (2 - n) g) ∧ Below w.heap.size w wi) (fun f l i _ => 2 - n - (intOf i).toNat)
        case atStart => exact ⟨0, g, g, by omega, rfl, rfl, rfl, hg0, by omega, hg1, Lib.hid rfl, Lib.hid rfl, hb⟩
        case round =>
          clear hb
          obtain ⟨k, a, b, hk, rfl, rfl, rfl, ha0, hab, hb1, HA, HB, hb⟩ := hrel
          by_cases hkn : k < 2 - n
          · have hbd := bd_le (q := n - 1 + k) (by omega)
            have HA2 := Lib.hid (show padLo (2 - n - (k + 1)) (a * 64) = padLo (2 - n) g by rw [← HA.out, show 2 - n - k = (2 - n - (k + 1)) + 1 from by omega, padLo])
            have HB2 := Lib.hid (show padHi (2 - n - (k + 1)) (b * 64 + 63) = padHi (2 - n) g by rw [← HB.out, show 2 - n - k = (2 - n - (k + 1)) + 1 from by omega, padHi])
            have hstep := bd_step (q := n - 1 + k) (g := b) (y := 63) hb1 (by omega)
            have hsub : (2 : Int) - n = ((2 - n : Nat) : Int) := by omega
            have hlt : (k : Int) < 2 - n := by omega
            have hbd2 := bd_le (q := n - 1 + (k + 1)) (by omega)
            clear HA HB HF HG
            go_wp2
            go_roundw
            case rel => exact ⟨k + 1, a * 64, b * 64 + 63, by omega, by go_num, by go_num, by go_num, by omega, by omega, hstep, HA2, HB2, hb⟩
            case measure => simp [intOf]; omega
          · obtain rfl : k = 2 - n := by omega
            have hnl : ¬ (((2 - n : Nat) : Int) < 2 - n) := by omega
            rw [Nat.sub_self] at HA HB
            have HR := Lib.hid (show spanL xs = (if a ≤ 128 then 128 else a, if b ≤ 1114111 then b else 1114111) by rw [HG.out, ← HA.out, ← HB.out]; rfl)
            clear HA HB HF HG
            by_cases u1 : a ≤ 128
            all_goals by_cases u2 : b ≤ 1114111
            all_goals
              have u3 : a ≤ 128 ∨ 128 ≤ a := by omega
              have u4 : b ≤ 1114111 ∨ 1114111 ≤ b := by omega
              have HQ := HR.out
              first | rw [if_pos u1, if_pos u2] at HQ | rw [if_pos u1, if_neg u2] at HQ | rw [if_neg u1, if_pos u2] at HQ | rw [if_neg u1, if_neg u2] at HQ
              replace HQ := Lib.hid HQ
              clear HR
              go_wp2
              all_goals go_ret2
              all_goals exact ⟨by rw [HQ.out]; (first | rw [show max a 128 = 128 by omega] | rw [show max a 128 = a by omega] | rw [show max 128 a = 128 by omega] | rw [show max 128 a = a by omega] | skip); (first | rw [show min b 1114111 = b by omega] | rw [show min b 1114111 = 1114111 by omega] | rw [show min 1114111 b = b by omega] | rw [show min 1114111 b = 1114111 by omega] | skip); first | rfl | (have e1 : a = 128 := (by omega); subst e1; rfl) | (have e2 : b = 1114111 := (by omega); subst e2; rfl) | (have e1 : a = 128 := (by omega); have e2 : b = 1114111 := (by omega); subst e1; subst e2; rfl), hb⟩
set_option maxHeartbeats 2000000 in
theorem span_c3 (w : World) (ao : Option Addr) (n cap : Nat) (xs : List Int) (h : Rd w .u8 ao n cap xs) (hby : ∀ j, j < n → 0 ≤ gt xs j ∧ gt xs j ≤ 255) (x : Int) (hx : gt xs 0 = x) (h1 : 1 ≤ n) (h4 : n ≤ 4) (hx0 : 224 ≤ x) (hx1 : x < 240) :
    Calls Tryz.prog 108 #[.slice ao n cap] w fun e w' => e = .returned (.tuple #[.int .i64 (spanL xs).1, .int .i64 (spanL xs).2]) ∧ Below w.heap.size w w' := by
  obtain ⟨b0, o0, rfl, hb0, hc0⟩ := h.cell 0 (by omega)
  have hz : w.cell? ⟨b0, o0, none⟩ = some (.int .u8 x) := by rw [← hx]; exact hc0 0 (by omega)
  have he : ((n : Int) == 0) = false := by simp; omega
  have he2 : (n : Int) ≠ 0 := by omega
  have hle := h.le
  have hcl := h.cap_le
  have HL := Lib.hid h.len
  have HW := Lib.hid (wid3 ⟨hx0, hx1⟩)
  have HS := Lib.hid (spanL_head HL.out hx h1 h4)
  rw [HW.out.1, HW.out.2.1] at HS
  clear hx
  go_enter Tryz.func108, Tryz.ntmps108
  by_cases hN : 3 < n
  · have HF := Lib.hid (HS.out.trans (if_pos hN))
    clear HS
    go_wp2
    go_ret2
    exact ⟨by rw [HF.out]; rfl, Below.refl _ _⟩
  have HF := Lib.hid (HS.out.trans (if_neg hN))
  clear HS
  by_cases hc1 : cap = 1
  · go_wp2
    go_loopw [5, 61] (fun f i wr => ∃ (q : Nat) (g : Int), q ≤ n - 1 ∧ i = .int .i64 q ∧ f = .int .i64 g ∧ 0 ≤ g ∧ g < bd q ∧ Hid (contR ((xs.drop 1).drop q) g = contR (xs.drop 1) (x - 224)) ∧ Below w.heap.size w wr) (fun f i _ => n - (intOf i).toNat)
    case atStart => exact ⟨0, _, by omega, rfl, rfl, by omega, by show _ < (128 : Int); omega, Lib.hid rfl, Below.refl _ _⟩
    case round =>
      clear hz
      obtain ⟨q, g, hq, rfl, rfl, hg0, hg1, H, hb⟩ := hrel
      have hqe : q = n - 1 := by omega
      clear hc0
      subst hqe
      have HG := Lib.hid (HF.out.trans (by rw [← H.out, tail_end HL.out (by omega)]; rfl) : spanL xs = (if padLo (3 - n) g ≤ lst0 x then lst0 x else padLo (3 - n) g, if padHi (3 - n) g ≤ 1114111 then padHi (3 - n) g else 1114111))
      rw [HW.out.2.2] at HG
      go_wp2
      go_loopw [5, 10, 83] (fun f l i wi => ∃ (k : Nat) (a b : Int), k ≤ 3 - n ∧ i = .int .i64 k ∧ f = .int .i64 a ∧ l = .int .i64 b ∧ 0 ≤ a ∧ a ≤ b ∧ b < bd (n - 1 + k) ∧ Hid (padLo (3 - n - k) a = padLo (3 - n) g) ∧ Hid (padHi (3 - n - k) b = padHi (3 - n) g) ∧ Below w.heap.size w wi) (fun f l i _ => 3 - n - (intOf i).toNat)
      case atStart => exact ⟨0, g, g, by omega, rfl, rfl, rfl, hg0, by omega, hg1, Lib.hid rfl, Lib.hid rfl, hb⟩
      case round =>
        clear hb
        obtain ⟨k, a, b, hk, rfl, rfl, rfl, ha0, hab, hb1, HA, HB, hb⟩ := hrel
        by_cases hkn : k < 3 - n
        · have hbd := bd_le (q := n - 1 + k) (by omega)
          have HA2 := Lib.hid (show padLo (3 - n - (k + 1)) (a * 64) = padLo (3 - n) g by rw [← HA.out, show 3 - n - k = (3 - n - (k + 1)) + 1 from by omega, padLo])
          have HB2 := Lib.hid (show padHi (3 - n - (k + 1)) (b * 64 + 63) = padHi (3 - n) g by rw [← HB.out, show 3 - n - k = (3 - n - (k + 1)) + 1 from by omega, padHi])
          have hstep := bd_step (q := n - 1 + k) (g := b) (y := 63) hb1 (by omega)
          have hsub : (3 : Int) - n = ((3 - n : Nat) : Int) := by omega
          have hlt : (k : Int) < 3 - n := by omega
          have hbd2 := bd_le (q := n - 1 + (k + 1)) (by omega)
          clear HA HB HF HG
          go_wp2
          go_roundw
          case rel => exact ⟨k + 1, a * 64, b * 64 + 63, by omega, by go_num, by go_num, by go_num, by omega, by omega, hstep, HA2, HB2, hb⟩
          case measure => simp [intOf]; omega
        · obtain rfl : k = 3 - n := by omega
          have hnl : ¬ (((3 - n : Nat) : Int) < 3 - n) := by omega
          rw [Nat.sub_self] at HA HB
          have HR := Lib.hid (show spanL xs = (if a ≤ 2048 then 2048 else a, if b ≤ 1114111 then b else 1114111) by rw [HG.out, ← HA.out, ← HB.out]; rfl)
          clear HA HB HF HG
          by_cases u1 : a ≤ 2048
          all_goals by_cases u2 : b ≤ 1114111
          all_goals
            have u3 : a ≤ 2048 ∨ 2048 ≤ a := by omega
            have u4 : b ≤ 1114111 ∨ 1114111 ≤ b := by omega
            have HQ := HR.out
            first | rw [if_pos u1, if_pos u2] at HQ | rw [if_pos u1, if_neg u2] at HQ | rw [if_neg u1, if_pos u2] at HQ | rw [if_neg u1, if_neg u2] at HQ
            replace HQ := Lib.hid HQ
            clear HR
            go_wp2
            all_goals go_ret2
            all_goals exact ⟨by rw [HQ.out]; (first | rw [show max a 2048 = 2048 by omega] | rw [show max a 2048 = a by omega] | rw [show max 2048 a = 2048 by omega] | rw [show max 2048 a = a by omega] | skip); (first | rw [show min b 1114111 = b by omega] | rw [show min b 1114111 = 1114111 by omega] | rw [show min 1114111 b = b by omega] | rw [show min 1114111 b = 1114111 by omega] | skip); first | rfl | (have e1 : a = 2048 := (by omega); subst e1; rfl) | (have e2 : b = 1114111 := (by omega); subst e2; rfl) | (have e1 : a = 2048 := (by omega); have e2 : b = 1114111 := (by omega); subst e1; subst e2; rfl), hb⟩
  · go_wp2
    go_loopw [5, 61] (fun f i wr => ∃ (q : Nat) (g : Int), q ≤ n - 1 ∧ i = .int .i64 q ∧ f = .int .i64 g ∧ 0 ≤ g ∧ g < bd q ∧ Hid (contR ((xs.drop 1).drop q) g = contR (xs.drop 1) (x - 224)) ∧ Below w.heap.size w wr) (fun f i _ => n - (intOf i).toNat)
    case atStart => exact ⟨0, _, by omega, rfl, rfl, by omega, by show _ < (128 : Int); omega, Lib.hid rfl, Below.refl _ _⟩
    case round =>
      clear hz
      obtain ⟨q, g, hq, rfl, rfl, hg0, hg1, H, hb⟩ := hrel
      by_cases hqn : q + 1 < n
      · have hy : wr.cell? ⟨b0, o0 + 1 + q, none⟩ = some (.int .u8 (gt xs (q + 1))) := by
          have := (hb.cell (p := ⟨b0, o0 + (q + 1), none⟩) hb0).trans (hc0 (q + 1) hqn)
          rw [show o0 + 1 + q = o0 + (q + 1) from by omega]; exact this
        have hyb := hby (q + 1) hqn
        have st := H.out
        rw [tail_at HL.out hqn] at st
        have hbd := bd_le (q := q) (by omega)
        obtain ⟨y, hyy⟩ : ∃ y, y = gt xs (q + 1) := ⟨_, rfl⟩
        rw [← hyy] at hy hyb st
        clear hyy hc0
        by_cases h128 : y < 128
        · have HE := Lib.hid (HF.out.trans (by rw [← st, contR, if_pos (Or.inl h128)]; rfl) : spanL xs = (1, 0))
          clear st
          go_wp2
          go_ret2
          exact ⟨by rw [HE.out]; rfl, hb⟩
        by_cases h191 : 191 < y
        · have HE := Lib.hid (HF.out.trans (by rw [← st, contR, if_pos (Or.inr h191)]; rfl) : spanL xs = (1, 0))
          clear st
          go_wp2
          go_ret2
          exact ⟨by rw [HE.out]; rfl, hb⟩
        · rw [contR, if_neg (by omega)] at st
          have HE := Lib.hid st
          have hstep := bd_step (q := q) (g := g) (y := y - 128) hg1 (by omega)
          have hbd2 := bd_le (q := q + 1) (by omega)
          clear st
          go_wp2
          go_roundw
          case rel => exact ⟨q + 1, g * 64 + (y - 128), by omega, by go_num, by go_num, by omega, hstep, HE, hb⟩
          case measure => simp [intOf]; omega
      · have hqe : q = n - 1 := by omega
        clear hc0
        subst hqe
        have HG := Lib.hid (HF.out.trans (by rw [← H.out, tail_end HL.out (by omega)]; rfl) : spanL xs = (if padLo (3 - n) g ≤ lst0 x then lst0 x else padLo (3 - n) g, if padHi (3 - n) g ≤ 1114111 then padHi (3 - n) g else 1114111))
        rw [HW.out.2.2] at HG
        go_wp2
        go_loopw [5, 10, 83] (fun f l i wi => ∃ (k : Nat) (a b : Int), k ≤ 3 - n ∧ i = .int .i64 k ∧ f = .int .i64 a ∧ l = .int .i64 b ∧ 0 ≤ a ∧ a ≤ b ∧ b < bd (n - 1 + k) ∧ Hid (padLo (3 - n - k) a = padLo (3 - n) g) ∧ Hid (padHi (3 - n - k) b = padHi (3 - n) g) ∧ Below w.heap.size w wi) (fun f l i _ => 3 - n - (intOf i).toNat)
        case atStart => exact ⟨0, g, g, by omega, rfl, rfl, rfl, hg0, by omega, hg1, Lib.hid rfl, Lib.hid rfl, hb⟩
        case round =>
          clear hb
          obtain ⟨k, a, b, hk, rfl, rfl, rfl, ha0, hab, hb1, HA, HB, hb⟩ := hrel
          by_cases hkn : k < 3 - n
          · have hbd := bd_le (q := n - 1 + k) (by omega)
            have HA2 := Lib.hid (show padLo (3 - n - (k + 1)) (a * 64) = padLo (3 - n) g by rw [← HA.out, show 3 - n - k = (3 - n - (k + 1)) + 1 from by omega, padLo])
            have HB2 := Lib.hid (show padHi (3 - n - (k + 1)) (b * 64 + 63) = padHi (3 - n) g by rw [← HB.out, show 3 - n - k = (3 - n - (k + 1)) + 1 from by omega, padHi])
            have hstep := bd_step (q := n - 1 + k) (g := b) (y := 63) hb1 (by omega)
            have hsub : (3 : Int) - n = ((3 - n : Nat) : Int) := by omega
            have hlt : (k : Int) < 3 - n := by omega
            have hbd2 := bd_le (q := n - 1 + (k + 1)) (by omega)
            clear HA HB HF HG
            go_wp2
            go_roundw
            case rel => exact ⟨k + 1, a * 64, b * 64 + 63, by omega, by go_num, by go_num, by go_num, by omega, by omega, hstep, HA2, HB2, hb⟩
            case measure => simp [intOf]; omega
          · obtain rfl : k = 3 - n := by omega
            have hnl : ¬ (((3 - n : Nat) : Int) < 3 - n) := by omega
            rw [Nat.sub_self] at HA HB
            have HR := Lib.hid (show spanL xs = (if a ≤ 2048 then 2048 else a, if b ≤ 1114111 then b else 1114111) by rw [HG.out, ← HA.out, ← HB.out]; rfl)
            clear HA HB HF HG
            by_cases u1 : a ≤ 2048
            all_goals by_cases u2 : b ≤ 1114111
            all_goals
              have u3 : a ≤ 2048 ∨ 2048 ≤ a := by omega
              have u4 : b ≤ 1114111 ∨ 1114111 ≤ b := by omega
              have HQ := HR.out
              first | rw [if_pos u1, if_pos u2] at HQ | rw [if_pos u1, if_neg u2] at HQ | rw [if_neg u1, if_pos u2] at HQ | rw [if_neg u1, if_neg u2] at HQ
              replace HQ := Lib.hid HQ
              clear HR
              go_wp2
              all_goals go_ret2
              all_goals exact ⟨by rw [HQ.out]; (first | rw [show max a 2048 = 2048 by omega] | rw [show max a 2048 = a by omega] | rw [show max 2048 a = 2048 by omega] | rw [show max 2048 a = a by omega] | skip); (first | rw [show min b 1114111 = b by omega] | rw [show min b 1114111 = 1114111 by omega] | rw [show min 1114111 b = b by omega] | rw [show min 1114111 b = 1114111 by omega] | skip); first | rfl | (have e1 : a = 2048 := (by omega); subst e1; rfl) | (have e2 : b = 1114111 := (by omega); subst e2; rfl) | (have e1 : a = 2048 := (by omega); have e2 : b = 1114111 := (by omega); subst e1; subst e2; rfl), hb⟩
set_option maxHeartbeats 2000000 in
theorem span_c4 (w : World) (ao : Option Addr) (n cap : Nat) (xs : List Int) (h : Rd w .u8 ao n cap xs) (hby : ∀ j, j < n → 0 ≤ gt xs j ∧ gt xs j ≤ 255) (x : Int) (hx : gt xs 0 = x) (h1 : 1 ≤ n) (h4 : n ≤ 4) (hx0 : 240 ≤ x) (hx1 : x < 248) :
    Calls Tryz.prog 108 #[.slice ao n cap] w fun e w' => e = .returned (.tuple #[.int .i64 (spanL xs).1, .int .i64 (spanL xs).2]) ∧ Below w.heap.size w w' := by
  obtain ⟨b0, o0, rfl, hb0, hc0⟩ := h.cell 0 (by omega)
  have hz : w.cell? ⟨b0, o0, none⟩ = some (.int .u8 x) := by rw [← hx]; exact hc0 0 (by omega)
  have he : ((n : Int) == 0) = false := by simp; omega
  have he2 : (n : Int) ≠ 0 := by omega
  have hle := h.le
  have hcl := h.cap_le
  have HL := Lib.hid h.len
  have HW := Lib.hid (wid4 ⟨hx0, hx1⟩)
  have HS := Lib.hid (spanL_head HL.out hx h1 h4)
  rw [HW.out.1, HW.out.2.1] at HS
  clear hx
  go_enter Tryz.func108, Tryz.ntmps108
  by_cases hN : 4 < n
  · exfalso; omega
  have HF := Lib.hid (HS.out.trans (if_neg hN))
  clear HS
  by_cases hc1 : cap = 1
  · go_wp2
    go_loopw [5, 61] (fun f i wr => ∃ (q : Nat) (g : Int), q ≤ n - 1 ∧ i = .int .i64 q ∧ f = .int .i64 g ∧ 0 ≤ g ∧ g < bd q ∧ Hid (contR ((xs.drop 1).drop q) g = contR (xs.drop 1) (x - 240)) ∧ Below w.heap.size w wr) (fun f i _ => n - (intOf i).toNat)
    case atStart => exact ⟨0, _, by omega, rfl, rfl, by omega, by show _ < (128 : Int); omega, Lib.hid rfl, Below.refl _ _⟩
    case round =>
      clear hz
      obtain ⟨q, g, hq, rfl, rfl, hg0, hg1, H, hb⟩ := hrel
      have hqe : q = n - 1 := by omega
      clear hc0
      subst hqe
      have HG := Lib.hid (HF.out.trans (by rw [← H.out, tail_end HL.out (by omega)]; rfl) : spanL xs = (if padLo (4 - n) g ≤ lst0 x then lst0 x else padLo (4 - n) g, if padHi (4 - n) g ≤ 1114111 then padHi (4 - n) g else 1114111))
      rw [HW.out.2.2] at HG
      go_wp2
      go_loopw [5, 10, 83] (fun f l i wi => ∃ (k : Nat) (a b : Int), k ≤ 4 - n ∧ i = .int .i64 k ∧ f = .int .i64 a ∧ l = .int .i64 b ∧ 0 ≤ a ∧ a ≤ b ∧ b < bd (n - 1 + k) ∧ Hid (padLo (4 - n - k) a = padLo (4 - n) g) ∧ Hid (padHi (4 - n - k) b = padHi (4 - n) g) ∧ Below w.heap.size w wi) (fun f l i _ => 4 - n - (intOf i).toNat)
      case atStart => exact ⟨0, g, g, by omega, rfl, rfl, rfl, hg0, by omega, hg1, Lib.hid rfl, Lib.hid rfl, hb⟩
      case round =>
        clear hb
        obtain ⟨k, a, b, hk, rfl, rfl, rfl, ha0, hab, hb1, HA, HB, hb⟩ := hrel
        by_cases hkn : k < 4 - n
        · have hbd := bd_le (q := n - 1 + k) (by omega)
          have HA2 := Lib.hid (show padLo (4 - n - (k + 1)) (a * 64) = padLo (4 - n) g by rw [← HA.out, show 4 - n - k = (4 - n - (k + 1)) + 1 from by omega, padLo])
          have HB2 := Lib.hid (show padHi (4 - n - (k + 1)) (b * 64 + 63) = padHi (4 - n) g by rw [← HB.out, show 4 - n - k = (4 - n - (k + 1)) + 1 from by omega, padHi])
          have hstep := bd_step (q := n - 1 + k) (g := b) (y := 63) hb1 (by omega)
          have hsub : (4 : Int) - n = ((4 - n : Nat) : Int) := by omega
          have hlt : (k : Int) < 4 - n := by omega
          have hbd2 := bd_le (q := n - 1 + (k + 1)) (by omega)
          clear HA HB HF HG
          go_wp2
          go_roundw
          case rel => exact ⟨k + 1, a * 64, b * 64 + 63, by omega, by go_num, by go_num, by go_num, by omega, by omega, hstep, HA2, HB2, hb⟩
          case measure => simp [intOf]; omega
        · obtain rfl : k = 4 - n := by omega
          have hnl : ¬ (((4 - n : Nat) : Int) < 4 - n) := by omega
          rw [Nat.sub_self] at HA HB
          have HR := Lib.hid (show spanL xs = (if a ≤ 65536 then 65536 else a, if b ≤ 1114111 then b else 1114111) by rw [HG.out, ← HA.out, ← HB.out]; rfl)
          clear HA HB HF HG
          by_cases u1 : a ≤ 65536
          all_goals by_cases u2 : b ≤ 1114111
          all_goals
            have u3 : a ≤ 65536 ∨ 65536 ≤ a := by omega
            have u4 : b ≤ 1114111 ∨ 1114111 ≤ b := by omega
            have HQ := HR.out
            first | rw [if_pos u1, if_pos u2] at HQ | rw [if_pos u1, if_neg u2] at HQ | rw [if_neg u1, if_pos u2] at HQ | rw [if_neg u1, if_neg u2] at HQ
            replace HQ := Lib.hid HQ
            clear HR
            go_wp2
            all_goals go_ret2
            all_goals exact ⟨by rw [HQ.out]; (first | rw [show max a 65536 = 65536 by omega] | rw [show max a 65536 = a by omega] | rw [show max 65536 a = 65536 by omega] | rw [show max 65536 a = a by omega] | skip); (first | rw [show min b 1114111 = b by omega] | rw [show min b 1114111 = 1114111 by omega] | rw [show min 1114111 b = b by omega] | rw [show min 1114111 b = 1114111 by omega] | skip); first | rfl | (have e1 : a = 65536 := (by omega); subst e1; rfl) | (have e2 : b = 1114111 := (by omega); subst e2; rfl) | (have e1 : a = 65536 := (by omega); have e2 : b = 1114111 := (by omega); subst e1; subst e2; rfl), hb⟩
  · go_wp2
    go_loopw [5, 61] (fun f i wr => ∃ (q : Nat) (g : Int), q ≤ n - 1 ∧ i = .int .i64 q ∧ f = .int .i64 g ∧ 0 ≤ g ∧ g < bd q ∧ Hid (contR ((xs.drop 1).drop q) g = contR (xs.drop 1) (x - 240)) ∧ Below w.heap.size w wr) (fun f i _ => n - (intOf i).toNat)
    case atStart => exact ⟨0, _, by omega, rfl, rfl, by omega, by show _ < (128 : Int); omega, Lib.hid rfl, Below.refl _ _⟩
    case round =>
      clear hz
      obtain ⟨q, g, hq, rfl, rfl, hg0, hg1, H, hb⟩ := hrel
      by_cases hqn : q + 1 < n
      · have hy : wr.cell? ⟨b0, o0 + 1 + q, none⟩ = some (.int .u8 (gt xs (q + 1))) := by
          have := (hb.cell (p := ⟨b0, o0 + (q + 1), none⟩) hb0).trans (hc0 (q + 1) hqn)
          rw [show o0 + 1 + q = o0 + (q + 1) from by omega]; exact this
        have hyb := hby (q + 1) hqn
        have st := H.out
        rw [tail_at HL.out hqn] at st
        have hbd := bd_le (q := q) (by omega)
        obtain ⟨y, hyy⟩ : ∃ y, y = gt xs (q + 1) := ⟨_, rfl⟩
        rw [← hyy] at hy hyb st
        clear hyy hc0
        by_cases h128 : y < 128
        · have HE := Lib.hid (HF.out.trans (by rw [← st, contR, if_pos (Or.inl h128)]; rfl) : spanL xs = (1, 0))
          clear st
          go_wp2
          go_ret2
          exact ⟨by rw [HE.out]; rfl, hb⟩
        by_cases h191 : 191 < y
        · have HE := Lib.hid (HF.out.trans (by rw [← st, contR, if_pos (Or.inr h191)]; rfl) : spanL xs = (1, 0))
          clear st
          go_wp2
          go_ret2
          exact ⟨by rw [HE.out]; rfl, hb⟩
        · rw [contR, if_neg (by omega)] at st
          have HE := Lib.hid st
          have hstep := bd_step (q := q) (g := g) (y := y - 128) hg1 (by omega)
          have hbd2 := bd_le (q := q + 1) (by omega)
          clear st
          go_wp2
          go_roundw
          case rel => exact ⟨q + 1, g * 64 + (y - 128), by omega, by go_num, by go_num, by omega, hstep, HE, hb⟩
          case measure => simp [intOf]; omega
      · have hqe : q = n - 1 := by omega
        clear hc0
        subst hqe
        have HG := Lib.hid (HF.out.trans (by rw [← H.out, tail_end HL.out (by omega)]; rfl) : spanL xs = (if padLo (4 - n) g ≤ lst0 x then lst0 x else padLo (4 - n) g, if padHi (4 - n) g ≤ 1114111 then padHi (4 - n) g else 1114111))
        rw [HW.out.2.2] at HG
        go_wp2
        go_loopw [5, 10, 83] (fun f l i wi => ∃ (k : Nat) (a b : Int), k ≤ 4 - n ∧ i = .int .i64 k ∧ f = .int .i64 a ∧ l = .int .i64 b ∧ 0 ≤ a ∧ a ≤ b ∧ b < bd (n - 1 + k) ∧ Hid (padLo (4 - n - k) a = padLo (4 - n) g) ∧ Hid (padHi (4 - n - k) b = padHi (4 - n) g) ∧ Below w.heap.size w wi) (fun f l i _ => 4 - n - (intOf i).toNat)
        case atStart => exact ⟨0, g, g, by omega, rfl, rfl, rfl, hg0, by omega, hg1, Lib.hid rfl, Lib.hid rfl, hb⟩
        case round =>
          clear hb
          obtain ⟨k, a, b, hk, rfl, rfl, rfl, ha0, hab, hb1, HA, HB, hb⟩ := hrel
          by_cases hkn : k < 4 - n
          · have hbd := bd_le (q := n - 1 + k) (by omega)
            have HA2 := Lib.hid (show padLo (4 - n - (k + 1)) (a * 64) = padLo (4 - n) g by rw [← HA.out, show 4 - n - k = (4 - n - (k + 1)) + 1 from by omega, padLo])
            have HB2 := Lib.hid (show padHi (4 - n - (k + 1)) (b * 64 + 63) = padHi (4 - n) g by rw [← HB.out, show 4 - n - k = (4 - n - (k + 1)) + 1 from by omega, padHi])
            have hstep := bd_step (q := n - 1 + k) (g := b) (y := 63) hb1 (by omega)
            have hsub : (4 : Int) - n = ((4 - n : Nat) : Int) := by omega
            have hlt : (k : Int) < 4 - n := by omega
            have hbd2 := bd_le (q := n - 1 + (k + 1)) (by omega)
            clear HA HB HF HG
            go_wp2
            go_roundw
            case rel => exact ⟨k + 1, a * 64, b * 64 + 63, by omega, by go_num, by go_num, by go_num, by omega, by omega, hstep, HA2, HB2, hb⟩
            case measure => simp [intOf]; omega
          · obtain rfl : k = 4 - n := by omega
            have hnl : ¬ (((4 - n : Nat) : Int) < 4 - n) := by omega
            rw [Nat.sub_self] at HA HB
            have HR := Lib.hid (show spanL xs = (if a ≤ 65536 then 65536 else a, if b ≤ 1114111 then b else 1114111) by rw [HG.out, ← HA.out, ← HB.out]; rfl)
            clear HA HB HF HG
            by_cases u1 : a ≤ 65536
            all_goals by_cases u2 : b ≤ 1114111
            all_goals
              have u3 : a ≤ 65536 ∨ 65536 ≤ a := by omega
              have u4 : b ≤ 1114111 ∨ 1114111 ≤ b := by omega
              have HQ := HR.out
              first | rw [if_pos u1, if_pos u2] at HQ | rw [if_pos u1, if_neg u2] at HQ | rw [if_neg u1, if_pos u2] at HQ | rw [if_neg u1, if_neg u2] at HQ
              replace HQ := Lib.hid HQ
              clear HR
              go_wp2
              all_goals go_ret2
              all_goals exact ⟨by rw [HQ.out]; (first | rw [show max a 65536 = 65536 by omega] | rw [show max a 65536 = a by omega] | rw [show max 65536 a = 65536 by omega] | rw [show max 65536 a = a by omega] | skip); (first | rw [show min b 1114111 = b by omega] | rw [show min b 1114111 = 1114111 by omega] | rw [show min 1114111 b = b by omega] | rw [show min 1114111 b = 1114111 by omega] | skip); first | rfl | (have e1 : a = 65536 := (by omega); subst e1; rfl) | (have e2 : b = 1114111 := (by omega); subst e2; rfl) | (have e1 : a = 65536 := (by omega); have e2 : b = 1114111 := (by omega); subst e1; subst e2; rfl), hb⟩
theorem span_calls (w : World) (ao : Option Addr) (n cap : Nat) (xs : List Int) (h : Rd w .u8 ao n cap xs) (hby : ∀ j, j < n → 0 ≤ gt xs j ∧ gt xs j ≤ 255) :
    Calls Tryz.prog 108 #[.slice ao n cap] w fun e w' => e = .returned (.tuple #[.int .i64 (spanL xs).1, .int .i64 (spanL xs).2]) ∧ Below w.heap.size w w' := by
  have hl := h.len
  have hle := h.le
  have hcl := h.cap_le
  unfold maxLen at hcl
  by_cases h0 : n = 0
  · subst h0
    have HE := Lib.hid (show spanL xs = (1, 0) by rw [List.eq_nil_of_length_eq_zero hl]; rfl)
    clear hl
    go_enter Tryz.func108, Tryz.ntmps108
    go_wp2
    go_ret2
    exact ⟨by rw [HE.out]; rfl, Below.refl _ _⟩
  by_cases h4 : 4 < n
  · have HE := Lib.hid (show spanL xs = (1, 0) by
      cases xs with
      | nil => rfl
      | cons x t => rw [spanL, if_pos (by simp at hl; omega)])
    have he : ((n : Int) == 0) = false := by simp; omega
    have he2 : (n : Int) ≠ 0 := by omega
    clear hl
    go_enter Tryz.func108, Tryz.ntmps108
    go_wp2
    go_ret2
    exact ⟨by rw [HE.out]; rfl, Below.refl _ _⟩
  have hb := hby 0 (by omega)
  by_cases x1 : gt xs 0 < 128
  · exact span_c1 w ao n cap xs h hby _ rfl (by omega) (by omega) (by omega) x1
  by_cases x2 : 192 ≤ gt xs 0 ∧ gt xs 0 < 224
  · exact span_c2 w ao n cap xs h hby _ rfl (by omega) (by omega) x2.1 x2.2
  by_cases x3 : 224 ≤ gt xs 0 ∧ gt xs 0 < 240
  · exact span_c3 w ao n cap xs h hby _ rfl (by omega) (by omega) x3.1 x3.2
  by_cases x4 : 240 ≤ gt xs 0 ∧ gt xs 0 < 248
  · exact span_c4 w ao n cap xs h hby _ rfl (by omega) (by omega) x4.1 x4.2
  obtain ⟨b0, o0, rfl, hb0, hc0⟩ := h.cell 0 (by omega)
  have HE := Lib.hid (show spanL xs = (1, 0) by rw [spanL_head hl rfl (by omega) (by omega), if_pos (by unfold wid; rw [if_neg x1, if_neg x2, if_neg x3, if_neg x4]; omega)])
  obtain ⟨x, hx⟩ : ∃ x, x = gt xs 0 := ⟨_, rfl⟩
  have hz : w.cell? ⟨b0, o0, none⟩ = some (.int .u8 x) := by rw [hx]; exact hc0 0 (by omega)
  rw [← hx] at hb x1 x2 x3 x4
  have he : ((n : Int) == 0) = false := by simp; omega
  have he2 : (n : Int) ≠ 0 := by omega
  clear hx hc0 hl
  rcases (by omega : x < 192 ∨ 247 < x) with y1 | y1
  · clear x2 x3 x4
    go_enter Tryz.func108, Tryz.ntmps108
    go_wp2
    go_ret2
    exact ⟨by rw [HE.out]; rfl, Below.refl _ _⟩
  · clear x2 x3 x4
    go_enter Tryz.func108, Tryz.ntmps108
    go_wp2
    go_ret2
    exact ⟨by rw [HE.out]; rfl, Below.refl _ _⟩
end Go.Proofs.YtkhejkfjhddobaaGreatDoor

