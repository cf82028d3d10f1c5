/- The walk of gimletref01.value. -/
import Derived.Test.YtpkdbfnnbbkkiaaDoorFrontWalk
namespace Gim
open Go
/-- the value of a character's first k bytes, of n -/
def valS (xs : List Int) (n : Nat) : Nat → Int
  | 0 => (bn xs 0 : Int)
  | 1 => (bn xs 0 : Int) - (if n = 2 then 192 else if n = 3 then 224 else 240)
  | k + 1 => 64 * valS xs n k + (bn xs k : Int) - 128
/-- what value answers -/
def valB (xs : List Int) : Int := if xs.length = 1 then (bn xs 0 : Int) else valS xs xs.length xs.length
end Gim
namespace Go.Proofs.YtpkdbfnnbbkkiaaDoor
open Go.RowKit Gim
set_option maxRecDepth 100000 in
set_option maxHeartbeats 2000000 in
theorem value_calls (w : World) (ao : Option Addr) (n cap : Nat) (xs : List Int) (h : Rb w ao n cap xs) (h1 : 1 ≤ n) (h4 : n ≤ 4) :
    Calls Tryd.prog 49 #[.slice ao n cap] w fun e w' => e = .returned (.int .i64 (valB xs)) ∧ w' = w := by
  have hl := h.rd.len
  obtain ⟨b, o, rfl, hbz, hcell⟩ := h.at_ (by omega)
  have hx0 := (hcell 0 (by omega)).1
  have hcp := (hcell 0 (by omega)).2 w (Below.refl _ _)
  have HC := Lib.hid (fun j hj => And.intro (hcell j hj).1 ((hcell j hj).2 w (Below.refl _ _)))
  have HV := Lib.hid (show valB xs = if n = 1 then (bn xs 0 : Int) else valS xs n n by unfold valB; rw [hl])
  have HS1 := Lib.hid (show valS xs n 1 = (bn xs 0 : Int) - (if n = 2 then 192 else if n = 3 then 224 else 240) from rfl)
  clear hcell hl
  obtain ⟨x, hx⟩ : ∃ x, x = bn xs 0 := ⟨_, rfl⟩
  rw [← hx] at hx0 hcp HV HS1
  rw [Nat.add_zero] at hcp
  clear hx
  by_cases hn1 : n = 1
  · subst hn1
    have HE := Lib.hid (HV.out.trans (if_pos rfl))
    clear HV HS1
    go_enter Tryd.func49, Tryd.ntmps49
    go_wp2
    go_ret
    exact ⟨by rw [HE.out]; rfl, rfl⟩
  · have HE := Lib.hid (HV.out.trans (if_neg hn1))
    clear HV
    obtain ⟨z, hz⟩ : ∃ z : Int, z = (if n = 2 then 192 else if n = 3 then 224 else 240) := ⟨_, rfl⟩
    rw [← hz] at HS1
    have HZ := Lib.hid hz
    have hzr : 192 ≤ z ∧ z ≤ 240 := by rw [hz]; repeat' split; all_goals omega
    clear hz
    go_enter Tryd.func49, Tryd.ntmps49
    have hstep : ∀ k, 1 ≤ k → valS xs n (k + 1) = 64 * valS xs n k + (bn xs k : Int) - 128 := fun k hk => by
      obtain ⟨k, rfl⟩ : ∃ k', k = k' + 1 := ⟨k - 1, by omega⟩
      rfl
    have HST := Lib.hid hstep
    clear hstep
    rcases (show n = 2 ∨ n = 3 ∨ n = 4 by omega) with rfl | rfl | rfl
    · obtain rfl : z = 192 := HZ.out
      clear HZ hzr
      go_wp2
      go_loopw [4, 5] (fun v u wr => ∃ (k : Nat) (r : Int), u = .int .i64 k ∧ v = .int .i64 r ∧ 1 ≤ k ∧ k ≤ 2 ∧ wr = w ∧ Hid (valS xs 2 k = r) ∧ (k = 1 → -300 ≤ r ∧ r ≤ 300) ∧ (k = 2 → -20000 ≤ r ∧ r ≤ 20000) ∧ (k = 3 → -1300000 ≤ r ∧ r ≤ 1300000) ∧ (k = 4 → -90000000 ≤ r ∧ r ≤ 90000000)) (fun _ u _ => 2 - (RowKit.intOf u).toNat)
      case atStart => exact ⟨1, _, rfl, rfl, by omega, by omega, rfl, Lib.hid HS1.out, by omega, by omega, by omega, by omega⟩
      case round =>
        obtain ⟨k, r, rfl, rfl, hk1, hkn, rfl, HR, e1, e2, e3, e4⟩ := hrel
        by_cases hk : k < 2
        · have hcy := HC.out k hk
          have HR2 := Lib.hid ((HST.out k hk1).trans (by rw [HR.out]) : valS xs 2 (k + 1) = 64 * r + (bn xs k : Int) - 128)
          obtain ⟨y, hy⟩ : ∃ y, y = bn xs k := ⟨_, rfl⟩
          rw [← hy] at hcy HR2
          obtain ⟨hy0, hcy⟩ := hcy
          clear hy HR
          have hb : -90000000 ≤ 64 * r + y - 128 ∧ 64 * r + y - 128 ≤ 90000000 := by omega
          have hb2 : -90000000 ≤ 64 * r ∧ 64 * r ≤ 90000000 := by omega
          have hb3 : -90000000 ≤ 64 * r + y ∧ 64 * r + y ≤ 90000000 := by omega
          have hb5 : (k + 1 = 2 → -20000 ≤ 64 * r + y - 128 ∧ 64 * r + y - 128 ≤ 20000) ∧ (k + 1 = 3 → -1300000 ≤ 64 * r + y - 128 ∧ 64 * r + y - 128 ≤ 1300000) := by omega
          go_wp2
          go_roundw
          case rel => exact ⟨k + 1, _, by go_num, rfl, by omega, by omega, trivial, HR2, by omega, by omega, by omega, by omega⟩
          case measure => simp [RowKit.intOf]; omega
        · obtain rfl : k = 2 := by omega
          go_wp2
          go_ret
          exact ⟨by rw [HE.out, HR.out]; rfl, rfl⟩
    · obtain rfl : z = 224 := HZ.out
      clear HZ hzr
      go_wp2
      go_loopw [4, 5] (fun v u wr => ∃ (k : Nat) (r : Int), u = .int .i64 k ∧ v = .int .i64 r ∧ 1 ≤ k ∧ k ≤ 3 ∧ wr = w ∧ Hid (valS xs 3 k = r) ∧ (k = 1 → -300 ≤ r ∧ r ≤ 300) ∧ (k = 2 → -20000 ≤ r ∧ r ≤ 20000) ∧ (k = 3 → -1300000 ≤ r ∧ r ≤ 1300000) ∧ (k = 4 → -90000000 ≤ r ∧ r ≤ 90000000)) (fun _ u _ => 3 - (RowKit.intOf u).toNat)
      case atStart => exact ⟨1, _, rfl, rfl, by omega, by omega, rfl, Lib.hid HS1.out, by omega, by omega, by omega, by omega⟩
      case round =>
        obtain ⟨k, r, rfl, rfl, hk1, hkn, rfl, HR, e1, e2, e3, e4⟩ := hrel
        by_cases hk : k < 3
        · have hcy := HC.out k hk
          have HR2 := Lib.hid ((HST.out k hk1).trans (by rw [HR.out]) : valS xs 3 (k + 1) = 64 * r + (bn xs k : Int) - 128)
          obtain ⟨y, hy⟩ : ∃ y, y = bn xs k := ⟨_, rfl⟩
          rw [← hy] at hcy HR2
          obtain ⟨hy0, hcy⟩ := hcy
          clear hy HR
          have hb : -90000000 ≤ 64 * r + y - 128 ∧ 64 * r + y - 128 ≤ 90000000 := by omega
          have hb2 : -90000000 ≤ 64 * r ∧ 64 * r ≤ 90000000 := by omega
          have hb3 : -90000000 ≤ 64 * r + y ∧ 64 * r + y ≤ 90000000 := by omega
          have hb5 : (k + 1 = 2 → -20000 ≤ 64 * r + y - 128 ∧ 64 * r + y - 128 ≤ 20000) ∧ (k + 1 = 3 → -1300000 ≤ 64 * r + y - 128 ∧ 64 * r + y - 128 ≤ 1300000) := by omega
          go_wp2
          go_roundw
          case rel => exact ⟨k + 1, _, by go_num, rfl, by omega, by omega, trivial, HR2, by omega, by omega, by omega, by omega⟩
          case measure => simp [RowKit.intOf]; omega
        · obtain rfl : k = 3 := by omega
          go_wp2
          go_ret
          exact ⟨by rw [HE.out, HR.out]; rfl, rfl⟩
    · obtain rfl : z = 240 := HZ.out
      clear HZ hzr
      go_wp2
      go_loopw [4, 5] (fun v u wr => ∃ (k : Nat) (r : Int), u = .int .i64 k ∧ v = .int .i64 r ∧ 1 ≤ k ∧ k ≤ 4 ∧ wr = w ∧ Hid (valS xs 4 k = r) ∧ (k = 1 → -300 ≤ r ∧ r ≤ 300) ∧ (k = 2 → -20000 ≤ r ∧ r ≤ 20000) ∧ (k = 3 → -1300000 ≤ r ∧ r ≤ 1300000) ∧ (k = 4 → -90000000 ≤ r ∧ r ≤ 90000000)) (fun _ u _ => 4 - (RowKit.intOf u).toNat)
      case atStart => exact ⟨1, _, rfl, rfl, by omega, by omega, rfl, Lib.hid HS1.out, by omega, by omega, by omega, by omega⟩
      case round =>
        obtain ⟨k, r, rfl, rfl, hk1, hkn, rfl, HR, e1, e2, e3, e4⟩ := hrel
        by_cases hk : k < 4
        · have hcy := HC.out k hk
          have HR2 := Lib.hid ((HST.out k hk1).trans (by rw [HR.out]) : valS xs 4 (k + 1) = 64 * r + (bn xs k : Int) - 128)
          obtain ⟨y, hy⟩ : ∃ y, y = bn xs k := ⟨_, rfl⟩
          rw [← hy] at hcy HR2
          obtain ⟨hy0, hcy⟩ := hcy
          clear hy HR
          have hb : -90000000 ≤ 64 * r + y - 128 ∧ 64 * r + y - 128 ≤ 90000000 := by omega
          have hb2 : -90000000 ≤ 64 * r ∧ 64 * r ≤ 90000000 := by omega
          have hb3 : -90000000 ≤ 64 * r + y ∧ 64 * r + y ≤ 90000000 := by omega
          have hb5 : (k + 1 = 2 → -20000 ≤ 64 * r + y - 128 ∧ 64 * r + y - 128 ≤ 20000) ∧ (k + 1 = 3 → -1300000 ≤ 64 * r + y - 128 ∧ 64 * r + y - 128 ≤ 1300000) := by omega
          go_wp2
          go_roundw
          case rel => exact ⟨k + 1, _, by go_num, rfl, by omega, by omega, trivial, HR2, by omega, by omega, by omega, by omega⟩
          case measure => simp [RowKit.intOf]; omega
        · obtain rfl : k = 4 := by omega
          go_wp2
          go_ret
          exact ⟨by rw [HE.out, HR.out]; rfl, rfl⟩
end Go.Proofs.YtpkdbfnnbbkkiaaDoor
