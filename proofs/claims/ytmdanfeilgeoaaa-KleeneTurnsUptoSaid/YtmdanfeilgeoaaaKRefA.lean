/- gimletref14: Good, value, sign, Cmp, constant, Eval of any formula. -/
import Derived.Test.YtmdanfeilgeoaaaKSame
namespace Gim
open Go Go.RowKit Go.Sort Go.Proofs Go.Lib
def sgn (x : Int) : Int := if x < 0 then -1 else if 0 < x then 1 else 0
def pick3 (a b c : Int) (q : Nat) : Int := if q = 0 then a else if q = 1 then b else c
theorem tri_lt {x1 x2 x3 y1 y2 y3 : Int} {q : Nat} (hq : q < 3) (hp : ∀ i, i < q → pick3 x1 x2 x3 i = pick3 y1 y2 y3 i) (h : pick3 x1 x2 x3 q < pick3 y1 y2 y3 q) : or3 (cmpZ x1 y1) (cmpZ x2 y2) (cmpZ x3 y3) = -1 := by
  have p0 := hp 0
  have p1 := hp 1
  simp only [pick3] at p0 p1 h
  rcases tri_cases x1 x2 x3 y1 y2 y3 with k | k | k
  · match q, hq with
    | 0, _ => simp at h; omega
    | 1, _ => simp at h; omega
    | 2, _ => simp at h; omega
  · exact k.1
  · match q, hq with
    | 0, _ => simp at h; omega
    | 1, _ => simp at h p0; omega
    | 2, _ => simp at h p0 p1; omega
theorem tri_gt {x1 x2 x3 y1 y2 y3 : Int} {q : Nat} (hq : q < 3) (hp : ∀ i, i < q → pick3 x1 x2 x3 i = pick3 y1 y2 y3 i) (h : pick3 y1 y2 y3 q < pick3 x1 x2 x3 q) : or3 (cmpZ x1 y1) (cmpZ x2 y2) (cmpZ x3 y3) = 1 := by
  have p0 := hp 0
  have p1 := hp 1
  simp only [pick3] at p0 p1 h
  rcases tri_cases x1 x2 x3 y1 y2 y3 with k | k | k
  · match q, hq with
    | 0, _ => simp at h; omega
    | 1, _ => simp at h; omega
    | 2, _ => simp at h; omega
  · match q, hq with
    | 0, _ => simp at h; omega
    | 1, _ => simp at h p0; omega
    | 2, _ => simp at h p0 p1; omega
  · exact k.1
theorem tri_eq {x1 x2 x3 y1 y2 y3 : Int} (hp : ∀ i, i < 3 → pick3 x1 x2 x3 i = pick3 y1 y2 y3 i) : or3 (cmpZ x1 y1) (cmpZ x2 y2) (cmpZ x3 y3) = 0 := by
  have p0 := hp 0 (by omega)
  have p1 := hp 1 (by omega)
  have p2 := hp 2 (by omega)
  simp [pick3] at p0 p1 p2
  rcases tri_cases x1 x2 x3 y1 y2 y3 with k | k | k
  · exact k.1
  · omega
  · omega
end Gim
namespace Go.Proofs.Ytmdanfeilgeoaaa
open Go.RowKit Gim Go.Sort Go.Lib
set_option maxHeartbeats 2000000 in
theorem good_list_calls (vs : List Int) (va : Option Addr) (vn vc : Nat) (w : World) (hV : Rd w .i64 va vn vc vs) :
    Calls Try.prog 17 #[.slice va vn vc] w fun e w' => e = .returned (.bool (goodL vs)) ∧ w' = w := by
  have hvn := hV.len
  have hvb : vn ≤ 9223372036854775807 := by have := hV.le; have := hV.cap_le; unfold maxLen at this; omega
  have HV := Lib.hid hV
  have HVN := Lib.hid hvn
  clear hV hvn
  go_enter Try.func17, Try.ntmps17
  go_wp2_with fail
  go_loopw [7] (fun i wr => ∃ (q : Nat), i = .int .i64 q ∧ q ≤ vn ∧ Hid (wr = w) ∧ Hid (goodL (vs.take q) = true)) (fun i _ => vn - (RowKit.intOf i).toNat)
  case atStart => exact ⟨0, rfl, Nat.zero_le _, Lib.hid (by trivial), Lib.hid rfl⟩
  case round =>
    obtain ⟨q, rfl, hq, hwr, HM⟩ := hrel
    have hwr := hwr.out
    subst hwr
    by_cases hqn : q < vn
    · have hqn' : (q : Int) < vn := by omega
      obtain ⟨b, o, hva, hb, hcl⟩ := HV.out.cell q hqn
      subst hva
      have c0 := hcl q hqn
      obtain ⟨t, ht⟩ : ∃ t, gt vs q = t := ⟨_, rfl⟩
      have hnx := goodL_take (vs := vs) (q := q) (by have := HVN.out; omega) HM.out
      rw [ht] at c0 hnx
      have HNX := Lib.hid hnx
      clear hcl ht hnx hb
      by_cases t0 : t < 0
      · have HB := Lib.hid (goodL_bad (HNX.out.trans (decide_eq_false (by omega))))
        go_wp2_with fail
        go_ret
        exact ⟨by rw [HB.out]; rfl, rfl⟩
      · by_cases t2 : 2 < t
        · have HB := Lib.hid (goodL_bad (HNX.out.trans (decide_eq_false (by omega))))
          have t2' : decide (2 < t) = true := decide_eq_true t2
          go_wp2_with fail
          go_ret
          exact ⟨by rw [HB.out]; simp, rfl⟩
        · have HB := Lib.hid (HNX.out.trans (decide_eq_true (by omega)))
          go_wp2_with fail
          go_roundw
          case rel => exact ⟨q + 1, by go_num, by omega, Lib.hid (by trivial), Lib.hid HB.out⟩
          case measure => simp [RowKit.intOf]; omega
    · obtain rfl : q = vn := by omega
      have HGD := Lib.hid (show goodL vs = true by have := HM.out; rw [List.take_of_length_le (by have := HVN.out; omega)] at this; exact this)
      go_wp2_with fail
      go_ret
      exact ⟨by rw [HGD.out]; rfl, rfl⟩
theorem value_calls (vs : List Int) (va : Option Addr) (vn vc : Nat) (x : Int) (w : World) (hx : 0 ≤ x) (hV : Rd w .i64 va vn vc vs) :
    Calls Try.prog 32 #[.int .i64 x, .slice va vn vc] w fun e w' => e = .returned (.int .i64 (valB vs x)) ∧ w' = w := by
  obtain ⟨X, rfl⟩ := Int.eq_ofNat_of_zero_le hx
  have hvn := hV.len
  have hvb : vn ≤ 9223372036854775807 := by have := hV.le; have := hV.cap_le; unfold maxLen at this; omega
  by_cases hxn : X < vn
  · have hxn' : (X : Int) < vn := by omega
    obtain ⟨b, o, ha, hb, hcl⟩ := hV.cell X hxn
    subst ha
    have hc := hcl X hxn
    have HT := Lib.hid (show valB vs (X : Int) = gt vs X by unfold valB; rw [if_pos (by omega)]; simp)
    obtain ⟨t, ht⟩ : ∃ t, gt vs X = t := ⟨_, rfl⟩
    rw [ht] at hc HT
    clear hcl hV ht
    go_enter Try.func32, Try.ntmps32
    go_wp2_with fail
    go_ret
    exact ⟨by rw [HT.out]; rfl, rfl⟩
  · have hxn' : ¬ (X : Int) < vn := by omega
    have HT := Lib.hid (show valB vs (X : Int) = 1 by unfold valB; rw [if_neg (by omega)])
    go_enter Try.func32, Try.ntmps32
    go_wp2_with fail
    go_ret
    exact ⟨by rw [HT.out]; rfl, rfl⟩
theorem constR_calls (t : Int) (w : World) : Calls Try.prog 36 #[.int .i64 t] w fun e w' => e = .returned (.agg #[.int .i64 0, .int .i64 t, .int .i64 0, .slice none 0 0]) ∧ Grows w w' := by
  go_enter Try.func36, Try.ntmps36
  go_wp2
  refine bodyPost_ret (v := .agg #[.int .i64 0, .int .i64 t, .int .i64 0, .slice none 0 0]) ?_ rfl ?_
  · simp [results, Try.f36, go_sem]
  · exact ⟨rfl, (Grows.refl w).alloc _⟩
theorem sign_calls (x : Int) (w : World) : Calls Try.prog 86 #[.int .i64 x] w fun e w' => e = .returned (.int .i64 (sgn x)) ∧ w' = w := by
  by_cases h0 : x < 0
  · have HS := Lib.hid (show sgn x = -1 by unfold sgn; rw [if_pos h0])
    by_cases h1 : x < -1
    · have hm : min 1 x = x := by omega
      have hm2 : max (-1) x = -1 := by omega
      go_enter Try.func86, Try.ntmps86
      go_wp2_with fail
      go_ret
      exact ⟨by rw [HS.out]; first | (simp; done) | (simp; omega), rfl⟩
    · obtain rfl : x = -1 := by omega
      go_enter Try.func86, Try.ntmps86
      go_wp2_with fail
      go_ret
      exact ⟨by rw [HS.out]; rfl, rfl⟩
  · by_cases h1 : 0 < x
    · have HS := Lib.hid (show sgn x = 1 by unfold sgn; rw [if_neg h0, if_pos h1])
      by_cases h2 : 1 < x
      · go_enter Try.func86, Try.ntmps86
        go_wp2_with fail
        go_ret
        exact ⟨by rw [HS.out]; first | (simp; done) | (simp; omega), rfl⟩
      · obtain rfl : x = 1 := by omega
        go_enter Try.func86, Try.ntmps86
        go_wp2_with fail
        go_ret
        exact ⟨by rw [HS.out]; rfl, rfl⟩
    · obtain rfl : x = 0 := by omega
      go_enter Try.func86, Try.ntmps86
      go_wp2_with fail
      go_ret
      exact ⟨rfl, rfl⟩
end Go.Proofs.Ytmdanfeilgeoaaa
