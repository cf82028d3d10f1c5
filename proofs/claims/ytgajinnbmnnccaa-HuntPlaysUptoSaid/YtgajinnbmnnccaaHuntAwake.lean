/- The walks of gimletlaw16's awake, into and asked. -/
import Derived.Test.YtgajinnbmnnccaaHuntState
namespace Go.Proofs.Ytgajinnbmnnccaa
open Go.RowKit Gim
def w97 : ByteArray := ⟨#[97, 97, 98]⟩
theorem aw_x : tB 5 0 (rs ⟨#[97, 97, 98]⟩) ([] ++ rs ⟨#[97, 97]⟩) false = 1 := by decide +kernel
theorem aw_y : tB 5 0 (rs ⟨#[97, 97, 98]⟩) ([] ++ rs ⟨#[97, 97]⟩ ++ rs ⟨#[97, 98]⟩) false = 2 := by decide +kernel
theorem aw_z : tB 1 0 (rs ⟨#[195, 169]⟩) ([] ++ rs ⟨#[195, 169]⟩) false = 1 := by decide +kernel
theorem aw_t : tB 1 0 (rs ⟨#[195, 169]⟩) ([] ++ rs ⟨#[195, 169]⟩) true = 2 := by decide +kernel
set_option maxHeartbeats 1000000 in
theorem awake (w : World) : Calls Try.prog 8 #[] w fun e w' => e = .returned (.bool true) ∧ Below w.heap.size w w' := by
  have n1 : ∀ w, Calls Try.prog 9 #[.int .i64 5, .string ⟨#[97, 97, 98]⟩, .int .i64 0] w (NewOK w 5 0 (rs ⟨#[97, 97, 98]⟩)) := fun w => new_calls w 5 ⟨#[97, 97, 98]⟩ 0 (by decide) (by decide) (by decide)
  have n2 : ∀ w, Calls Try.prog 9 #[.int .i64 1, .string ⟨#[195, 169]⟩, .int .i64 0] w (NewOK w 1 0 (rs ⟨#[195, 169]⟩)) := fun w => new_calls w 1 ⟨#[195, 169]⟩ 0 (by decide) (by decide) (by decide)
  go_enter Try.func8, Try.ntmps8
  go_wp2_with fail
  refine (n1 _).mono ?_
  rintro e w1 ⟨tv, bv, rfl, s1, b1⟩
  go_wp2_with fail
  refine (add_calls _ _ _ _ _ _ _ _ _ ⟨#[97, 97]⟩ s1 (fun h => absurd (by decide) h) (by decide)).mono ?_
  rintro e w2 ⟨rfl, f2, s2⟩
  have b2 := b1.trans (f2.below b1.size (fun j hj => by omega))
  go_wp2_with fail
  refine (s2.truth (by decide) (by decide)).mono ?_
  rintro e w3 ⟨rfl, m3, rfl⟩
  rw [aw_x]
  go_wp2_with fail
  refine (add_calls _ _ _ _ _ _ _ _ _ ⟨#[97, 98]⟩ (s2.drewN m3) (fun h => absurd (by decide) h) (by decide)).mono ?_
  rintro e w4 ⟨rfl, f4, s4⟩
  have b4 := (below_drewN b2 m3).trans (f4.below (by exact b2.size) (fun j hj => by omega))
  clear f2 f4 b1 b2 s1 s2
  go_wp2_with fail
  refine (s4.truth (by decide) (by decide)).mono ?_
  rintro e w5 ⟨rfl, m5, rfl⟩
  rw [aw_y]
  go_wp2_with fail
  refine (n2 _).mono ?_
  rintro e w6 ⟨tv2, bv2, rfl, s6, b6⟩
  have hz4 : (w4.drewN m5).heap.size = w4.heap.size := rfl
  rw [hz4] at s6 b6
  have b7 := (below_drewN b4 m5).trans (b6.mono b4.size)
  have hb4 := b4.size
  clear b4 b6 s4 hz4
  have hz := b7.size
  go_wp2_with fail
  refine (add_calls _ _ _ _ _ _ _ _ _ ⟨#[195, 169]⟩ s6 (fun h => absurd (by decide) h) (by decide)).mono ?_
  rintro e w7 ⟨rfl, f7, s7⟩
  have b8 := b7.trans (f7.below hz (fun j hj => by omega))
  clear f7 b7 s6
  go_wp2_with fail
  refine (s7.truth (by decide) (by decide)).mono ?_
  rintro e w8 ⟨rfl, m8, rfl⟩
  rw [aw_z]
  go_wp2_with fail
  refine ((s7.drewN m8).close).mono ?_
  rintro e w9 ⟨rfl, f9, s9⟩
  have b9 := (below_drewN b8 m8).trans (f9.below (by exact b8.size) (fun j hj => by omega))
  clear f9 b8 s7
  go_wp2_with fail
  refine (s9.truth (by decide) (by decide)).mono ?_
  rintro e w10 ⟨rfl, m10, rfl⟩
  rw [aw_t]
  go_wp2
  go_ret
  exact ⟨rfl, below_drewN b9 m10⟩
theorem tmod_into (n m : Int) (hm : 0 < m) : (n.tmod m + m).tmod m = n % m := by
  have h1 := Int.tmod_lt_of_pos n hm
  have h2 : -m < n.tmod m := by
    have := Int.tmod_lt_of_pos (-n) hm
    rw [Int.neg_tmod] at this
    omega
  rw [Int.tmod_eq_emod_of_nonneg (by omega), Int.add_emod_right, Int.tmod_def, Int.sub_mul_emod_self_left]
set_option maxHeartbeats 1000000 in
theorem into_calls (n m : Int) (hm : 0 < m) (hm2 : m ≤ 4611686018427387904) (w : World) :
    Calls Try.prog 15 #[.int .i64 n, .int .i64 m] w fun e w' => e = .returned (.int .i64 (n % m)) ∧ w' = w := by
  have hz : (m == 0) = false := beq_eq_false_iff_ne.2 (by omega)
  have hz2 : ¬ m = 0 := by omega
  have h1 := Int.tmod_lt_of_pos n hm
  have h2 : -m < n.tmod m := by
    have := Int.tmod_lt_of_pos (-n) hm
    rw [Int.neg_tmod] at this
    omega
  have h3 := tmod_into n m hm
  go_enter Try.func15, Try.ntmps15
  go_wp2
  go_ret
  exact ⟨rfl, rfl⟩
end Go.Proofs.Ytgajinnbmnnccaa
