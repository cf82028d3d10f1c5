/- The walk of gimletlaw16.HuntWords. -/
import Derived.Test.YtgajinnbmnnccaaHuntWordsLaw
import Derived.Test.YtgajinnbmnnccaaFind
namespace Go.Proofs.Ytgajinnbmnnccaa
open Go.RowKit Gim
set_option maxHeartbeats 2000000 in
theorem huntWordsWalk (c0 n0 : Int) (s text : ByteArray) (w : World) (hn : n0 ≤ 9223372036854775807) (hs : s.size ≤ 1048576) (ht : text.size ≤ 1048576) :
    Calls Try.prog 7 #[.agg #[.int .i64 c0, .string s, .int .i64 n0], .string text] w fun e w' => e = .returned (.bool true) ∧ Below w.heap.size w w' := by
  have hA : ∀ w, Calls Try.prog 13 #[.agg #[.int .i64 c0, .string s, .int .i64 n0]] w (AskedOK w c0 n0.toNat s) := fun w => asked_calls c0 n0 s hn (by omega) w
  have hI : ∀ w, Calls Try.prog 15 #[.int .i64 c0, .int .i64 9] w fun e w' => e = .returned (.int .i64 (c0 % 9)) ∧ w' = w := fun w => into_calls c0 9 (by decide) (by decide) w
  go_enter Try.func7, Try.ntmps7
  go_wp2_with fail
  refine (awake _).mono ?_
  rintro e w1 ⟨rfl, b1⟩
  have x0 : w1.heap[w.heap.size]? = some (Obj.cells #[.int .i64 c0, .string s, .int .i64 n0] 23) := (b1.block _ (by simp)).trans (heap_alloc_new w _)
  have b0 : Below w.heap.size w w1 := ((Below.refl _ _).alloc (Nat.le_refl _) _).trans (b1.mono (by simp))
  clear b1
  have hz1 := (Array.getElem?_eq_some_iff.1 x0).1
  have y0 : w1.cell? ⟨w.heap.size, 0, none⟩ = some (.int .i64 c0) := by simp [World.cell?, x0]
  have y1 : w1.cell? ⟨w.heap.size, 1, none⟩ = some (.string s) := by simp [World.cell?, x0]
  have y2 : w1.cell? ⟨w.heap.size, 2, none⟩ = some (.int .i64 n0) := by simp [World.cell?, x0]
  go_wp2_with fail
  refine (hA _).mono ?_
  rintro e w2 ⟨H, tv, bv, rfl, hH, s2, b2⟩
  go_wp2_with fail
  refine (add_calls _ _ _ _ _ _ _ _ _ text s2 (askedT_fl _ _) (by simp; omega)).mono ?_
  rintro e w3 ⟨rfl, f3, s3⟩
  rw [List.nil_append] at s3
  go_wp2_with fail
  refine s3.close.mono ?_
  rintro e w4 ⟨rfl, f4, s4⟩
  have f5 := f3.trans f4
  have b5 : Below w1.heap.size w1 w4 := b2.trans (f5.below b2.size (fun j hj => by omega))
  have b6 : Below w.heap.size w w4 := b0.trans (b5.mono b0.size)
  have x4 := (b5.block _ hz1).trans x0
  clear f3 f4 f5 b2 s2 s3 x0 y0 y1 y2 b0 b5
  go_wp2_with fail
  refine (wordsLength _ _ (by omega)).mono ?_
  rintro e w5 ⟨rfl, b7⟩
  have s5 := s4.fr (Fr.of (p := fun _ => False) b7) (fun x => x) (fun _ _ x => x)
  have hz4 := (Array.getElem?_eq_some_iff.1 x4).1
  have x5 := (b7.block _ hz4).trans x4
  have b8 := b6.trans (b7.mono b6.size)
  clear s4 b7 x4 b6
  have y0 : w5.cell? ⟨w.heap.size, 0, none⟩ = some (.int .i64 c0) := by simp [World.cell?, x5]
  have y1 : w5.cell? ⟨w.heap.size, 1, none⟩ = some (.string s) := by simp [World.cell?, x5]
  have y2 : w5.cell? ⟨w.heap.size, 2, none⟩ = some (.int .i64 n0) := by simp [World.cell?, x5]
  obtain ⟨N, hN⟩ : ∃ N, N = n0.toNat := ⟨_, rfl⟩
  have hz : (if n0 < 0 then (0 : Int) else n0) = (N : Int) := by split <;> omega
  rw [← hN] at s5
  have h0 : 0 ≤ c0 % 9 := Int.emod_nonneg _ (by decide)
  have h8 : c0 % 9 < 9 := Int.emod_lt_of_pos _ (by decide)
  obtain ⟨c, hc⟩ : ∃ c, c = c0 % 9 := ⟨_, rfl⟩
  rw [← hc] at h0 h8 s5 hI
  clear hc hN hA
  go_wp2_with fail
  refine (hI _).mono ?_
  rintro e w6 ⟨rfl, rfl⟩
  obtain ⟨b, hb⟩ : ∃ b, wantB c N (rs s) (rs text) = b := ⟨_, rfl⟩
  have hTr : ∀ w, St w (H + 1) H c N (askedT c s) tv bv (rs text) true → Calls Try.prog 12 #[.pointer (some ⟨H, 0, none⟩)] w fun e w' => e = .returned (.int .i64 (if b then 2 else 0)) ∧ ∃ m, w' = w.drewN m := fun w hw => by
    have := hw.truth h0 (by omega)
    rwa [whole_want h0 (by omega), hb] at this
  have HT := Lib.hid hTr
  have HB := Lib.hid hb
  have H5 := Lib.hid s5
  have B8 := Lib.hid b8
  clear hTr hb hI s5 x5 b8
  obtain rfl | rfl | rfl | rfl | rfl | rfl | rfl | rfl | rfl : c = 0 ∨ c = 1 ∨ c = 2 ∨ c = 3 ∨ c = 4 ∨ c = 5 ∨ c = 6 ∨ c = 7 ∨ c = 8 := by omega
  · obtain rfl : b = true := HB.out.symm
    go_wp2_with fail
    refine (HT.out _ H5.out).mono ?_
    rintro e w8 ⟨rfl, m8, rfl⟩
    go_wp2
    go_ret
    exact ⟨rfl, below_drewN B8.out m8⟩
  · have hu : (ordI (rs text) (rs s) == 0) = b := HB.out
    go_wp2_with fail
    refine (compare _ _ _ (by omega) (by omega)).mono ?_
    rintro e w7 ⟨rfl, b7⟩
    cases b
    all_goals
      go_wp2_with fail
      refine (HT.out _ (H5.out.fr (Fr.of (p := fun _ => False) b7) (fun x => x) (fun _ _ x => x))).mono ?_
      rintro e w8 ⟨rfl, m8, rfl⟩
      go_wp2
      go_ret
      exact ⟨rfl, below_drewN (B8.out.trans (b7.mono B8.out.size)) m8⟩
  · have hu : (ordI (rs text) (rs s) != 0) = b := HB.out
    have hu2 : (ordI (rs text) (rs s) == 0) = !b := by rw [← hu]; simp [bne]
    go_wp2_with fail
    refine (compare _ _ _ (by omega) (by omega)).mono ?_
    rintro e w7 ⟨rfl, b7⟩
    cases b
    all_goals
      go_wp2_with fail
      refine (HT.out _ (H5.out.fr (Fr.of (p := fun _ => False) b7) (fun x => x) (fun _ _ x => x))).mono ?_
      rintro e w8 ⟨rfl, m8, rfl⟩
      go_wp2
      go_ret
      exact ⟨rfl, below_drewN (B8.out.trans (b7.mono B8.out.size)) m8⟩
  · have hu : standsB (rs text) (rs s) 0 = b := HB.out
    go_wp2_with fail
    refine (begins _ _ _ (by omega) (by omega)).mono ?_
    rw [hu]
    rintro e w7 ⟨rfl, b7⟩
    cases b
    all_goals
      go_wp2_with fail
      refine (HT.out _ (H5.out.fr (Fr.of (p := fun _ => False) b7) (fun x => x) (fun _ _ x => x))).mono ?_
      rintro e w8 ⟨rfl, m8, rfl⟩
      go_wp2
      go_ret
      exact ⟨rfl, below_drewN (B8.out.trans (b7.mono B8.out.size)) m8⟩
  · have hu : endsB (rs text) (rs s) = b := HB.out
    go_wp2_with fail
    refine (ends _ _ _ (by omega) (by omega)).mono ?_
    rw [hu]
    rintro e w7 ⟨rfl, b7⟩
    cases b
    all_goals
      go_wp2_with fail
      refine (HT.out _ (H5.out.fr (Fr.of (p := fun _ => False) b7) (fun x => x) (fun _ _ x => x))).mono ?_
      rintro e w8 ⟨rfl, m8, rfl⟩
      go_wp2
      go_ret
      exact ⟨rfl, below_drewN (B8.out.trans (b7.mono B8.out.size)) m8⟩
  · have hu : decide (0 ≤ findI (rs text) (rs s)) = b := HB.out
    go_wp2_with fail
    refine (find _ _ _ (by omega) (by omega)).mono ?_
    rintro e w7 ⟨rfl, b7⟩
    cases b
    all_goals
      go_wp2_with fail
      refine (HT.out _ (H5.out.fr (Fr.of (p := fun _ => False) b7) (fun x => x) (fun _ _ x => x))).mono ?_
      rintro e w8 ⟨rfl, m8, rfl⟩
      go_wp2
      go_ret
      exact ⟨rfl, below_drewN (B8.out.trans (b7.mono B8.out.size)) m8⟩
  · have hu : decide ((rs text).length = N) = b := HB.out
    have hu2 : ((((rs text).length : Nat) : Int) == (N : Int)) = b := by
      rw [← hu]
      by_cases h : (rs text).length = N
      · simp [h]
      · simp only [h, decide_false]; exact beq_eq_false_iff_ne.2 (by omega)
    cases b
    all_goals
      go_wp2_with fail
      refine (HT.out _ H5.out).mono ?_
      rintro e w8 ⟨rfl, m8, rfl⟩
      go_wp2
      go_ret
      exact ⟨rfl, below_drewN B8.out m8⟩
  · have hu : decide (N < (rs text).length) = b := HB.out
    cases b
    all_goals
      go_wp2_with fail
      refine (HT.out _ H5.out).mono ?_
      rintro e w8 ⟨rfl, m8, rfl⟩
      go_wp2
      go_ret
      exact ⟨rfl, below_drewN B8.out m8⟩
  · have hu : decide ((rs text).length < N) = b := HB.out
    cases b
    all_goals
      go_wp2_with fail
      refine (HT.out _ H5.out).mono ?_
      rintro e w8 ⟨rfl, m8, rfl⟩
      go_wp2
      go_ret
      exact ⟨rfl, below_drewN B8.out m8⟩
theorem huntWords_walk (c0 : Int) (s : ByteArray) (n0 : Int) (text : ByteArray) (w : World) (_ : (Lit.int .i64 c0).wf = true) (hs : s.size ≤ 1048576) (hn : (Lit.int .i64 n0).wf = true) (ht : text.size ≤ 1048576) :
    Calls Try.prog 7 #[.agg #[.int .i64 c0, .string s, .int .i64 n0], .string text] w fun e w' => e = .returned (.bool true) ∧ Below w.heap.size w w' :=
  huntWordsWalk c0 n0 s text w (by have h : -9223372036854775808 ≤ n0 ∧ n0 ≤ 9223372036854775807 := by simpa [Lit.wf, IntKind.min, IntKind.max, IntKind.signed, IntKind.bits] using hn
                                   exact h.2) hs ht
end Go.Proofs.Ytgajinnbmnnccaa
