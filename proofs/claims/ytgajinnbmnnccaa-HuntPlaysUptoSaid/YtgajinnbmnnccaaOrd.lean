/- The walks of words.ordered, words.Compare, words.Begins, words.Ends, gimletref03.Begins, gimletref03.Ends. -/
import Derived.Test.YtgajinnbmnnccaaRunes
import Derived.Test.YtgajinnbmnnccaaStands
namespace Gim
/-- -1, 0 or 1 of two lists: the first unlike number decides, then the lengths -/
def ordI : List Int → List Int → Int
  | [], [] => 0
  | [], _ :: _ => -1
  | _ :: _, [] => 1
  | a :: l, b :: t => if a < b then -1 else if b < a then 1 else ordI l t
theorem ordI_eq : ∀ (k : Nat) (l t : List Int), k ≤ l.length → k ≤ t.length → (∀ j, j < k → gt l j = gt t j) → ordI l t = ordI (l.drop k) (t.drop k)
  | 0, _, _, _, _, _ => rfl
  | k + 1, [], _, h, _, _ => by simp at h
  | k + 1, _ :: _, [], _, h, _ => by simp at h
  | k + 1, a :: l, b :: t, h1, h2, h => by
    have h0 := h 0 (by omega)
    simp [gt] at h0
    subst h0
    simp only [ordI, List.drop_succ_cons, Int.lt_irrefl, if_false]
    exact ordI_eq k l t (by simpa using h1) (by simpa using h2) fun j hj => by have := h (j + 1) (by omega); simpa [gt] using this
theorem drop_gt {l : List Int} {k : Nat} (h : k < l.length) : l.drop k = gt l k :: l.drop (k + 1) := by rw [gt_lt h]; exact List.drop_eq_getElem_cons h
theorem ordI_less {l t : List Int} {k : Nat} (h1 : k < l.length) (h2 : k < t.length) (h : ∀ j, j < k → gt l j = gt t j) (hl : gt l k < gt t k) : ordI l t = -1 := by
  rw [ordI_eq k l t (by omega) (by omega) h, drop_gt h1, drop_gt h2]; simp [ordI, hl]
theorem ordI_greater {l t : List Int} {k : Nat} (h1 : k < l.length) (h2 : k < t.length) (h : ∀ j, j < k → gt l j = gt t j) (hl : gt t k < gt l k) : ordI l t = 1 := by
  rw [ordI_eq k l t (by omega) (by omega) h, drop_gt h1, drop_gt h2]; simp [ordI, hl]; omega
theorem ordI_short {l t : List Int} (h : ∀ j, j < l.length → gt l j = gt t j) (hl : l.length < t.length) : ordI l t = -1 := by
  rw [ordI_eq l.length l t (by omega) (by omega) h, drop_gt hl]; simp [ordI]
theorem ordI_long {l t : List Int} (h : ∀ j, j < t.length → gt l j = gt t j) (hl : t.length < l.length) : ordI l t = 1 := by
  rw [ordI_eq t.length l t (by omega) (by omega) h, drop_gt hl]; simp [ordI]
theorem ordI_self : ∀ l : List Int, ordI l l = 0
  | [] => rfl
  | a :: l => by simp [ordI, ordI_self l]
end Gim
namespace Go.Proofs.Ytgajinnbmnnccaa
open Go.RowKit Gim

set_option maxHeartbeats 400000 in
theorem ordered (a0 : Option Addr) (n0 c0 : Nat) (l : List Int) (a1 : Option Addr) (n1 c1 : Nat) (t : List Int) (w : World)
    (h0 : Rd w .i32 a0 n0 c0 l) (h1 : Rd w .i32 a1 n1 c1 t) (hl : n0 ≤ 1099511627776) :
    Calls Try.prog 40 #[.slice a0 n0 c0, .slice a1 n1 c1] w fun e w' => e = .returned (.int .i64 (ordI l t)) ∧ Drew w w' := by
  have H0 := Lib.hid h0.len
  have H1 := Lib.hid h1.len
  go_enter Try.func40, Try.ntmps40
  go_wp2
  go_loopw [5] (fun i wr => ∃ k : Nat, k ≤ n0 ∧ k ≤ n1 ∧ i = .int .i64 k ∧ Hid (∀ j, j < k → gt l j = gt t j) ∧ Drew w wr) (fun i _ => n0 - (intOf i).toNat)
  case atStart => exact ⟨0, by omega, by omega, rfl, fun j hj => by omega, Drew.refl _⟩
  case round =>
    obtain ⟨k, hk0, hk1, rfl, Hall, hbw⟩ := hrel
    by_cases hk : k < n0 ∧ k < n1
    · obtain ⟨hkn0, hkn1⟩ := hk
      obtain ⟨b0, o0, rfl, hb0, hc0⟩ := (h0.below (hbw.below _)).cell 0 (by omega)
      obtain ⟨b1, o1, rfl, hb1, hc1⟩ := (h1.below (hbw.below _)).cell 0 (by omega)
      have hx := hc0 k hkn0
      have hy := hc1 k hkn1
      clear hc0 hc1
      by_cases hless : gt l k < gt t k
      · have HR := Lib.hid (ordI_less (by rw [H0.out]; exact hkn0) (by rw [H1.out]; exact hkn1) Hall.out hless)
        have hd : decide (gt l k < gt t k) = true := by simpa using hless
        go_wp2
        go_quiet (fail)
        go_wp2
        go_ret
        exact ⟨by rw [HR.out]; rfl, hbw.drewN _⟩
      · have hd : decide (gt l k < gt t k) = false := by simpa using hless
        by_cases hgr : gt t k < gt l k
        · have HR := Lib.hid (ordI_greater (by rw [H0.out]; exact hkn0) (by rw [H1.out]; exact hkn1) Hall.out hgr)
          have hd2 : decide (gt t k < gt l k) = true := by simpa using hgr
          go_wp2
          go_quiet (fail)
          go_wp2
          go_quiet (fail)
          go_wp2
          go_ret
          exact ⟨by rw [HR.out]; rfl, by first | exact hbw.drewN _ | exact (hbw.drewN _).drewN _⟩
        · have hd2 : decide (gt t k < gt l k) = false := by simpa using hgr
          go_wp2
          go_quiet (fail)
          go_wp2
          go_quiet (fail)
          go_wp2
          go_roundw
          case rel => exact ⟨k + 1, by omega, by omega, by go_num, fun j hj => by
            by_cases hjk : j < k
            · exact Hall.out j hjk
            · obtain rfl : j = k := by omega
              omega, by first | exact hbw.drewN _ | exact (hbw.drewN _).drewN _⟩
          case measure => simp [intOf]; omega
    · by_cases hk' : k < n0
      · have hkn : ¬ k < n1 := by omega
        have HR := Lib.hid (ordI_long (l := l) (t := t) (fun j hj => Hall.out j (by rw [H1.out] at hj; omega)) (by rw [H0.out, H1.out]; omega))
        go_wp2
        go_ret
        exact ⟨by rw [HR.out]; rfl, hbw⟩
      · by_cases hlt : n0 < n1
        · have HR := Lib.hid (ordI_short (l := l) (t := t) (fun j hj => Hall.out j (by rw [H0.out] at hj; omega)) (by rw [H0.out, H1.out]; omega))
          go_wp2
          go_ret
          exact ⟨by rw [HR.out]; rfl, hbw⟩
        · have HR := Lib.hid (show ordI l t = 0 by
            rw [gt_ext (l := l) (t := t) (by rw [H0.out, H1.out]; omega) fun j hj => Hall.out j (by rw [H0.out] at hj; omega)]; exact ordI_self _)
          go_wp2
          go_ret
          exact ⟨by rw [HR.out]; rfl, hbw⟩

set_option maxHeartbeats 400000 in
theorem compare (s t : ByteArray) (w : World) (hs : s.size ≤ 1099511627776) (ht : t.size ≤ 1099511627776) :
    Calls Try.prog 24 #[.string s, .string t] w fun e w' => e = .returned (.int .i64 (ordI (rs s) (rs t))) ∧ Below w.heap.size w w' := by
  go_enter Try.func24, Try.ntmps24
  go_wp2_with fail
  refine (wordsRunes _ _ hs).mono ?_
  rintro e w1 ⟨v1, rfl, hr1, hb1⟩
  obtain ⟨a1, c1, rfl, rd1⟩ := hr1.rd
  go_wp2_with fail
  refine (wordsRunes _ _ ht).mono ?_
  rintro e w2 ⟨v2, rfl, hr2, hb2⟩
  obtain ⟨a2, c2, rfl, rd2⟩ := hr2.rd
  have hbw := hb1.trans (hb2.mono hb1.size)
  go_wp2_with fail
  refine (ordered _ _ _ _ _ _ _ _ _ (rd1.below hb2) rd2 (by have := rs_length s; omega)).mono ?_
  rintro e w3 ⟨rfl, hb3⟩
  go_wp2
  go_ret
  exact ⟨rfl, hbw.trans (hb3.below _)⟩

theorem take_eq_stands {l t : List Int} (h : t.length ≤ l.length) : (l.take t.length == t) = standsB l t 0 := by
  rw [Bool.eq_iff_iff, standsB_iff]
  simp only [beq_iff_eq]
  constructor
  · intro e
    refine ⟨by omega, fun j hj => ?_⟩
    rw [Nat.zero_add, ← show gt (l.take t.length) j = gt l j by simp [gt, hj], e]
  · rintro ⟨_, h2⟩
    refine gt_ext (by simp; omega) fun j hj => ?_
    have hj' : j < t.length := by simp at hj; omega
    rw [show gt (l.take t.length) j = gt l j by simp [gt, hj']]
    simpa using h2 j hj'
theorem drop_eq_stands {l t : List Int} (h : t.length ≤ l.length) : (l.drop (l.length - t.length) == t) = standsB l t (l.length - t.length) := by
  rw [Bool.eq_iff_iff, standsB_iff]
  simp only [beq_iff_eq]
  have hg : ∀ j, gt (l.drop (l.length - t.length)) j = gt l (l.length - t.length + j) := fun j => by simp [gt]
  constructor
  · intro e
    refine ⟨by omega, fun j hj => ?_⟩
    rw [← hg, e]
  · rintro ⟨_, h2⟩
    refine gt_ext (by simp; omega) fun j hj => ?_
    rw [hg]
    exact h2 j (by simp at hj; omega)

/-- does l end with t? -/
def endsB (l t : List Int) : Bool := decide (t.length ≤ l.length) && standsB l t (l.length - t.length)

set_option maxHeartbeats 400000 in
theorem begins (s t : ByteArray) (w : World) (hs : s.size ≤ 1099511627776) (ht : t.size ≤ 1099511627776) :
    Calls Try.prog 25 #[.string s, .string t] w fun e w' => e = .returned (.bool (standsB (rs s) (rs t) 0)) ∧ Below w.heap.size w w' := by
  have l1 := rs_length s
  have l2 := rs_length t
  by_cases hle : (rs t).length ≤ (rs s).length
  all_goals
    go_enter Try.func25, Try.ntmps25
    go_wp2_with fail
    refine (wordsRunes _ _ hs).mono ?_
    rintro e w1 ⟨v1, rfl, hr1, hb1⟩
    obtain ⟨a1, c1, rfl, rd1⟩ := hr1.rd
    go_wp2_with fail
    refine (wordsRunes _ _ ht).mono ?_
    rintro e w2 ⟨v2, rfl, hr2, hb2⟩
    obtain ⟨a2, c2, rfl, rd2⟩ := hr2.rd
    have hbw := hb1.trans (hb2.mono hb1.size)
    have rd1' := rd1.below hb2
    have hc1 := rd1.le
  · go_wp2_with fail
    refine (alike _ _ _ _ _ _ _ _ _ (rd1'.take hle) rd2 (by omega)).mono ?_
    rintro e w3 ⟨rfl, hb3⟩
    rw [take_eq_stands hle]
    go_wp2_with fail
    go_ret
    exact ⟨rfl, hbw.trans (hb3.below _)⟩
  · have HF := Lib.hid (show standsB (rs s) (rs t) 0 = false by
      cases hh : standsB (rs s) (rs t) 0
      · rfl
      · have := (standsB_iff.1 hh).1; omega)
    go_wp2_with fail
    go_ret
    exact ⟨by rw [HF.out]; rfl, hbw⟩

set_option maxHeartbeats 400000 in
theorem ends (s t : ByteArray) (w : World) (hs : s.size ≤ 1099511627776) (ht : t.size ≤ 1099511627776) :
    Calls Try.prog 21 #[.string s, .string t] w fun e w' => e = .returned (.bool (endsB (rs s) (rs t))) ∧ Below w.heap.size w w' := by
  have l1 := rs_length s
  have l2 := rs_length t
  by_cases hle : (rs t).length ≤ (rs s).length
  all_goals
    go_enter Try.func21, Try.ntmps21
    go_wp2_with fail
    refine (wordsRunes _ _ hs).mono ?_
    rintro e w1 ⟨v1, rfl, hr1, hb1⟩
    obtain ⟨a1, c1, rfl, rd1⟩ := hr1.rd
    go_wp2_with fail
    refine (wordsRunes _ _ ht).mono ?_
    rintro e w2 ⟨v2, rfl, hr2, hb2⟩
    obtain ⟨a2, c2, rfl, rd2⟩ := hr2.rd
    have hbw := hb1.trans (hb2.mono hb1.size)
    have rd1' := rd1.below hb2
    have hc1 := rd1.le
  · have hsub : ((rs s).length : Int) - ((rs t).length : Int) = (((rs s).length - (rs t).length : Nat) : Int) := by omega
    have HE := Lib.hid (show endsB (rs s) (rs t) = ((rs s).drop ((rs s).length - (rs t).length) == rs t) by unfold endsB; rw [decide_eq_true hle, drop_eq_stands hle]; rfl)
    go_wp2_with fail
    all_goals
      have rdd := rd1'.drop (m := (rs s).length - (rs t).length) (by omega)
      first
        | (have hc0 : c1 = (rs s).length - (rs t).length := by assumption
           rw [if_pos hc0, show c1 - ((rs s).length - (rs t).length) = 0 from by omega] at rdd
           clear hc0)
        | rw [if_neg (by assumption)] at rdd
      refine (alike _ _ _ _ _ _ _ _ _ rdd rd2 (by omega)).mono ?_
      rintro e w3 ⟨rfl, hb3⟩
      go_wp2_with fail
      go_ret
      exact ⟨by rw [HE.out]; rfl, hbw.trans (hb3.below _)⟩
  · have HF := Lib.hid (show endsB (rs s) (rs t) = false by unfold endsB; rw [decide_eq_false hle]; rfl)
    go_wp2_with fail
    go_ret
    exact ⟨by rw [HF.out]; rfl, hbw⟩

end Go.Proofs.Ytgajinnbmnnccaa
