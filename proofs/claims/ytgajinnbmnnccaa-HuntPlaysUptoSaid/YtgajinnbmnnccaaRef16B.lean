/- The walks of gimletref16.Whole and Open. -/
import Derived.Test.YtgajinnbmnnccaaRef16A
namespace Go.Proofs.Ytgajinnbmnnccaa
open Go.RowKit Gim
theorem same_st {l t : List Int} (h : l.length = t.length) : standsB l t 0 = decide (l = t) := by
  rw [← begins_iff, ← same_iff, decide_eq_true (by omega : t.length ≤ l.length), decide_eq_true h, Bool.and_true, Bool.true_and]
theorem offB_comm (l t : List Int) : offB l t = offB t l := by
  unfold offB
  rw [Nat.min_comm]
  refine congrArg _ (funext fun j => ?_)
  rw [bne_comm]
theorem begins_of (l t : List Int) : standsB t l 0 = !(offB l t || decide (t.length < l.length)) := by
  rw [← begins_iff, offB_comm t l, Bool.not_or]
  congr 1
  rw [← decide_not]
  exact decide_eq_decide.2 (by omega)
/-- what the document says of a text that comes -/
def openR (c : Int) (N : Nat) (t l : List Int) : Int :=
  if c = 0 then 2
  else if c = 1 then (if !standsB t l 0 then 0 else 1)
  else if c = 2 then (if !standsB t l 0 then 2 else 1)
  else if c = 3 then (if standsB l t 0 then 2 else if !standsB t l 0 then 0 else 1)
  else if c = 5 then (if fndB l t then 2 else 1)
  else if c = 6 then (if decide (N < l.length) then 0 else 1)
  else if c = 7 then (if decide (N < l.length) then 2 else 1)
  else if c = 8 then (if decide (N ≤ l.length) then 0 else 1)
  else 1
theorem openR_tB {c : Int} {N : Nat} {s : ByteArray} {l : List Int} (h0 : 0 ≤ c) (h8 : c ≤ 8) : openR c N (rs s) l = tB c N (askedT c s) l false := by
  have E1 : toldZ (false && decide (l.length = (rs s).length) && !offB l (rs s)) (offB l (rs s) || decide ((rs s).length < l.length)) false = if !standsB (rs s) l 0 then 0 else 1 := by
    rw [begins_of, Bool.not_not]
    cases (offB l (rs s) || decide ((rs s).length < l.length)) <;> rfl
  obtain rfl | rfl | rfl | rfl | rfl | rfl | rfl | rfl | rfl : c = 0 ∨ c = 1 ∨ c = 2 ∨ c = 3 ∨ c = 4 ∨ c = 5 ∨ c = 6 ∨ c = 7 ∨ c = 8 := by omega
  · rfl
  · exact E1.symm
  · show (if !standsB (rs s) l 0 then (2 : Int) else 1) = 2 - toldZ (false && decide (l.length = (rs s).length) && !offB l (rs s)) (offB l (rs s) || decide ((rs s).length < l.length)) false
    rw [E1]
    cases standsB (rs s) l 0 <;> rfl
  · show (if standsB l (rs s) 0 then (2 : Int) else if !standsB (rs s) l 0 then 0 else 1) = toldZ (!offB l (rs s) && decide ((rs s).length ≤ l.length)) (offB l (rs s)) false
    rw [begins_iff]
    cases hb : standsB l (rs s) 0
    · rw [← begins_iff] at hb
      rw [begins_of, Bool.not_not]
      cases ho : offB l (rs s)
      · rw [ho, Bool.not_false, Bool.true_and, decide_eq_false_iff_not] at hb
        rw [decide_eq_false (by omega)]; rfl
      · rfl
    · rfl
  · rfl
  · show (if fndB l (rs s) then (2 : Int) else 1) = toldZ (fndB l (rs s)) false false
    cases fndB l (rs s) <;> rfl
  · show (if decide (N < l.length) then (0 : Int) else 1) = toldZ (false && decide (l.length = N)) (decide (N < l.length)) false
    cases decide (N < l.length) <;> rfl
  · show (if decide (N < l.length) then (2 : Int) else 1) = toldZ (decide (N < l.length)) false false
    cases decide (N < l.length) <;> rfl
  · show (if decide (N ≤ l.length) then (0 : Int) else 1) = toldZ (false && decide (l.length < N)) (decide (N ≤ l.length)) false
    cases decide (N ≤ l.length) <;> rfl
set_option maxHeartbeats 4000000 in
theorem whole_calls (c : Int) (hc0 : 0 ≤ c) (hc8 : c ≤ 8) (a0 : Option Addr) (n0 c0 : Nat) (l : List Int) (a1 : Option Addr) (n1 c1 : Nat) (t : List Int) (N : Nat) (w : World)
    (h0 : Rd w .i64 a0 n0 c0 l) (h1 : Rd w .i64 a1 n1 c1 t) (hl : n0 ≤ 1099511627776) (ht : n1 ≤ 1099511627776) :
    Calls Try.prog 36 #[.slice a0 n0 c0, .slice a1 n1 c1, .int .i64 c, .int .i64 N] w fun e w' => e = .returned (.bool (wantB c N t l)) ∧ Drew w w' := by
  have H0 := Lib.hid h0.len
  have H1 := Lib.hid h1.len
  have hA : Hid (∀ w2, Drew w w2 → Calls Try.prog 45 #[.slice a0 n0 c0, .slice a1 n1 c1, .int .i64 0] w2 fun e w' => e = .returned (.bool (standsB l t 0)) ∧ Drew w2 w') := fun w2 d =>
    at_calls a0 n0 c0 l a1 n1 c1 t 0 w2 (h0.below (d.below _)) (h1.below (d.below _)) (by omega) hl ht
  have hB : Hid (∀ w2, Drew w w2 → Calls Try.prog 45 #[.slice a1 n1 c1, .slice a0 n0 c0, .int .i64 0] w2 fun e w' => e = .returned (.bool (standsB t l 0)) ∧ Drew w2 w') := fun w2 d =>
    at_calls a1 n1 c1 t a0 n0 c0 l 0 w2 (h1.below (d.below _)) (h0.below (d.below _)) (by omega) ht hl
  have hW : Hid (∀ w2, Drew w w2 → Calls Try.prog 46 #[.slice a0 n0 c0, .slice a1 n1 c1] w2 fun e w' => e = .returned (.bool (fndB l t)) ∧ Drew w2 w') := fun w2 d =>
    within_calls a0 n0 c0 l a1 n1 c1 t w2 (h0.below (d.below _)) (h1.below (d.below _)) hl ht
  have hE : Hid (∀ w2 (q : Nat), q ≤ n0 → Drew w w2 → Calls Try.prog 45 #[.slice a0 n0 c0, .slice a1 n1 c1, .int .i64 q] w2 fun e w' => e = .returned (.bool (standsB l t q)) ∧ Drew w2 w') := fun w2 q hq d =>
    at_calls a0 n0 c0 l a1 n1 c1 t q w2 (h0.below (d.below _)) (h1.below (d.below _)) (by omega) hl ht
  clear h0 h1
  clear hB
  obtain rfl | rfl | rfl | rfl | rfl | rfl | rfl | rfl | rfl : c = 0 ∨ c = 1 ∨ c = 2 ∨ c = 3 ∨ c = 4 ∨ c = 5 ∨ c = 6 ∨ c = 7 ∨ c = 8 := by omega
  · show Calls _ _ _ _ fun e w' => e = .returned (.bool true) ∧ Drew w w'
    go_enter Try.func36, Try.ntmps36
    go_wp2
    go_ret
    exact ⟨rfl, Drew.refl _⟩
  · by_cases hn : n0 = n1
    · have hbq : ((n0 : Int) == n1) = true := by rw [hn]; simp
      have hbn : ((n0 : Int) != n1) = false := by rw [hn]; simp
      have hv : wantB 1 N t l = standsB l t 0 := by
        rw [same_st (by rw [H0.out, H1.out, hn])]; show (ordI l t == 0) = _; rw [Bool.eq_iff_iff, beq_iff_eq, decide_eq_true_eq]; exact ordI_zero_iff
      rw [hv]
      have hnx := Lib.hid hn
      obtain ⟨b, hbb⟩ : ∃ b, Hid (b = standsB l t 0) := ⟨_, rfl⟩
      rw [← hbb.out] at hA ⊢
      clear hv hn
      go_enter Try.func36, Try.ntmps36
      go_wp2_with fail
      refine (hA.out _ (Drew.refl _)).mono ?_
      rintro e w2 ⟨rfl, d1⟩
      go_wp2
      go_ret
      exact ⟨rfl, d1⟩
    · have hbq : ((n0 : Int) == n1) = false := beq_eq_false_iff_ne.2 (by omega)
      have hbn : ((n0 : Int) != n1) = true := by rw [bne, hbq]; rfl
      have hv : wantB 1 N t l = false := by
        show (ordI l t == 0) = _; refine beq_eq_false_iff_ne.2 (fun h => hn ?_); rw [← H0.out, ← H1.out, ordI_zero_iff.1 h]
      rw [hv]
      clear hv hA
      go_enter Try.func36, Try.ntmps36
      go_wp2
      go_ret
      exact ⟨rfl, Drew.refl _⟩
  · by_cases hn : n0 = n1
    · have hbq : ((n0 : Int) == n1) = true := by rw [hn]; simp
      have hbn : ((n0 : Int) != n1) = false := by rw [hn]; simp
      have hv : wantB 2 N t l = !standsB l t 0 := by
        rw [same_st (by rw [H0.out, H1.out, hn])]; show (!(ordI l t == 0)) = _; congr 1; rw [Bool.eq_iff_iff, beq_iff_eq, decide_eq_true_eq]; exact ordI_zero_iff
      rw [hv]
      have hnx := Lib.hid hn
      obtain ⟨b, hbb⟩ : ∃ b, Hid (b = standsB l t 0) := ⟨_, rfl⟩
      rw [← hbb.out] at hA ⊢
      clear hv hn
      go_enter Try.func36, Try.ntmps36
      go_wp2_with fail
      refine (hA.out _ (Drew.refl _)).mono ?_
      rintro e w2 ⟨rfl, d1⟩
      go_wp2
      go_ret
      exact ⟨rfl, d1⟩
    · have hbq : ((n0 : Int) == n1) = false := beq_eq_false_iff_ne.2 (by omega)
      have hbn : ((n0 : Int) != n1) = true := by rw [bne, hbq]; rfl
      have hv : wantB 2 N t l = true := by
        show (!(ordI l t == 0)) = _; rw [Bool.not_eq_true']; refine beq_eq_false_iff_ne.2 (fun h => hn ?_); rw [← H0.out, ← H1.out, ordI_zero_iff.1 h]
      rw [hv]
      clear hv hA
      go_enter Try.func36, Try.ntmps36
      go_wp2
      go_ret
      exact ⟨rfl, Drew.refl _⟩
  · show Calls _ _ _ _ fun e w' => e = .returned (.bool (standsB l t 0)) ∧ Drew w w'
    obtain ⟨b, hbb⟩ : ∃ b, Hid (b = standsB l t 0) := ⟨_, rfl⟩
    rw [← hbb.out] at hA ⊢
    go_enter Try.func36, Try.ntmps36
    go_wp2_with fail
    refine (hA.out _ (Drew.refl _)).mono ?_
    rintro e w2 ⟨rfl, d1⟩
    go_wp2
    go_ret
    exact ⟨rfl, d1⟩
  · show Calls _ _ _ _ fun e w' => e = .returned (.bool (endsB l t)) ∧ Drew w w'
    by_cases hn : n1 ≤ n0
    · obtain ⟨q, hq⟩ : ∃ q : Nat, (n0 : Int) - n1 = q := ⟨n0 - n1, by omega⟩
      have hv : endsB l t = standsB l t q := by
        unfold endsB
        rw [H0.out, H1.out, decide_eq_true hn, Bool.true_and, show n0 - n1 = q by omega]
      rw [hv]
      have hE2 := hE.out w q (by omega) (Drew.refl _)
      obtain ⟨b, hbb⟩ : ∃ b, Hid (b = standsB l t q) := ⟨_, rfl⟩
      rw [← hbb.out] at hE2 ⊢
      clear hv
      go_enter Try.func36, Try.ntmps36
      go_wp2_with fail
      refine (hE2).mono ?_
      rintro e w2 ⟨rfl, d1⟩
      go_wp2
      go_ret
      exact ⟨rfl, d1⟩
    · have hv : endsB l t = false := by
        unfold endsB
        rw [H0.out, H1.out, decide_eq_false hn, Bool.false_and]
      rw [hv]
      clear hv
      go_enter Try.func36, Try.ntmps36
      go_wp2_with fail
      refine (at_neg _ _ _ _ (by omega)).mono ?_
      rintro e w2 ⟨rfl, d1⟩
      go_wp2
      go_ret
      exact ⟨rfl, d1⟩
  · have hv : wantB 5 N t l = fndB l t := (fnd_iff l t).symm
    rw [hv]
    obtain ⟨b, hbb⟩ : ∃ b, Hid (b = fndB l t) := ⟨_, rfl⟩
    rw [← hbb.out] at hW ⊢
    clear hv
    go_enter Try.func36, Try.ntmps36
    go_wp2_with fail
    refine (hW.out _ (Drew.refl _)).mono ?_
    rintro e w2 ⟨rfl, d1⟩
    go_wp2
    go_ret
    exact ⟨rfl, d1⟩
  · have hv : wantB 6 N t l = decide (n0 = N) := by show decide _ = _; rw [H0.out]
    rw [hv]
    clear hv
    by_cases hn : n0 = N
    · rw [decide_eq_true hn]
      have hbq : ((n0 : Int) == (N : Int)) = true := by rw [hn]; simp
      have hnx := Lib.hid hn
      clear hn
      go_enter Try.func36, Try.ntmps36
      go_wp2
      go_ret
      exact ⟨rfl, Drew.refl _⟩
    · rw [decide_eq_false hn]
      have hbq : ((n0 : Int) == (N : Int)) = false := beq_eq_false_iff_ne.2 (by omega)
      go_enter Try.func36, Try.ntmps36
      go_wp2
      go_ret
      exact ⟨rfl, Drew.refl _⟩
  · have hv : wantB 7 N t l = decide (N < n0) := by show decide _ = _; rw [H0.out]
    rw [hv]
    clear hv
    by_cases hn : N < n0
    · rw [decide_eq_true hn]
      have hbq : ((N : Int) < (n0 : Int)) := by omega
      go_enter Try.func36, Try.ntmps36
      go_wp2
      go_ret
      exact ⟨rfl, Drew.refl _⟩
    · rw [decide_eq_false hn]
      have hbq : ¬ ((N : Int) < (n0 : Int)) := by omega
      go_enter Try.func36, Try.ntmps36
      go_wp2
      go_ret
      exact ⟨rfl, Drew.refl _⟩
  · have hv : wantB 8 N t l = decide (n0 < N) := by show decide _ = _; rw [H0.out]
    rw [hv]
    clear hv
    by_cases hn : n0 < N
    · rw [decide_eq_true hn]
      have hbq : ((n0 : Int) < (N : Int)) := by omega
      go_enter Try.func36, Try.ntmps36
      go_wp2
      go_ret
      exact ⟨rfl, Drew.refl _⟩
    · rw [decide_eq_false hn]
      have hbq : ¬ ((n0 : Int) < (N : Int)) := by omega
      go_enter Try.func36, Try.ntmps36
      go_wp2
      go_ret
      exact ⟨rfl, Drew.refl _⟩
set_option maxHeartbeats 4000000 in
theorem open_calls (c : Int) (hc0 : 0 ≤ c) (hc8 : c ≤ 8) (a0 : Option Addr) (n0 c0 : Nat) (l : List Int) (a1 : Option Addr) (n1 c1 : Nat) (t : List Int) (N : Nat) (w : World)
    (h0 : Rd w .i64 a0 n0 c0 l) (h1 : Rd w .i64 a1 n1 c1 t) (hl : n0 ≤ 1099511627776) (ht : n1 ≤ 1099511627776) :
    Calls Try.prog 37 #[.slice a0 n0 c0, .slice a1 n1 c1, .int .i64 c, .int .i64 N] w fun e w' => e = .returned (.int .i64 (openR c N t l)) ∧ Drew w w' := by
  have H0 := Lib.hid h0.len
  have H1 := Lib.hid h1.len
  have hA : Hid (∀ w2, Drew w w2 → Calls Try.prog 45 #[.slice a0 n0 c0, .slice a1 n1 c1, .int .i64 0] w2 fun e w' => e = .returned (.bool (standsB l t 0)) ∧ Drew w2 w') := fun w2 d =>
    at_calls a0 n0 c0 l a1 n1 c1 t 0 w2 (h0.below (d.below _)) (h1.below (d.below _)) (by omega) hl ht
  have hB : Hid (∀ w2, Drew w w2 → Calls Try.prog 45 #[.slice a1 n1 c1, .slice a0 n0 c0, .int .i64 0] w2 fun e w' => e = .returned (.bool (standsB t l 0)) ∧ Drew w2 w') := fun w2 d =>
    at_calls a1 n1 c1 t a0 n0 c0 l 0 w2 (h1.below (d.below _)) (h0.below (d.below _)) (by omega) ht hl
  have hW : Hid (∀ w2, Drew w w2 → Calls Try.prog 46 #[.slice a0 n0 c0, .slice a1 n1 c1] w2 fun e w' => e = .returned (.bool (fndB l t)) ∧ Drew w2 w') := fun w2 d =>
    within_calls a0 n0 c0 l a1 n1 c1 t w2 (h0.below (d.below _)) (h1.below (d.below _)) hl ht
  have hE : Hid (∀ w2 (q : Nat), q ≤ n0 → Drew w w2 → Calls Try.prog 45 #[.slice a0 n0 c0, .slice a1 n1 c1, .int .i64 q] w2 fun e w' => e = .returned (.bool (standsB l t q)) ∧ Drew w2 w') := fun w2 q hq d =>
    at_calls a0 n0 c0 l a1 n1 c1 t q w2 (h0.below (d.below _)) (h1.below (d.below _)) (by omega) hl ht
  clear h0 h1
  clear hE
  obtain rfl | rfl | rfl | rfl | rfl | rfl | rfl | rfl | rfl : c = 0 ∨ c = 1 ∨ c = 2 ∨ c = 3 ∨ c = 4 ∨ c = 5 ∨ c = 6 ∨ c = 7 ∨ c = 8 := by omega
  · show Calls _ _ _ _ fun e w' => e = .returned (.int .i64 2) ∧ Drew w w'
    go_enter Try.func37, Try.ntmps37
    go_wp2
    go_ret
    exact ⟨rfl, Drew.refl _⟩
  · show Calls _ _ _ _ fun e w' => e = .returned (.int .i64 (if !standsB t l 0 then 0 else 1)) ∧ Drew w w'
    obtain ⟨b, hb⟩ : ∃ b, Hid (b = standsB t l 0) := ⟨_, rfl⟩
    rw [← hb.out] at hB ⊢
    cases b
    all_goals
      go_enter Try.func37, Try.ntmps37
      go_wp2_with fail
      refine (hB.out _ (Drew.refl _)).mono ?_
      rintro e w2 ⟨rfl, d1⟩
      go_wp2_with fail
      refine (tri_never _ _).mono ?_
      rintro e w3 ⟨rfl, rfl⟩
      go_wp2
      go_ret
      exact ⟨rfl, d1⟩
  · show Calls _ _ _ _ fun e w' => e = .returned (.int .i64 (if !standsB t l 0 then 2 else 1)) ∧ Drew w w'
    obtain ⟨b, hb⟩ : ∃ b, Hid (b = standsB t l 0) := ⟨_, rfl⟩
    rw [← hb.out] at hB ⊢
    cases b
    all_goals
      go_enter Try.func37, Try.ntmps37
      go_wp2_with fail
      refine (hB.out _ (Drew.refl _)).mono ?_
      rintro e w2 ⟨rfl, d1⟩
      go_wp2_with fail
      refine (tri_late _ _).mono ?_
      rintro e w3 ⟨rfl, rfl⟩
      go_wp2
      go_ret
      exact ⟨rfl, d1⟩
  · show Calls _ _ _ _ fun e w' => e = .returned (.int .i64 (if standsB l t 0 then 2 else if !standsB t l 0 then 0 else 1)) ∧ Drew w w'
    obtain ⟨b, hb⟩ : ∃ b, Hid (b = standsB t l 0) := ⟨_, rfl⟩
    rw [← hb.out] at hB ⊢
    obtain ⟨a, ha⟩ : ∃ a, Hid (a = standsB l t 0) := ⟨_, rfl⟩
    rw [← ha.out] at hA ⊢
    cases a
    · show Calls _ _ _ _ fun e w' => e = .returned (.int .i64 (if !b then 0 else 1)) ∧ Drew w w'
      cases b
      all_goals
        go_enter Try.func37, Try.ntmps37
        go_wp2_with fail
        refine (hA.out _ (Drew.refl _)).mono ?_
        rintro e w2 ⟨rfl, d1⟩
        go_wp2_with fail
        refine (hB.out _ d1).mono ?_
        rintro e w3 ⟨rfl, d2⟩
        go_wp2_with fail
        refine (tri_never _ _).mono ?_
        rintro e w4 ⟨rfl, rfl⟩
        go_wp2
        go_ret
        exact ⟨rfl, d1.trans d2⟩
    · show Calls _ _ _ _ fun e w' => e = .returned (.int .i64 2) ∧ Drew w w'
      go_enter Try.func37, Try.ntmps37
      go_wp2_with fail
      refine (hA.out _ (Drew.refl _)).mono ?_
      rintro e w2 ⟨rfl, d1⟩
      go_wp2
      go_ret
      exact ⟨rfl, d1⟩
  · show Calls _ _ _ _ fun e w' => e = .returned (.int .i64 1) ∧ Drew w w'
    go_enter Try.func37, Try.ntmps37
    go_wp2
    go_ret
    exact ⟨rfl, Drew.refl _⟩
  · show Calls _ _ _ _ fun e w' => e = .returned (.int .i64 (if fndB l t then 2 else 1)) ∧ Drew w w'
    obtain ⟨b, hb⟩ : ∃ b, Hid (b = fndB l t) := ⟨_, rfl⟩
    rw [← hb.out] at hW ⊢
    cases b
    all_goals
      go_enter Try.func37, Try.ntmps37
      go_wp2_with fail
      refine (hW.out _ (Drew.refl _)).mono ?_
      rintro e w2 ⟨rfl, d1⟩
      go_wp2_with fail
      refine (tri_late _ _).mono ?_
      rintro e w3 ⟨rfl, rfl⟩
      go_wp2
      go_ret
      exact ⟨rfl, d1⟩
  · show Calls _ _ _ _ fun e w' => e = .returned (.int .i64 (if decide (N < l.length) then 0 else 1)) ∧ Drew w w'
    rw [H0.out]
    by_cases hn : N < n0
    · rw [decide_eq_true hn]
      have hbq : (N : Int) < (n0 : Int) := by omega
      go_enter Try.func37, Try.ntmps37
      go_wp2_with fail
      refine (tri_never true _).mono ?_
      rintro e w2 ⟨rfl, rfl⟩
      go_wp2
      go_ret
      exact ⟨rfl, Drew.refl _⟩
    · rw [decide_eq_false hn]
      have hbq : ¬ (N : Int) < (n0 : Int) := by omega
      go_enter Try.func37, Try.ntmps37
      go_wp2_with fail
      refine (tri_never false _).mono ?_
      rintro e w2 ⟨rfl, rfl⟩
      go_wp2
      go_ret
      exact ⟨rfl, Drew.refl _⟩
  · show Calls _ _ _ _ fun e w' => e = .returned (.int .i64 (if decide (N < l.length) then 2 else 1)) ∧ Drew w w'
    rw [H0.out]
    by_cases hn : N < n0
    · rw [decide_eq_true hn]
      have hbq : (N : Int) < (n0 : Int) := by omega
      go_enter Try.func37, Try.ntmps37
      go_wp2_with fail
      refine (tri_late true _).mono ?_
      rintro e w2 ⟨rfl, rfl⟩
      go_wp2
      go_ret
      exact ⟨rfl, Drew.refl _⟩
    · rw [decide_eq_false hn]
      have hbq : ¬ (N : Int) < (n0 : Int) := by omega
      go_enter Try.func37, Try.ntmps37
      go_wp2_with fail
      refine (tri_late false _).mono ?_
      rintro e w2 ⟨rfl, rfl⟩
      go_wp2
      go_ret
      exact ⟨rfl, Drew.refl _⟩
  · show Calls _ _ _ _ fun e w' => e = .returned (.int .i64 (if decide (N ≤ l.length) then 0 else 1)) ∧ Drew w w'
    rw [H0.out]
    by_cases hn : N ≤ n0
    · rw [decide_eq_true hn]
      have hbq : (N : Int) ≤ (n0 : Int) := by omega
      go_enter Try.func37, Try.ntmps37
      go_wp2_with fail
      refine (tri_never true _).mono ?_
      rintro e w2 ⟨rfl, rfl⟩
      go_wp2
      go_ret
      exact ⟨rfl, Drew.refl _⟩
    · rw [decide_eq_false hn]
      have hbq : ¬ (N : Int) ≤ (n0 : Int) := by omega
      go_enter Try.func37, Try.ntmps37
      go_wp2_with fail
      refine (tri_never false _).mono ?_
      rintro e w2 ⟨rfl, rfl⟩
      go_wp2
      go_ret
      exact ⟨rfl, Drew.refl _⟩
end Go.Proofs.Ytgajinnbmnnccaa
