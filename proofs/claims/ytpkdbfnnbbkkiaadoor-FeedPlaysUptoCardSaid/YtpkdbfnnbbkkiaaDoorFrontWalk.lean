/- The walks of gimletref01.size, goes, Front. -/
import Derived.Test.YtpkdbfnnbbkkiaaDoorRefLaw
namespace Go.Proofs.YtpkdbfnnbbkkiaaDoor
open Go.RowKit Gim
set_option maxRecDepth 100000 in
set_option maxHeartbeats 1000000 in
theorem size_calls (x : Nat) (w : World) (hx : x < 256) : Calls Tryd.prog 50 #[.int .u8 x] w fun e w' => e = .returned (.int .i64 (szR x)) ∧ w' = w := by
  go_enter Tryd.func50, Tryd.ntmps50
  go_wp2
  all_goals
    go_ret
    refine ⟨?_, rfl⟩
    show Ending.returned (.int .i64 _) = .returned (.int .i64 (szR x : Nat))
    congr 2
    unfold szR
    repeat' split
    all_goals omega
set_option maxRecDepth 100000 in
set_option maxHeartbeats 1000000 in
theorem goes_calls (x y : Nat) (w : World) (_ : x < 256) (_ : y < 256) : Calls Tryd.prog 51 #[.int .u8 x, .int .u8 y] w fun e w' => e = .returned (.bool (goesR x y)) ∧ w' = w := by
  go_enter Tryd.func51, Tryd.ntmps51
  go_wp2
  all_goals
    go_ret
    refine ⟨?_, rfl⟩
    show Ending.returned (.bool _) = .returned (.bool (goesR x y))
    congr 2
    unfold goesR
    try simp only [beq_iff_eq, beq_eq_false_iff_ne, ne_eq] at *
    rw [Bool.eq_iff_iff]
    repeat' split
    all_goals first
      | (simp only [decide_eq_true_eq]; omega)
      | (simp only [decide_eq_true_eq, Bool.false_eq_true, false_iff]; omega)
set_option maxRecDepth 100000 in
set_option maxHeartbeats 2000000 in
theorem front_calls (w : World) (ao : Option Addr) (n cap : Nat) (xs : List Int) (h : Rb w ao n cap xs) (p : Nat) (hn : n ≤ 1125899906842624) :
    Calls Tryd.prog 47 #[.slice ao n cap, .int .i64 p] w fun e w' => e = .returned (.tuple #[.int .i64 (frontB xs p).1, .int .i64 (frontB xs p).2]) ∧ w' = w := by
  have hl := h.rd.len
  by_cases hp : n ≤ p
  · rw [show frontB xs p = (0, 0) by rw [frontB, if_pos (by omega)]]
    go_enter Tryd.func47, Tryd.ntmps47
    go_wp2
    (try simp only [Exit.inBlock, Exit.then]); refine bodyPost_ret (results_tmp2 rfl _ _ _) rfl ?_
    exact ⟨rfl, rfl⟩
  · obtain ⟨b, o, rfl, hbz, hcell⟩ := h.at_ (by omega)
    have hc0 := (hcell p (by omega))
    have hx0 := hc0.1
    have hcp := hc0.2 w (Below.refl _ _)
    have HC := Lib.hid (fun j hj => And.intro (hcell j hj).1 ((hcell j hj).2 w (Below.refl _ _)))
    have HF := Lib.hid (show frontB xs p = if szR (bn xs p) = 0 then (0, 0) else (frK xs p (szR (bn xs p)) 1, szR (bn xs p)) by rw [frontB, if_neg (by omega)])
    have hsz := szR_le (bn xs p)
    have HL := Lib.hid hl
    clear hc0 hcell hl
    obtain ⟨x, hx⟩ : ∃ x, x = bn xs p := ⟨_, rfl⟩
    have HX := Lib.hid hx
    rw [← hx] at hx0 hcp hsz HF
    clear hx
    obtain ⟨m, hm⟩ : ∃ m, m = szR x := ⟨_, rfl⟩
    have cS := size_calls x w hx0
    rw [← hm] at cS hsz HF
    clear hm
    go_enter Tryd.func47, Tryd.ntmps47
    go_wp2_with fail
    refine cS.mono ?_
    rintro e w1 ⟨rfl, rfl⟩
    clear cS
    by_cases hm0 : m = 0
    · have HE := Lib.hid (HF.out.trans (if_pos hm0))
      subst hm0
      clear HF
      go_wp2
      (try simp only [Exit.inBlock, Exit.then]); refine bodyPost_ret (results_tmp2 rfl _ _ _) rfl ?_
      exact ⟨by rw [HE.out]; rfl, rfl⟩
    · have HE := Lib.hid (HF.out.trans (if_neg hm0))
      have hmd : ((m : Int) == 0) = false := by simp; omega
      clear HF
      go_wp2
      go_loopw [7] (fun v wr => ∃ k : Nat, v = .int .i64 k ∧ 1 ≤ k ∧ k ≤ m ∧ wr = w1 ∧ Hid (frK xs p m 1 = frK xs p m k)) (fun v _ => m - (RowKit.intOf v).toNat)
      case atStart => exact ⟨1, rfl, by omega, by omega, rfl, Lib.hid rfl⟩
      case round =>
        obtain ⟨k, rfl, hk1, hkm, rfl, HK⟩ := hrel
        by_cases hk : k < m
        · by_cases hpk : p + k < n
          · have hcy := HC.out (p + k) hpk
            obtain ⟨y, hy⟩ : ∃ y, y = bn xs (p + k) := ⟨_, rfl⟩
            have HFit := Lib.hid (show fitR xs p k = !(decide (k = 1) && !goesR x y || decide (y < 128) || decide (191 < y)) by unfold fitR; rw [HX.out, hy])
            rw [← hy] at hcy
            obtain ⟨hy0, hcy⟩ := hcy
            clear hy
            by_cases h1 : k = 1
            · subst h1
              have cG := goes_calls x y wr hx0 hy0
              obtain ⟨q, hq⟩ : ∃ q, q = goesR x y := ⟨_, rfl⟩
              rw [← hq] at HFit cG
              clear hq
              cases q
              · have HR := Lib.hid (HE.out.trans (by rw [frK_end (fun hh => by have := HFit.out; rw [hh.2.2] at this; simp at this)]) : frontB xs p = (1, m))
                clear HFit HE HK
                go_wp2_with fail
                refine cG.mono ?_
                rintro e w2 ⟨rfl, rfl⟩
                clear cG
                go_wp2
                (try simp only [Exit.inBlock, Exit.then]); refine bodyPost_ret (results_tmp2 rfl _ _ _) rfl ?_
                exact ⟨by rw [HR.out]; rfl, rfl⟩
              · by_cases hin : 128 ≤ y ∧ y ≤ 191
                · obtain ⟨hi1, hi2⟩ := hin
                  have HK2 := Lib.hid (frK_next (n := m) hk (by rw [HL.out]; exact hpk) (by rw [HFit.out]; simp; omega) : frK xs p m 1 = frK xs p m (1 + 1))
                  clear HFit
                  go_wp2_with fail
                  refine cG.mono ?_
                  rintro e w2 ⟨rfl, rfl⟩
                  clear cG
                  go_wp2
                  go_roundw
                  case rel => exact ⟨2, by go_num, by omega, by omega, trivial, HK2⟩
                  case measure => simp [RowKit.intOf]; omega
                · have HR := Lib.hid (HE.out.trans (by rw [frK_end (fun hh => by have := HFit.out; rw [hh.2.2] at this; simp at this; omega)]) : frontB xs p = (1, m))
                  clear HFit HE HK
                  rcases Nat.lt_or_ge y 128 with hi | hi
                  all_goals
                    go_wp2_with fail
                    refine cG.mono ?_
                    rintro e w2 ⟨rfl, rfl⟩
                    clear cG
                    go_wp2
                    (try simp only [Exit.inBlock, Exit.then]); refine bodyPost_ret (results_tmp2 rfl _ _ _) rfl ?_
                    exact ⟨by rw [HR.out]; rfl, rfl⟩
            · have hkd : ((k : Int) == 1) = false := by simp; omega
              by_cases hin : 128 ≤ y ∧ y ≤ 191
              · obtain ⟨hi1, hi2⟩ := hin
                have HK2 := Lib.hid (HK.out.trans (frK_next (n := m) hk (by rw [HL.out]; exact hpk) (by rw [HFit.out]; simp [h1]; omega)) : frK xs p m 1 = frK xs p m (k + 1))
                clear HFit
                go_wp2
                go_roundw
                case rel => exact ⟨k + 1, by go_num, by omega, by omega, trivial, HK2⟩
                case measure => simp [RowKit.intOf]; omega
              · have HR := Lib.hid (HE.out.trans (by rw [HK.out, frK_end (fun hh => by have := HFit.out; rw [hh.2.2] at this; simp [h1] at this; omega)]) : frontB xs p = (k, m))
                clear HFit HE HK
                rcases Nat.lt_or_ge y 128 with hi | hi
                all_goals
                  go_wp2
                  (try simp only [Exit.inBlock, Exit.then]); refine bodyPost_ret (results_tmp2 rfl _ _ _) rfl ?_
                  exact ⟨by rw [HR.out]; rfl, rfl⟩
          · have HR := Lib.hid (HE.out.trans (by rw [HK.out, frK_end (fun hh => by rw [HL.out] at hh; omega)]) : frontB xs p = (k, m))
            clear HE HK
            go_wp2
            (try simp only [Exit.inBlock, Exit.then]); refine bodyPost_ret (results_tmp2 rfl _ _ _) rfl ?_
            exact ⟨by rw [HR.out]; rfl, rfl⟩
        · obtain rfl : k = m := by omega
          have HR := Lib.hid (HE.out.trans (by rw [HK.out, frK_end (fun hh => by omega)]) : frontB xs p = (k, k))
          clear HE HK
          go_wp2
          (try simp only [Exit.inBlock, Exit.then]); refine bodyPost_ret (results_tmp2 rfl _ _ _) rfl ?_
          exact ⟨by rw [HR.out]; rfl, rfl⟩
end Go.Proofs.YtpkdbfnnbbkkiaaDoor
