/- The walks of gimletref01.Next and Good. -/
import Derived.Test.YtpkdbfnnbbkkiaaDoorCharsWalk
import Derived.Test.YtpkdbfnnbbkkiaaDoorNext2Walk
import Derived.Test.YtpkdbfnnbbkkiaaDoorBackLaw
namespace Go.Proofs.YtpkdbfnnbbkkiaaDoor
open Go.RowKit Gim
set_option maxRecDepth 100000 in
set_option maxHeartbeats 4000000 in
theorem refNext_calls (i : Int) (w : World) (ao : Option Addr) (n cap : Nat) (xs : List Int) (h : Rb w ao n cap xs) (hxs : ∀ x ∈ xs, 0 ≤ x ∧ x ≤ 255) (hn : n ≤ 140737488351232) :
    Calls Tryd.prog 46 #[.slice ao n cap, .int .i64 i] w fun e w' => e = .returned (.tuple #[.int .i64 (nextB xs i).1, .int .i64 (nextB xs i).2.1, .int .i64 (nextB xs i).2.2.1, .int .i64 (nextB xs i).2.2.2]) ∧ w' = w := by
  have hl := h.rd.len
  have hle := h.rd.le
  have hcap := h.rd.cap_le
  by_cases hr : i < 0 ∨ (n : Int) < i
  · have HN := Lib.hid (show nextB xs i = (0, 0, 0, 2) by rw [nextB, if_pos (by rw [hl]; exact hr)])
    clear hl
    rcases hr with hr | hr
    all_goals
      go_enter Tryd.func46, Tryd.ntmps46
      go_wp2
      (try simp only [Exit.inBlock, Exit.then]); refine bodyPost_ret (results_tmp4 rfl _ _ _) rfl ?_
      exact ⟨by rw [HN.out]; rfl, rfl⟩
  by_cases hq : i = n
  · subst hq
    have HN := Lib.hid (show nextB xs n = (0, 0, 3, 0) by rw [nextB, if_neg (by rw [hl]; exact hr), if_pos (by rw [hl])])
    clear hl
    go_enter Tryd.func46, Tryd.ntmps46
    go_wp2
    (try simp only [Exit.inBlock, Exit.then]); refine bodyPost_ret (results_tmp4 rfl _ _ _) rfl ?_
    exact ⟨by rw [HN.out]; rfl, rfl⟩
  obtain ⟨p, rfl⟩ := Int.eq_ofNat_of_zero_le (show 0 ≤ i by omega)
  have hp : p < n := by omega
  have he : ((p : Int) == (n : Int)) = false := by simp; omega
  have HN := Lib.hid (show nextB xs p = if fullB (xs.drop p) = false then ((0 : Int), (n : Int) - p, (1 : Int), (0 : Int))
      else if (decB (xs.drop p)).1 = 65533 ∧ (decB (xs.drop p)).2 = 1 then (65533, 1, 2, 0) else (((decB (xs.drop p)).1 : Int), ((decB (xs.drop p)).2 : Int), 0, 0) by
    rw [nextB, if_neg (by rw [hl]; exact hr), if_neg (by rw [hl]; exact hq), hl]; rfl)
  have hst := Gim.step hxs (p := p) (by rw [hl]; exact hp)
  obtain ⟨b, o, rfl, _, _⟩ := h.at_ (by omega)
  have cF := front_calls w _ _ _ _ h p (by omega)
  rcases hst with ⟨m, hF, h1, h4, hlm, hf, hv, hd, hV, hok⟩ | ⟨k, m, hF, hk, hkn, hf, hd, hpc⟩ | ⟨k, m, hF, hk, hkn, hf, hv, hd, hpc⟩
  · have HE := Lib.hid (HN.out.trans (by rw [hf, if_neg (by simp), if_neg (by omega), hd]) : nextB xs p = (((decB (xs.drop p)).1 : Int), (m : Int), 0, 0))
    rw [hl] at hlm
    have cV := value_calls w _ _ _ _ (h.mid (p := p) (m := m) hlm (by omega)) h1 h4
    rw [hF] at cF
    rw [← hV] at cV
    obtain ⟨r, hr⟩ : ∃ r : Int, r = ((decB (xs.drop p)).1 : Int) := ⟨_, rfl⟩
    rw [← hr] at HE cV
    clear hF hf hv hd hV hok hr HN hl hq
    go_enter Tryd.func46, Tryd.ntmps46
    go_wp2_with fail
    refine cF.mono ?_
    rintro e w1 ⟨rfl, rfl⟩
    clear cF
    go_wp2_with fail
    refine cV.mono ?_
    rintro e w2 ⟨rfl, rfl⟩
    clear cV
    go_wp2
    (try simp only [Exit.inBlock, Exit.then]); refine bodyPost_ret (results_tmp4 rfl _ _ _) rfl ?_
    exact ⟨by rw [HE.out]; rfl, rfl⟩
  · rw [hl] at hk
    have HE := Lib.hid (HN.out.trans (by rw [if_pos hf, show (n : Int) - p = k by omega]) : nextB xs p = (0, (k : Int), 1, 0))
    rw [hF] at cF
    have hkd : ((k : Int) == (m : Int)) = false := by simp; omega
    have hke : ((p : Int) + (k : Int) == (n : Int)) = true := by simp; omega
    clear hF hf hd hpc HN hl hq
    go_enter Tryd.func46, Tryd.ntmps46
    go_wp2_with fail
    refine cF.mono ?_
    rintro e w1 ⟨rfl, rfl⟩
    clear cF
    go_wp2
    (try simp only [Exit.inBlock, Exit.then]); refine bodyPost_ret (results_tmp4 rfl _ _ _) rfl ?_
    exact ⟨by rw [HE.out]; rfl, rfl⟩
  · rw [hl] at hk
    have HE := Lib.hid (HN.out.trans (by rw [hf, if_neg (by simp), hd, if_pos ⟨rfl, rfl⟩]) : nextB xs p = (65533, 1, 2, 0))
    rw [hF] at cF
    have hke : ((p : Int) + (k : Int) == (n : Int)) = false := by simp; omega
    clear hF hf hv hd hpc HN hl hq
    rcases (show m = 0 ∨ 0 < m ∧ k ≠ m by omega) with rfl | ⟨hm, hkm⟩
    · go_enter Tryd.func46, Tryd.ntmps46
      go_wp2_with fail
      refine cF.mono ?_
      rintro e w1 ⟨rfl, rfl⟩
      clear cF
      go_wp2
      (try simp only [Exit.inBlock, Exit.then]); refine bodyPost_ret (results_tmp4 rfl _ _ _) rfl ?_
      exact ⟨by rw [HE.out]; rfl, rfl⟩
    · have hkd : ((k : Int) == (m : Int)) = false := by simp; omega
      go_enter Tryd.func46, Tryd.ntmps46
      go_wp2_with fail
      refine cF.mono ?_
      rintro e w1 ⟨rfl, rfl⟩
      clear cF
      go_wp2
      (try simp only [Exit.inBlock, Exit.then]); refine bodyPost_ret (results_tmp4 rfl _ _ _) rfl ?_
      exact ⟨by rw [HE.out]; rfl, rfl⟩
end Go.Proofs.YtpkdbfnnbbkkiaaDoor
