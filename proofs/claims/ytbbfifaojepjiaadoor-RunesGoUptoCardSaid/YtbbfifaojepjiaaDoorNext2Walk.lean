/- The walk of runes.Next. -/
import Derived.Test.YtbbfifaojepjiaaDoorNextWalk
namespace Gim
open Go
/-- what Next answers -/
def nextB (xs : List Int) (i : Int) : Int × Int × Int × Int :=
  if i < 0 ∨ (xs.length : Int) < i then (0, 0, 0, 2) else if i = xs.length then (0, 0, 3, 0)
  else if fullB (xs.drop i.toNat) = false then (0, xs.length - i, 1, 0)
  else if (decB (xs.drop i.toNat)).1 = 65533 ∧ (decB (xs.drop i.toNat)).2 = 1 then (65533, 1, 2, 0)
  else ((decB (xs.drop i.toNat)).1, (decB (xs.drop i.toNat)).2, 0, 0)
end Gim
namespace Go.Proofs.YtbbfifaojepjiaaDoor
open Go.RowKit Go.Lib Gim
theorem results_tmp4 {fn : Func} {t u v x : Tmp} (h : fn.results = #[.tmp t, .tmp u, .tmp v, .tmp x]) (tmps : Array Value) (P : Program) (w : World) :
    (results fn tmps).run P w = .ok (.tuple #[tmps.getD t undef, tmps.getD u undef, tmps.getD v undef, tmps.getD x undef]) w := by
  simp [results, h]
-- gimlet/runes.Next
set_option maxHeartbeats 1000000 in
theorem next_calls (i : Int) (w : World) (ao : Option Addr) (n cap : Nat) (xs : List Int) (h : Rb w ao n cap xs) (hT : U8 w) (hn : n ≤ 140737488351232) :
    Calls Tryd.prog 16 #[.slice ao n cap, .int .i64 i] w fun e w' => e = .returned (.tuple #[.int .i32 (nextB xs i).1, .int .i64 (nextB xs i).2.1, .int .i64 (nextB xs i).2.2.1, .int .i64 (nextB xs i).2.2.2]) ∧ Below w.heap.size w w' := by
  have hl := h.rd.len
  have hle := h.rd.le
  have hcap := h.rd.cap_le
  by_cases hr : i < 0 ∨ (n : Int) < i
  · have HN := Lib.hid (show nextB xs i = (0, 0, 0, 2) by rw [nextB, if_pos (by rw [hl]; exact hr)])
    clear hl
    rcases hr with hr | hr
    · go_enter Tryd.func16, Tryd.ntmps16
      go_wp2
      (try simp only [Exit.inBlock, Exit.then]); refine bodyPost_ret (results_tmp4 rfl _ _ _) rfl ?_
      exact ⟨by rw [HN.out]; rfl, Below.refl _ _⟩
    · go_enter Tryd.func16, Tryd.ntmps16
      go_wp2
      (try simp only [Exit.inBlock, Exit.then]); refine bodyPost_ret (results_tmp4 rfl _ _ _) rfl ?_
      exact ⟨by rw [HN.out]; rfl, Below.refl _ _⟩
  by_cases hq : i = n
  · subst hq
    have HN := Lib.hid (show nextB xs n = (0, 0, 3, 0) by rw [nextB, if_neg (by rw [hl]; exact hr), if_pos (by rw [hl])])
    clear hl
    go_enter Tryd.func16, Tryd.ntmps16
    go_wp2
    (try simp only [Exit.inBlock, Exit.then]); refine bodyPost_ret (results_tmp4 rfl _ _ _) rfl ?_
    exact ⟨by rw [HN.out]; rfl, Below.refl _ _⟩
  obtain ⟨m, rfl⟩ := Int.eq_ofNat_of_zero_le (show 0 ≤ i by omega)
  have hm : m < n := by omega
  have hcm : ¬ cap = m := by omega
  have he : ((m : Int) == (n : Int)) = false := by simp; omega
  have rbd := h.drop (m := m) (by omega)
  rw [if_neg hcm] at rbd
  have HN := Lib.hid (show nextB xs m = if fullB (xs.drop m) = false then ((0 : Int), (n : Int) - m, (1 : Int), (0 : Int))
      else if (decB (xs.drop m)).1 = 65533 ∧ (decB (xs.drop m)).2 = 1 then (65533, 1, 2, 0) else (((decB (xs.drop m)).1 : Int), ((decB (xs.drop m)).2 : Int), 0, 0) by
    rw [nextB, if_neg (by rw [hl]; exact hr), if_neg (by rw [hl]; exact hq), hl]; rfl)
  clear hl hr hq
  obtain ⟨b0, o0, rfl, _⟩ := h.rd.cell 0 (by omega)
  replace rbd : Rb w (some ⟨b0, o0 + m, none⟩) (n - m) (cap - m) (xs.drop m) := by simpa [Addr.add_lit] using rbd
  obtain ⟨t, ht⟩ : ∃ t, t = xs.drop m := ⟨_, rfl⟩
  rw [← ht] at rbd HN
  clear ht
  go_enter Tryd.func16, Tryd.ntmps16
  go_wp2_with fail
  refine (full_calls _ _ _ _ t rbd hT).mono ?_
  rintro e w1 ⟨rfl, hb1⟩
  have rb1 := rbd.below hb1
  have hT1 := U8.below hT hb1
  cases hf : fullB t
  · have HE := Lib.hid (HN.out.trans (if_pos hf))
    clear HN hf
    go_wp2
    (try simp only [Exit.inBlock, Exit.then]); refine bodyPost_ret (results_tmp4 rfl _ _ _) rfl ?_
    exact ⟨by rw [HE.out]; rfl, hb1⟩
  have HE := Lib.hid (HN.out.trans (if_neg (by rw [hf]; decide)))
  clear HN hf
  go_wp2_with fail
  refine (decode_calls _ _ _ _ t rb1 hT1).mono ?_
  rintro e w2 ⟨rfl, hb2⟩
  have hb3 := hb1.trans (hb2.mono hb1.size)
  clear hb1 hb2 rb1 hT1 rbd
  obtain ⟨⟨r, k⟩, hD⟩ : ∃ D, D = decB t := ⟨_, rfl⟩
  rw [← hD] at HE
  rw [← hD]
  clear hD
  by_cases h1 : r = 65533
  · by_cases h2 : k = 1
    · have HF := Lib.hid (HE.out.trans (if_pos ⟨h1, h2⟩))
      subst h1 h2
      clear HE
      go_wp2
      (try simp only [Exit.inBlock, Exit.then]); refine bodyPost_ret (results_tmp4 rfl _ _ _) rfl ?_
      exact ⟨by rw [HF.out]; rfl, hb3⟩
    · have HF := Lib.hid (HE.out.trans (if_neg fun h => h2 h.2))
      have h3 : ((k : Int) == 1) = false := by simp; omega
      subst h1
      clear HE
      go_wp2
      (try simp only [Exit.inBlock, Exit.then]); refine bodyPost_ret (results_tmp4 rfl _ _ _) rfl ?_
      exact ⟨by rw [HF.out]; rfl, hb3⟩
  · have HF := Lib.hid (HE.out.trans (if_neg fun h => h1 h.1))
    have h3 : ((r : Int) == 65533) = false := by simp; omega
    clear HE
    go_wp2
    (try simp only [Exit.inBlock, Exit.then]); refine bodyPost_ret (results_tmp4 rfl _ _ _) rfl ?_
    exact ⟨by rw [HF.out]; rfl, hb3⟩
end Go.Proofs.YtbbfifaojepjiaaDoor
