/- Entries of a Hopes. -/
import Derived.Test.YtkhejkfjhddobaaGreatDoorHoTake2
import Derived.Test.YtkhejkfjhddobaaGreatDoorBegin
set_option linter.unusedSimpArgs false
namespace Go.Proofs.YtkhejkfjhddobaaGreatDoor
open Go.RowKit Gim
theorem yHd {n0 : Nat} {tg : Nat → Nat × Nat} {H : Nat} {nd : yAc} {fs : List FrS} {s : CkS} {ex : Option (List Int)} (w : World) (h : HoX n0 w tg H nd fs s ex) (hok : yB2 nd) (hT : yBd w) (e : EvD) (hn : yAI s e = true) (hz : yEg e) (hck : yOq s) (hfl : fs.length = s.os.length + 1) (hen : s.os.length ≤ 1048575) (hnum : s.num ≤ 1099511627776)
  (aa : Option Addr) (an ac : Nat) (hA : yAO w e.ats aa an ac) (hA6 : 0 < an → ∀ b o, aa = some ⟨b, o, none⟩ → (tg b).1 = 6) (hhu : ∀ f ∈ fs, yEG e.tx f) :
  Calls Tryz.prog 13 #[.pointer (some ⟨H, 0, none⟩), .agg #[.int .i64 e.kd, .int .i64 e.num, .int .i64 e.dep, .string e.nm, .slice aa an ac, .string e.tx, .int .i64 e.fr, .int .i64 e.tu]] w fun r w' => r = .returned (.int .i64 0) ∧ ∃ tg', HoX n0 w' tg' H nd (yAA nd (stp s e).dn fs e).1 (stp s e) (yAA nd (stp s e).dn fs e).2 ∧ Go6 tg tg' w w' := by
 obtain ⟨K, vF, vX, vK, ps, vO, h1, h2, h3⟩ := h; obtain ⟨kd, num, dep, nm, ats, tx, fr, tu⟩ := e; obtain ⟨z1, z2, z3, z4⟩ := hz; simp only at z1 z2 z3 z4 hA hhu ⊢; have han : an ≤ 1099511627776 := by rw [← hA.len]; exact z3
 have hd : s.dn = false := by unfold yAI at hn; rw [jb] at hn; simpa using hn.1
 rw [hd] at h1; have h0n := hck.num; by_cases k0 : kd = 0
 ·subst k0; have hb : yDe s ⟨0, num, dep, nm, ats, tx, fr, tu⟩ = true ∧ (0 < s.os.length ∨ s.num = 0) := by unfold yAI at hn; rw [if_pos rfl, jb, jb, Bool.or_eq_true, decide_eq_true_eq, decide_eq_true_eq] at hn; exact hn.2
  obtain ⟨hb, hz0⟩ := hb; unfold yDe at hb; simp only [jb, decide_eq_true_eq] at hb; obtain ⟨⟨⟨⟨b1, b2⟩, b3⟩, b4⟩, b5⟩ := hb; subst b1 b2 b3; refine (yQE w h1 hok (by omega) hT nm (by omega) (by omega) b4 hz0 ⟨h0n, hnum⟩ ats aa an ac fr tu hA b5 (fun x hx => ⟨by have := (z4 x hx).1; omega, (z4 x hx).2⟩) han hA6).mono ?_; rintro r w' ⟨rfl, vF', vX', ps', vO', tg', g1, g2, g3⟩; refine ⟨rfl, tg', ⟨K, vF', vX', .slice none 0 0, ps', vO', ?_, g2, .inl rfl⟩, g3⟩; have es : stp s ⟨0, s.num, (s.os.length : Int) + 1, nm, ats, ⟨#[]⟩, fr, tu⟩ = ⟨s.os ++ [(s.num, (s.os.length : Int) + 1, nm)], s.num + 1, false, s.dn⟩ := rfl; have et : (yAA nd (stp s ⟨0, s.num, (s.os.length : Int) + 1, nm, ats, ⟨#[]⟩, fr, tu⟩).dn fs ⟨0, s.num, (s.os.length : Int) + 1, nm, ats, ⟨#[]⟩, fr, tu⟩).1 = fs ++ [yAr nd 1 nm ats] := rfl; rw [et, es]; simp only [jp, List.length_singleton, hd]; have ec : osC (s.os ++ [(s.num, (s.os.length : Int) + 1, nm)]) = osC s.os ++ yBP s.num ((s.os.length : Int) + 1) nm := by unfold osC; rw [List.flatMap_append]; simp
  rw [ec]; exact g1
 ·by_cases k1 : kd = 1
  ·subst k1; rw [yO9 hd rfl] at hn; unfold yCR at hn; simp only [jb, decide_eq_true_eq] at hn; obtain ⟨⟨⟨⟨⟨⟨⟨b1, b2⟩, b3⟩, b4⟩, b5⟩, b6⟩, b7⟩, b8⟩ := hn; have b4 : s.tx = false := by simpa using b4
   rw [b4] at h1; subst b1 b2 b7; have ha : an = 0 := by rw [← hA.len]; exact b8
   subst ha; refine (yPw w h1 hok (by omega) hT tx (by omega) (by omega) b6 b5 b3 ⟨h0n, hnum⟩ aa ac fr tu (by omega) hhu).mono ?_; rintro r w' ⟨rfl, vF', vX', ps', vO', tg', g1, g2, g3⟩; refine ⟨rfl, tg', ⟨K, vF', vX', .slice none 0 0, ps', vO', ?_, ?_, .inl rfl⟩, g3⟩
   ·have es : stp s ⟨1, s.num, (s.os.length : Int) + 1, ⟨#[]⟩, ats, tx, fr, tu⟩ = ⟨s.os, s.num + 1, true, s.dn⟩ := rfl; rw [es]; simp only [hd]; exact g1
   ·have es : stp s ⟨1, s.num, (s.os.length : Int) + 1, ⟨#[]⟩, ats, tx, fr, tu⟩ = ⟨s.os, s.num + 1, true, s.dn⟩ := rfl; rw [es]; simp only [hd]; exact g2
  ·have k2 : kd = 2 := by
    by_cases k2 : kd = 2
    ·exact k2
    ·rw [yQ7 (s := s) (e := ⟨kd, num, dep, nm, ats, tx, fr, tu⟩) k0 k1 k2] at hn; cases hn
   subst k2; rw [yPm hd rfl] at hn; unfold yFr at hn; simp only [jb, decide_eq_true_eq] at hn; obtain ⟨b0, ⟨⟨⟨b1, b2⟩, b3⟩, b4⟩, b5⟩ := hn; obtain ⟨p, hp⟩ : ∃ p, s.os.length = p + 1 := ⟨s.os.length - 1, by omega⟩
   have ha : an = 0 := by rw [← hA.len]; exact b5
   subst ha b4; have ho : s.os.getD p zo = (num, dep, nm) := by rw [show s.os.length - 1 = p by omega] at b1 b2 b3; rw [b1, b2, b3]
   refine (yNV w h1 hok (by omega) num dep nm p hp ho (by omega) aa ac fr tu (by omega)).mono ?_; rintro r w' ⟨rfl, vF', vX', ps', vO', tg', g1, g2, g3⟩; have es : stp s ⟨2, num, dep, nm, ats, ⟨#[]⟩, fr, tu⟩ = ⟨s.os.dropLast, s.num, false, decide (s.os.length = 1)⟩ := rfl; have ed : decide (s.os.length = 1) = decide (p = 0) := by congr 1; simp only [eq_iff_iff]; omega
   have et : yAA nd (decide (p = 0)) fs ⟨2, num, dep, nm, ats, ⟨#[]⟩, fr, tu⟩ = ((yAm nd (decide (p = 0)) fs.dropLast (fs.getD (p + 1) fr0)).1, some (yAm nd (decide (p = 0)) fs.dropLast (fs.getD (p + 1) fr0)).2) := by unfold yAA; rw [if_neg (show ¬ (2 : Int) = 0 by decide), if_neg (show ¬ (2 : Int) = 1 by decide), show fs.length - 1 = p + 1 by omega]
   refine ⟨rfl, tg', ⟨K, vF', vX', .slice none 0 0, ps', vO', ?_, ?_, .inl rfl⟩, g3⟩
   ·rw [es]; simp only [ed]; rw [et, List.length_dropLast, hp]; exact g1
   ·rw [es]; simp only [ed]; rw [et]; exact g2
end Go.Proofs.YtkhejkfjhddobaaGreatDoor
