/- The document's characters are Go's: plain. -/
import Derived.Test.YtbbfifaojepjiaaDoorValueWalk
namespace Gim
open Go Go.Lib
theorem szR_zero {b : Nat} (hb : b < 256) (h : szR b = 0) : firstT b = 241 := by
  have hc : (128 ≤ b ∧ b < 194) ∨ 244 < b := by
    unfold szR at h
    repeat' split at h
    all_goals omega
  unfold firstT
  rcases hc with hc | hc
  · rw [if_neg (by omega), if_pos (by omega)]
  · rw [if_neg (by omega), if_neg (by omega), if_neg (by omega), if_neg (by omega), if_neg (by omega), if_neg (by omega), if_neg (by omega), if_neg (by omega), if_neg (by omega), if_neg (by omega)]
theorem szR_one {b : Nat} (h : szR b = 1) : firstT b = 240 ∧ b < 128 := by
  unfold szR at h
  by_cases hb : b < 128
  · exact ⟨by unfold firstT; rw [if_pos hb], hb⟩
  · rw [if_neg hb] at h
    repeat' split at h
    all_goals omega
theorem szR_more {b : Nat} (h : 2 ≤ szR b) : firstT b < 240 ∧ firstT b % 8 = szR b ∧ 128 ≤ accLo (firstT b / 16) ∧ accHi (firstT b / 16) ≤ 191 ∧ ∀ y, goesR b y = decide (accLo (firstT b / 16) ≤ y ∧ y ≤ accHi (firstT b / 16)) := by
  have hc : (194 ≤ b ∧ b < 224) ∨ b = 224 ∨ ((225 ≤ b ∧ b < 237) ∨ (238 ≤ b ∧ b < 240)) ∨ b = 237 ∨ b = 240 ∨ (241 ≤ b ∧ b < 244) ∨ b = 244 := by
    unfold szR at h
    repeat' split at h
    all_goals omega
  rcases hc with hc | hc | hc | hc | hc | hc | hc
  · have hs : szR b = 2 := by unfold szR; rw [if_neg (by omega), if_pos (by omega)]
    rw [firstT_C2 hc, hs]
    refine ⟨by omega, rfl, by decide, by decide, fun y => ?_⟩
    unfold goesR
    rw [if_neg (by omega), if_neg (by omega), if_neg (by omega), if_neg (by omega)]
    rfl
  · subst hc; rw [firstT_E0 rfl]; refine ⟨by omega, rfl, by decide, by decide, fun y => rfl⟩
  · have hs : szR b = 3 := by unfold szR; rw [if_neg (by omega), if_neg (by omega), if_pos (by omega)]
    rw [firstT_E1 hc, hs]
    refine ⟨by omega, rfl, by decide, by decide, fun y => ?_⟩
    unfold goesR
    rw [if_neg (by omega), if_neg (by omega), if_neg (by omega), if_neg (by omega)]
    rfl
  · subst hc; rw [firstT_ED rfl]; refine ⟨by omega, rfl, by decide, by decide, fun y => rfl⟩
  · subst hc; rw [firstT_F0 rfl]; refine ⟨by omega, rfl, by decide, by decide, fun y => rfl⟩
  · have hs : szR b = 4 := by unfold szR; rw [if_neg (by omega), if_neg (by omega), if_neg (by omega), if_pos (by omega)]
    rw [firstT_F1 hc, hs]
    refine ⟨by omega, rfl, by decide, by decide, fun y => ?_⟩
    unfold goesR
    rw [if_neg (by omega), if_neg (by omega), if_neg (by omega), if_neg (by omega)]
    rfl
  · subst hc; rw [firstT_F4 rfl]; refine ⟨by omega, rfl, by decide, by decide, fun y => rfl⟩
theorem szR_range {b n : Nat} (h : szR b = n) : (n = 2 → 194 ≤ b ∧ b ≤ 223) ∧ (n = 3 → 224 ≤ b ∧ b ≤ 239) ∧ (n = 4 → 240 ≤ b ∧ b ≤ 244) := by
  unfold szR at h
  repeat' split at h
  all_goals omega
theorem fit_one {t : List Int} (h : 2 ≤ szR (bn t 0)) : fitR t 0 1 = true ↔ (accLo (firstT (bn t 0) / 16) ≤ bn t 1 ∧ bn t 1 ≤ accHi (firstT (bn t 0) / 16)) := by
  obtain ⟨_, _, hlo, hhi, hg⟩ := szR_more h
  unfold fitR
  rw [Nat.zero_add, hg]
  simp only [decide_true, Bool.true_and, Bool.not_eq_true', Bool.or_eq_false_iff, decide_eq_false_iff_not, Bool.not_eq_false', decide_eq_true_eq]
  omega
theorem fit_more {t : List Int} {k : Nat} (h : 2 ≤ k) : fitR t 0 k = true ↔ (128 ≤ bn t k ∧ bn t k ≤ 191) := by
  unfold fitR
  rw [Nat.zero_add, decide_eq_false (show ¬ k = 1 by omega)]
  simp only [Bool.false_and, Bool.false_or, Bool.not_eq_true', Bool.or_eq_false_iff, decide_eq_false_iff_not]
  omega
theorem bn_take {t : List Int} {n j : Nat} (h : j < n) : bn (t.take n) j = bn t j := by
  unfold bn gt
  rw [List.getElem?_take_of_lt h]
/-- Go's answer and the document's, of bytes that are there -/
inductive Alike (t : List Int) : Prop
  | whole (n : Nat) (h : frontB t 0 = (n, n)) (h1 : 1 ≤ n) (h4 : n ≤ 4) (hl : n ≤ t.length) (hf : fullB t = true) (hd : (decB t).2 = n) (hv : ((decB t).1 : Int) = valB (t.take n)) (hok : ¬ ((decB t).1 = 65533 ∧ n ≤ 1))
  | waits (n : Nat) (h : frontB t 0 = (t.length, n)) (hl : t.length < n) (hf : fullB t = false) (hd : decB t = (65533, 1))
  | wrong (k n : Nat) (h : frontB t 0 = (k, n)) (hl : n = 0 ∧ k = 0 ∨ 1 ≤ k ∧ k < n ∧ k < t.length) (hf : fullB t = true) (hd : decB t = (65533, 1))
theorem alike {t : List Int} (hL : 1 ≤ t.length) (hb : ∀ j, bn t j < 256) : Alike t := by
  have hF : frontB t 0 = if szR (bn t 0) = 0 then (0, 0) else (frK t 0 (szR (bn t 0)) 1, szR (bn t 0)) := by rw [frontB, if_neg (by omega)]
  have hfull : fullB t = fullN t.length (bn t 0) (bn t 1) (bn t 2) := by rw [fullB, if_neg (by omega)]
  have hdec : decB t = decodeN t.length (bn t 0) (bn t 1) (bn t 2) (bn t 3) := by rw [decB, if_neg (by omega)]
  obtain ⟨n, hn⟩ : ∃ n, n = szR (bn t 0) := ⟨_, rfl⟩
  have hle := szR_le (bn t 0)
  rw [← hn] at hF hle
  have hrange := szR_range hn.symm
  by_cases n0 : n = 0
  · have hT := szR_zero (hb 0) (hn.symm.trans n0)
    rw [if_pos n0] at hF
    exact .wrong 0 0 hF (.inl ⟨rfl, rfl⟩) (by rw [hfull]; exact fullN_whole (by rw [hT]; omega)) (by rw [hdec, bad_eq _ _ _ _ _ (hb 0) hT])
  rw [if_neg n0] at hF
  by_cases n1 : n = 1
  · obtain ⟨hT, h128⟩ := szR_one (hn.symm.trans n1)
    have hd := hdec.trans (ascii_eq _ _ _ _ _ hT)
    rw [frK_end (by omega), n1] at hF
    refine .whole 1 hF (by omega) (by omega) hL (by rw [hfull]; exact fullN_whole (by rw [hT]; omega)) (by rw [hd]) ?_ (by rw [hd]; simp only []; omega)
    have hl1 : (t.take 1).length = 1 := by rw [List.length_take]; omega
    rw [hd, valB, if_pos hl1, bn_take (by omega)]
  have h2 : 2 ≤ szR (bn t 0) := by omega
  obtain ⟨hlow, h8, hlo, hhi, _⟩ := szR_more h2
  have hf1 := fit_one h2
  have hf2 := fit_more (t := t) (k := 2) (by omega)
  have hf3 := fit_more (t := t) (k := 3) (by omega)
  have hd := hdec.trans (slow_eq _ _ _ _ _ hL (hb 1) (hb 2) (hb 3) hlow).symm
  rw [h8, ← hn] at hd
  rw [← hn] at h8
  have hvs : ∀ m, 2 ≤ m → m ≤ t.length → valB (t.take m) = valS (t.take m) m m := fun m hm hml => by
    have : (t.take m).length = m := by rw [List.length_take]; omega
    rw [valB, this, if_neg (by omega)]
  have hb0 := hb 0
  by_cases c1 : 1 < t.length ∧ accLo (firstT (bn t 0) / 16) ≤ bn t 1 ∧ bn t 1 ≤ accHi (firstT (bn t 0) / 16)
  · rw [frK_next (by omega) (by omega) (hf1.2 c1.2)] at hF
    by_cases e2 : n = 2
    · rw [frK_end (by omega), e2] at hF
      have hd2 : decB t = (bn t 0 % 32 * 64 + bn t 1 % 64, 2) := by rw [hd, slowN, if_neg (by omega), if_neg (by omega), if_pos (by omega)]
      refine .whole 2 hF (by omega) (by omega) (by omega) (by rw [hfull]; exact fullN_whole (by omega)) (by rw [hd2]) ?_ (by omega)
      rw [hd2, hvs 2 (by omega) (by omega)]
      show _ = 64 * ((bn (t.take 2) 0 : Int) - 192) + (bn (t.take 2) 1 : Int) - 128
      rw [bn_take (by omega), bn_take (by omega)]
      simp only []
      omega
    by_cases c2 : 2 < t.length ∧ 128 ≤ bn t 2 ∧ bn t 2 ≤ 191
    · rw [frK_next (by omega) (by omega) (hf2.2 c2.2)] at hF
      by_cases e3 : n = 3
      · rw [frK_end (by omega), e3] at hF
        have hd2 : decB t = (bn t 0 % 16 * 4096 + bn t 1 % 64 * 64 + bn t 2 % 64, 3) := by rw [hd, slowN, if_neg (by omega), if_neg (by omega), if_neg (by omega), if_neg (by omega), if_pos (by omega)]
        refine .whole 3 hF (by omega) (by omega) (by omega) (by rw [hfull]; exact fullN_whole (by omega)) (by rw [hd2]) ?_ (by omega)
        rw [hd2, hvs 3 (by omega) (by omega)]
        show _ = 64 * (64 * ((bn (t.take 3) 0 : Int) - 224) + (bn (t.take 3) 1 : Int) - 128) + (bn (t.take 3) 2 : Int) - 128
        rw [bn_take (by omega), bn_take (by omega), bn_take (by omega)]
        simp only []
        omega
      have e4 : n = 4 := by omega
      by_cases c3 : 3 < t.length ∧ 128 ≤ bn t 3 ∧ bn t 3 ≤ 191
      · rw [frK_next (by omega) (by omega) (hf3.2 c3.2), frK_end (by omega), e4] at hF
        have hd2 : decB t = (bn t 0 % 8 * 262144 + bn t 1 % 64 * 4096 + bn t 2 % 64 * 64 + bn t 3 % 64, 4) := by rw [hd, slowN, if_neg (by omega), if_neg (by omega), if_neg (by omega), if_neg (by omega), if_neg (by omega), if_neg (by omega)]
        refine .whole 4 hF (by omega) (by omega) (by omega) (by rw [hfull]; exact fullN_whole (by omega)) (by rw [hd2]) ?_ (by omega)
        rw [hd2, hvs 4 (by omega) (by omega)]
        show _ = 64 * (64 * (64 * ((bn (t.take 4) 0 : Int) - 240) + (bn (t.take 4) 1 : Int) - 128) + (bn (t.take 4) 2 : Int) - 128) + (bn (t.take 4) 3 : Int) - 128
        rw [bn_take (by omega), bn_take (by omega), bn_take (by omega), bn_take (by omega)]
        simp only []
        omega
      · rw [frK_end (fun k => c3 ⟨by omega, hf3.1 k.2.2⟩)] at hF
        by_cases l3 : t.length = 3
        · exact .waits n (by rw [hF, l3]) (by omega) (by rw [hfull]; exact fullN_part (by omega) (fun _ => c1.2) (by omega)) (by rw [hd, slowN, if_pos (by omega)])
        · exact .wrong 3 n hF (.inr (by omega)) (by rw [hfull]; exact fullN_whole (by omega)) (by rw [hd, slowN, if_neg (by omega), if_neg (by omega), if_neg (by omega), if_neg (by omega), if_neg (by omega), if_pos (by omega)])
    · rw [frK_end (fun k => c2 ⟨by omega, hf2.1 k.2.2⟩)] at hF
      by_cases l2 : t.length = 2
      · exact .waits n (by rw [hF, l2]) (by omega) (by rw [hfull]; exact fullN_part (by omega) (fun _ => c1.2) (by omega)) (by rw [hd, slowN, if_pos (by omega)])
      · refine .wrong 2 n hF (.inr (by omega)) ?_ ?_
        · rw [hfull]; unfold fullN
          by_cases k : firstT (bn t 0) % 8 ≤ t.length
          · rw [if_pos k]
          · rw [if_neg k, if_neg (by omega), if_pos (by omega)]
        · rw [hd, slowN]
          by_cases k : t.length < n
          · rw [if_pos k]
          · rw [if_neg k, if_neg (by omega), if_neg (by omega), if_pos (by omega)]
  · rw [frK_end (fun k => c1 ⟨by omega, hf1.1 k.2.2⟩)] at hF
    by_cases l1 : t.length = 1
    · exact .waits n (by rw [hF, l1]) (by omega) (by rw [hfull]; exact fullN_part (by omega) (by omega) (by omega)) (by rw [hd, slowN, if_pos (by omega)])
    · refine .wrong 1 n hF (.inr (by omega)) ?_ ?_
      · rw [hfull]; unfold fullN
        by_cases k : firstT (bn t 0) % 8 ≤ t.length
        · rw [if_pos k]
        · rw [if_neg k, if_pos (by omega)]
      · rw [hd, slowN]
        by_cases k : t.length < n
        · rw [if_pos k]
        · rw [if_neg k, if_pos (by omega)]
end Gim
