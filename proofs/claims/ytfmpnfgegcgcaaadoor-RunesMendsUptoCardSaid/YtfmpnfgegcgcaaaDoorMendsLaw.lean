/- What is mended is characters, and its own mending: plain. -/
import Derived.Test.YtfmpnfgegcgcaaaDoorRefTextWalk
namespace Gim
open Go Go.Lib
theorem begins_front {t : List Int} {k n : Nat} (hl : 1 ≤ t.length) (hb : ∀ x ∈ t, 0 ≤ x ∧ x ≤ 255) (h : frontB t 0 = (k, n)) (hc : k = n ∧ 1 ≤ n ∨ k = t.length ∧ k < n) : beginsB t = true := by
  rcases alike hl (bn_lt hb) with ⟨m, hF, h1, h4, hle, hf, hd, hv, hok⟩ | ⟨m, hF, hlt, hf, hd⟩ | ⟨k', m, hF, hk, hf, hd⟩
  · unfold beginsB validB
    rw [hd, hf, decide_eq_false hok]
    rfl
  · unfold beginsB
    rw [hf]
    rfl
  · rw [h] at hF
    simp only [Prod.mk.injEq] at hF
    omega
theorem drop_encs {xs : List Int} {p : Nat} {r : Int} {l : List Int} (h : xs.drop p = bz (encs (r :: l))) (hr : Ch r) :
    p < xs.length ∧ ((decB (xs.drop p)).1 : Int) = r ∧ (decB (xs.drop p)).2 = (enc r).length ∧ xs.drop (p + (enc r).length) = bz (encs l) ∧ ¬ ((decB (xs.drop p)).1 = 65533 ∧ (decB (xs.drop p)).2 ≤ 1) := by
  have hlen := enc_len hr
  have hr0 : 0 ≤ r := by unfold Ch at hr; omega
  rw [encs_cons] at h
  have hp : p < xs.length := by
    have h1 := congrArg List.length h
    rw [List.length_drop, bz_length, List.length_append] at h1
    omega
  have hd : decB (xs.drop p) = (r.toNat, (enc r).length) := by
    rw [h, decB_bz (fun k => by have := congrArg List.length k; rw [List.length_append, List.length_nil] at this; omega), dec_enc hr]
  refine ⟨hp, by rw [hd]; dsimp only; omega, by rw [hd], ?_, ?_⟩
  · rw [← List.drop_drop, h, bz_append, show (enc r).length = (bz (enc r)).length by rw [bz_length], List.drop_left]
  · rw [hd]
    dsimp only
    intro hh
    have := hlen.2.2 (by omega)
    omega
theorem goodAt_encs {xs : List Int} (hb : ∀ x ∈ xs, 0 ≤ x ∧ x ≤ 255) : ∀ {l : List Int} {p : Nat}, (∀ r ∈ l, Ch r) → p ≤ xs.length → xs.drop p = bz (encs l) → goodAt xs p = xs.length
  | [], p, _, hp, h => by
    have h1 := congrArg List.length h
    rw [List.length_drop] at h1
    simp [encs, bz] at h1
    rw [goodAt_end (by omega)]
    omega
  | r :: l, p, hl, hp, h => by
    obtain ⟨h1, h2, h3, h4, h5⟩ := drop_encs h (hl r List.mem_cons_self)
    have hlt : p + (enc r).length ≤ xs.length := by
      have hle := decB_le (xs := xs.drop p) (by rw [List.length_drop]; omega)
      rw [List.length_drop] at hle
      omega
    have ih := goodAt_encs hb (fun x hx => hl x (List.mem_cons_of_mem _ hx)) hlt h4
    rcases step hb h1 with ⟨m, hF, m1, m4, hlm, hf, hv, hd, hV, hok⟩ | ⟨k, m, hF, hk, hkn, hf, hd, hpc⟩ | ⟨k, m, hF, hk, hkn, hf, hv, hd, hpc⟩
    · rw [goodAt_next h1 hf hv, h3, ih]
    · rw [hd] at h5; exact absurd ⟨rfl, Nat.le_refl _⟩ h5
    · rw [hd] at h5; exact absurd ⟨rfl, Nat.le_refl _⟩ h5
theorem partsAt_encs {xs : List Int} : ∀ {l : List Int} {p : Nat}, (∀ r ∈ l, Ch r) → p ≤ xs.length → xs.drop p = bz (encs l) → partsAt xs p = l
  | [], p, _, hp, h => by
    have h1 := congrArg List.length h
    rw [List.length_drop] at h1
    simp [encs, bz] at h1
    rw [partsAt_end (by omega)]
  | r :: l, p, hl, hp, h => by
    obtain ⟨h1, h2, h3, h4, h5⟩ := drop_encs h (hl r List.mem_cons_self)
    have hlt : p + (enc r).length ≤ xs.length := by
      have hle := decB_le (xs := xs.drop p) (by rw [List.length_drop]; omega)
      rw [List.length_drop] at hle
      omega
    have ih := partsAt_encs (fun x hx => hl x (List.mem_cons_of_mem _ hx)) hlt h4
    have hw : partW xs p = (enc r).length := by unfold partW; rw [if_neg h5, h3]
    rw [partsAt_next h1, hw, ih, h2]
theorem goodAt_all {xs : List Int} (hb : ∀ x ∈ xs, 0 ≤ x ∧ x ≤ 255) : ∀ (f p : Nat), xs.length ≤ p + f → p ≤ xs.length → goodAt xs p = xs.length → ∃ l, (∀ r ∈ l, Ch r) ∧ xs.drop p = bz (encs l)
  | 0, p, hf, hp, h => ⟨[], fun r hr => (by cases hr), by rw [List.drop_of_length_le (by omega)]; rfl⟩
  | f + 1, p, hf, hp, h => by
    by_cases hpl : p < xs.length
    · have hdl : (xs.drop p).length = xs.length - p := List.length_drop
      have hdb : ∀ x ∈ xs.drop p, 0 ≤ x ∧ x ≤ 255 := fun x hx => hb x (List.mem_of_mem_drop hx)
      rcases step hb hpl with ⟨m, hF, m1, m4, hlm, hf', hv, hd, hV, hok⟩ | ⟨k, m, hF, hk, hkn, hf', hd, hpc⟩ | ⟨k, m, hF, hk, hkn, hf', hv, hd, hpc⟩
      · rw [goodAt_next hpl hf' hv, hd] at h
        obtain ⟨l, hl, he⟩ := goodAt_all hb f (p + m) (by omega) hlm h
        have hwb := whole_bytes hdb (by omega) (by rw [hd]; exact hok)
        have hs := decB_shape (xs.drop p) (by omega) (bn_lt hdb)
        refine ⟨((decB (xs.drop p)).1 : Int) :: l, fun r hr => ?_, ?_⟩
        · rcases List.mem_cons.1 hr with rfl | hr
          · exact hs.1
          · exact hl r hr
        · rw [encs_cons, bz_append, ← hwb, ← he, hd, ← List.drop_drop, List.take_append_drop]
      · rw [goodAt_end (by rw [hf']; simp)] at h; omega
      · rw [goodAt_end (by rw [hv]; simp)] at h; omega
    · exact ⟨[], fun r hr => (by cases hr), by rw [List.drop_of_length_le (by omega)]; rfl⟩
theorem partsAt_ch {xs : List Int} (hb : ∀ x ∈ xs, 0 ≤ x ∧ x ≤ 255) : ∀ (f p : Nat), xs.length ≤ p + f → ∀ r ∈ partsAt xs p, Ch r
  | 0, p, hf, r, hr => by rw [partsAt_end (by omega)] at hr; cases hr
  | f + 1, p, hf, r, hr => by
    by_cases hpl : p < xs.length
    · have hdl : (xs.drop p).length = xs.length - p := List.length_drop
      have hs := decB_shape (xs.drop p) (by omega) (bn_lt fun x hx => hb x (List.mem_of_mem_drop hx))
      have hw := partW_pos hpl
      rw [partsAt_next hpl] at hr
      rcases List.mem_cons.1 hr with rfl | hr
      · exact hs.1
      · exact partsAt_ch hb f _ (by omega) r hr
    · rw [partsAt_end hpl] at hr; cases hr
/-- bytes that go on no character -/
theorem chAt_run {xs : List Int} {p k : Nat} (hk : p + k ≤ xs.length) (hd : ∀ q, p ≤ q → q < p + k → decB (xs.drop q) = (65533, 1)) : (chAt xs p).length = k + (chAt xs (p + k)).length := by
  induction k generalizing p with
  | zero => simp
  | succ k ih =>
    rw [chAt_next (by omega), hd p (Nat.le_refl _) (by omega)]
    have := ih (p := p + 1) (by omega) (fun q h1 h2 => hd q (by omega) (by omega))
    simp only [List.length_cons]
    rw [this, show p + 1 + k = p + (k + 1) by omega]
    omega
theorem cont_bad {xs : List Int} (hb : ∀ x ∈ xs, 0 ≤ x ∧ x ≤ 255) {q : Nat} (hq : q < xs.length) (h1 : 128 ≤ bn xs q) (h2 : bn xs q ≤ 191) : decB (xs.drop q) = (65533, 1) := by
  have hz : szR (bn xs q) = 0 := by
    unfold szR
    rw [if_neg (by omega), if_neg (by omega), if_neg (by omega), if_neg (by omega)]
  have hF : frontB xs q = (0, 0) := by rw [frontB, if_neg (by omega), if_pos hz]
  rcases step hb hq with ⟨m, hF', m1, _⟩ | ⟨k, m, hF', hk, hkn, hf, hd, hpc⟩ | ⟨k, m, hF', hk, hkn, hf, hv, hd, hpc⟩
  · rw [hF] at hF'
    simp only [Prod.mk.injEq] at hF'
    omega
  · exact hd
  · exact hd
theorem parts_le {xs : List Int} (hb : ∀ x ∈ xs, 0 ≤ x ∧ x ≤ 255) : ∀ (f p : Nat), xs.length ≤ p + f → (partsAt xs p).length ≤ (chAt xs p).length
  | 0, p, hf => by rw [partsAt_end (by omega)]; simp
  | f + 1, p, hf => by
    by_cases hpl : p < xs.length
    · have hw := partW_pos hpl
      have ih := parts_le hb f (p + partW xs p) (by omega)
      rw [partsAt_next hpl, List.length_cons]
      have hno : ∀ k n, frontB xs p = (k, n) → (k ≠ n ∨ n = 0) → p + k ≤ xs.length → decB (xs.drop p) = (65533, 1) → pieceN xs p = k → (partsAt xs (p + partW xs p)).length + 1 ≤ (chAt xs p).length := fun k n hF hne hkl hd hpc => by
        have hpw : partW xs p = max k 1 := by unfold partW; rw [hd, if_pos ⟨rfl, Nat.le_refl _⟩, hpc]
        have hrun := chAt_run (xs := xs) (p := p) (k := max k 1) (by omega) (fun q h1 h2 => by
          by_cases hqp : q = p
          · rw [hqp]; exact hd
          · have hn0 : n ≠ 0 := fun h0 => by
              subst h0
              rw [← frontB_drop (by omega)] at hF
              have := frontB_zero hF
              omega
            rw [← frontB_drop (by omega)] at hF
            have hs := (frontB_some hF hn0).2.2
            have hfit := (hs.fit (q - p) (by omega) (by omega)).2
            rw [fitR_drop] at hfit
            unfold fitR at hfit
            rw [show p + (q - p) = q by omega] at hfit
            simp only [Bool.not_eq_true', Bool.or_eq_false_iff, decide_eq_false_iff_not] at hfit
            exact cont_bad hb (by omega) (by omega) (by omega))
        rw [hpw] at ih ⊢
        omega
      rcases step hb hpl with ⟨m, hF, m1, m4, hlm, hf', hv, hd, hV, hok⟩ | ⟨k, m, hF, hk, hkn, hf', hd, hpc⟩ | ⟨k, m, hF, hk, hkn, hf', hv, hd, hpc⟩
      · have hpw : partW xs p = m := by unfold partW; rw [if_neg (by rw [hd]; exact hok), hd]
        rw [chAt_next hpl, hd, List.length_cons]
        rw [hpw] at ih ⊢
        omega
      · exact hno k m hF (.inl (by omega)) (by omega) hd hpc
      · exact hno k m hF (by omega) (by omega) hd hpc
    · rw [partsAt_end hpl]; simp
/-- the bytes that a Decoder is handed, where all can go on -/
theorem good_begins {xs : List Int} (hb : ∀ x ∈ xs, 0 ≤ x ∧ x ≤ 255) (hg : goodB xs = xs.length) {p l : Nat} (hp : goodAt xs 0 = goodAt xs p) (hl : 1 ≤ l) (hpl : p + l ≤ xs.length) :
    beginsB ((xs.drop p).take l) = true ∧ (frontB ((xs.drop p).take l) 0 = (l, l) → goodAt xs 0 = goodAt xs (p + l)) := by
  have htl : ((xs.drop p).take l).length = l := by rw [List.length_take, List.length_drop]; omega
  have htb : ∀ x ∈ (xs.drop p).take l, 0 ≤ x ∧ x ≤ 255 := fun x hx => hb x (List.mem_of_mem_drop (List.mem_of_mem_take hx))
  have hdl : (xs.drop p).length = xs.length - p := List.length_drop
  rcases step hb (show p < xs.length by omega) with ⟨m, hF, m1, m4, hlm, hf', hv, hd, hV, hok⟩ | ⟨k, m, hF, hk, hkn, hf', hd, hpc⟩ | ⟨k, m, hF, hk, hkn, hf', hv, hd, hpc⟩
  · rw [← frontB_drop (by omega)] at hF
    have ht := frontB_take (m := l) hF hl (by omega)
    refine ⟨begins_front (by omega) htb ht (by omega), fun h => ?_⟩
    rw [ht] at h
    simp only [Prod.mk.injEq] at h
    rw [hp, goodAt_next (by omega) hf' hv, hd, h.2]
  · rw [← frontB_drop (by omega)] at hF
    have ht := frontB_take (m := l) hF hl (by omega)
    refine ⟨begins_front (by omega) htb ht (by omega), fun h => ?_⟩
    rw [ht] at h
    simp only [Prod.mk.injEq] at h
    omega
  · exfalso
    unfold goodB at hg
    rw [hp, goodAt_end (by rw [hv]; simp), hpc] at hg
    omega
theorem pend_iff {xs : List Int} (hb : ∀ x ∈ xs, 0 ≤ x ∧ x ≤ 255) {p : Nat} (hp : goodAt xs 0 = goodAt xs p) (hpl : p ≤ xs.length) (hw : Waits (xs.drop p)) : goodAt xs 0 = xs.length ↔ p = xs.length := by
  by_cases h : p < xs.length
  · have hdl : (xs.drop p).length = xs.length - p := List.length_drop
    rcases hw with hw | ⟨m, hw, hwl⟩
    · rw [hw] at hdl
      simp at hdl
      omega
    · rw [frontB_drop hpl] at hw
      rcases step hb h with ⟨m', hF, m1, m4, hlm, hf', hv, hd, hV, hok⟩ | ⟨k, m', hF, hk, hkn, hf', hd, hpc⟩ | ⟨k, m', hF, hk, hkn, hf', hv, hd, hpc⟩
      · rw [hw] at hF
        simp only [Prod.mk.injEq] at hF
        omega
      · rw [hp, goodAt_end (by rw [hf']; simp)]
      · rw [hp, goodAt_end (by rw [hv]; simp)]
  · rw [hp, goodAt_end (by omega)]
theorem mend_iff (s : ByteArray) : runesBytes (rs s) = s ↔ goodAt (bz s.data.toList) 0 = (bz s.data.toList).length := by
  constructor
  · intro h
    have hx : bz s.data.toList = bz (encs (rs s)) := by
      conv => lhs; rw [← h, runesBytes_list]
    exact goodAt_encs (bz_by _) (rs_ch s) (by omega) (by rw [List.drop_zero]; exact hx)
  · intro h
    obtain ⟨l, hl, he⟩ := goodAt_all (bz_by _) (bz s.data.toList).length 0 (by omega) (by omega) h
    rw [List.drop_zero] at he
    have hs : s = runesBytes l := by rw [← str_bz s, he, str_encs]
    have hr : rs s = l := read_encs hl (by rw [List.drop_zero, hs]; exact runesBytes_list l)
    rw [hr, ← hs]
theorem parts_iff (s : ByteArray) : runesBytes (parts (bz s.data.toList)) = s ↔ goodAt (bz s.data.toList) 0 = (bz s.data.toList).length := by
  constructor
  · intro h
    have hc : ∀ r ∈ parts (bz s.data.toList), Ch r := partsAt_ch (bz_by _) (bz s.data.toList).length 0 (by omega)
    have hx : bz s.data.toList = bz (encs (parts (bz s.data.toList))) := by
      conv => lhs; rw [← h, runesBytes_list]
    exact goodAt_encs (bz_by _) hc (by omega) (by rw [List.drop_zero]; exact hx)
  · intro h
    obtain ⟨l, hl, he⟩ := goodAt_all (bz_by _) (bz s.data.toList).length 0 (by omega) (by omega) h
    have hp : parts (bz s.data.toList) = l := partsAt_encs (xs := bz s.data.toList) (p := 0) hl (by omega) he
    rw [List.drop_zero] at he
    rw [hp, ← str_encs, ← he, str_bz]
theorem encs_small : ∀ {l : List Int}, (∀ r ∈ l, Ch r) → (encs l).length ≤ 4 * l.length
  | [], _ => by simp [encs]
  | r :: l, h => by
    have h1 := (enc_len (h r List.mem_cons_self)).2.1
    have h2 := encs_small (fun x hx => h x (List.mem_cons_of_mem _ hx))
    rw [encs_cons, List.length_append, List.length_cons]
    omega
theorem runesBytes_small {l : List Int} (h : ∀ r ∈ l, Ch r) : (runesBytes l).size ≤ 4 * l.length := by
  have h1 := encs_small h
  rw [← runesBytes_list] at h1
  exact h1
theorem good_encs {l : List Int} (hl : ∀ r ∈ l, Ch r) : goodB (bz (encs l)) = (bz (encs l)).length := by
  have hg := goodAt_encs (xs := bz (encs l)) (p := 0) (bz_by _) hl (by omega) (by rw [List.drop_zero])
  unfold goodB pieceN
  rw [hg, runF_end _ (by omega), Nat.add_zero]
theorem good_of {xs : List Int} (h : goodAt xs 0 = xs.length) : goodB xs = xs.length := by
  unfold goodB pieceN
  rw [h, runF_end _ (by omega), Nat.add_zero]
end Gim
