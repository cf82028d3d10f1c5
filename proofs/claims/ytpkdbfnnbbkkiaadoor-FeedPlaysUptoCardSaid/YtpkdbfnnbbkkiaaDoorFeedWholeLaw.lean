/- What a Feed gives of any bytes against Go's own range over them. Plain. -/
import Derived.Test.YtpkdbfnnbbkkiaaDoorFeedCharsLaw
import Derived.Test.YtpkdbfnnbbkkiaaDoorRefLaw3
namespace Gim
open Go Go.Lib
theorem bn_of {t : List Int} (hb : ∀ x ∈ t, 0 ≤ x ∧ x ≤ 255) (j : Nat) (hj : j < t.length) : t[j] = ((bn t j : Nat) : Int) ∧ bn t j < 256 := by
  have h1 := hb t[j] (List.getElem_mem hj)
  have h2 : gt t j = t[j] := by simp [gt, hj]
  unfold bn
  rw [h2]
  omega
theorem take1 {t : List Int} (h : 1 ≤ t.length) : t.take 1 = [t[0]] := by
  match t, h with
  | a :: t, _ => rfl
theorem take2 {t : List Int} (h : 2 ≤ t.length) : t.take 2 = [t[0], t[1]] := by
  match t, h with
  | a :: b :: t, _ => rfl
theorem take3 {t : List Int} (h : 3 ≤ t.length) : t.take 3 = [t[0], t[1], t[2]] := by
  match t, h with
  | a :: b :: c :: t, _ => rfl
theorem take4 {t : List Int} (h : 4 ≤ t.length) : t.take 4 = [t[0], t[1], t[2], t[3]] := by
  match t, h with
  | a :: b :: c :: d :: t, _ => rfl
/-- a whole character is its own bytes -/
theorem dec_take {t : List Int} (hb : ∀ x ∈ t, 0 ≤ x ∧ x ≤ 255) (h0 : 1 ≤ t.length) (hok : ¬ ((decB t).1 = 65533 ∧ (decB t).2 = 1)) : Ch ((decB t).1 : Int) ∧ t.take (decB t).2 = bz (enc ((decB t).1 : Int)) := by
  have hs := (decB_shape t h0 (bn_lt hb)).1
  refine ⟨hs, ?_⟩
  rw [← z_enc hs]
  have e0 := bn_of hb 0 (by omega)
  rw [decB, if_neg (by omega)] at hok ⊢
  rcases decodeN_shape t.length (bn t 0) (bn t 1) (bn t 2) (bn t 3) with ⟨c, e⟩ | ⟨c1, c2, c3, cv, e⟩ | ⟨c1, c2, c3, c4, cv, cs, e⟩ | ⟨c1, c2, c3, c4, c5, cv, cw, e⟩ | e
  · rw [e]
    show t.take 1 = encodeRuneZ ((bn t 0 : Nat) : Int)
    rw [take1 h0, encodeRuneZ_one (by omega) (by omega), e0.1]
  · rw [e]
    have e1 := bn_of hb 1 (by omega)
    show t.take 2 = encodeRuneZ (((bn t 0 % 32 * 64 + bn t 1 % 64 : Nat)) : Int)
    rw [take2 (by omega), encodeRuneZ_two (by omega) (by omega), e0.1, e1.1]
    simp only [List.cons.injEq, and_true]
    omega
  · rw [e]
    have e1 := bn_of hb 1 (by omega)
    have e2 := bn_of hb 2 (by omega)
    show t.take 3 = encodeRuneZ (((bn t 0 % 16 * 4096 + bn t 1 % 64 * 64 + bn t 2 % 64 : Nat)) : Int)
    rw [take3 (by omega), encodeRuneZ_three (by omega), e0.1, e1.1, e2.1]
    simp only [List.cons.injEq, and_true]
    omega
  · rw [e]
    have e1 := bn_of hb 1 (by omega)
    have e2 := bn_of hb 2 (by omega)
    have e3 := bn_of hb 3 (by omega)
    show t.take 4 = encodeRuneZ (((bn t 0 % 8 * 262144 + bn t 1 % 64 * 4096 + bn t 2 % 64 * 64 + bn t 3 % 64 : Nat)) : Int)
    rw [take4 (by omega), encodeRuneZ_four (by omega) (by omega), e0.1, e1.1, e2.1, e3.1]
    simp only [List.cons.injEq, and_true]
    omega
  · rw [e] at hok
    exact absurd ⟨rfl, rfl⟩ hok
theorem dec_low {t : List Int} {b : Nat} (h0 : 1 ≤ t.length) (hg : gt t 0 = b) (hb : b < 128) : decB t = (b, 1) := by
  have : bn t 0 = b := by unfold bn; rw [hg]; simp
  rw [decB, if_neg (by omega), this]
  unfold decodeN
  rw [if_pos hb]
/-- is there a wrong byte at a place? -/
def wrongB (xs : List Int) (p : Nat) : Bool := decide ((decB (xs.drop p)).1 = 65533 ∧ (decB (xs.drop p)).2 = 1)
def nwF (xs : List Int) : Nat → Nat → Bool
  | 0, _ => true
  | f + 1, p => if p < xs.length then !wrongB xs p && nwF xs f (p + (decB (xs.drop p)).2) else true
/-- no wrong byte from a place on -/
def nwAt (xs : List Int) (p : Nat) : Bool := nwF xs (xs.length - p) p
theorem nwF_end {xs : List Int} {p : Nat} : ∀ f, ¬ p < xs.length → nwF xs f p = true
  | 0, _ => rfl
  | f + 1, h => by rw [nwF, if_neg h]
theorem nwF_fuel {xs : List Int} : ∀ (f g p : Nat), xs.length ≤ p + f → xs.length ≤ p + g → nwF xs f p = nwF xs g p
  | 0, g, p, h, _ => by rw [nwF_end g (by omega)]; rfl
  | f + 1, g, p, h, h2 => by
    by_cases hc : p < xs.length
    · obtain ⟨g, rfl⟩ : ∃ g', g = g' + 1 := ⟨g - 1, by omega⟩
      have hw := decB_width (xs := xs.drop p) (by rw [List.length_drop]; omega)
      rw [nwF, nwF, if_pos hc, if_pos hc, nwF_fuel f g _ (by omega) (by omega)]
    · rw [nwF_end _ hc, nwF_end _ hc]
theorem nwAt_next {xs : List Int} {p : Nat} (h : p < xs.length) : nwAt xs p = (!wrongB xs p && nwAt xs (p + (decB (xs.drop p)).2)) := by
  unfold nwAt
  have hw := decB_width (xs := xs.drop p) (by rw [List.length_drop]; omega)
  obtain ⟨f, hf⟩ : ∃ f, xs.length - p = f + 1 := ⟨xs.length - p - 1, by omega⟩
  rw [hf, nwF, if_pos h, nwF_fuel f (xs.length - (p + (decB (xs.drop p)).2)) _ (by omega) (by omega)]
theorem nwAt_end {xs : List Int} {p : Nat} (h : ¬ p < xs.length) : nwAt xs p = true := nwF_end _ h
theorem rs_pre {xs X : List Int} {c : Nat} (hX : ∀ r ∈ X, Ch r) (h : xs.take c = bz (encs X)) : (rs (strOfNums (xs.take c))).length = X.length := by
  have hs : (strOfNums (xs.take c)).data.toList.drop 0 = encs X := by
    rw [h, show bz (encs X) = (encs X).map fun b => (b.toNat : Int) from rfl, Lib.Lz.strOfNums_map, List.drop_zero]
  rw [show rs (strOfNums (xs.take c)) = X from read_encs hX hs]
/-- how the range over the bytes stands to what the Feed gave of them -/
def WS (xs : List Int) (ds : List Ch6) (D2 : List Int × Pl) (p : Nat) (was : Int) (n : Nat) : Prop :=
  ∃ (c : Nat) (q : Pl) (X : List Int), ds.drop n = (drainB (xs.drop c) q true).1 ∧ D2 = (drainB (xs.drop c) q true).2 ∧ q.1 = c ∧ c ≤ xs.length ∧ (∀ r ∈ X, Ch r) ∧ xs.take c = bz (encs X) ∧ q.2.1 = X.length ∧ nwAt xs 0 = nwAt xs c ∧
    ((p = c ∧ (was = 13 → c < xs.length → gt xs c ≠ 10)) ∨ (was = 13 ∧ p + 1 = c ∧ gt xs p = 10))
theorem WS.start (xs : List Int) : WS xs (drainB xs (0, 0, 1, 1) true).1 (drainB xs (0, 0, 1, 1) true).2 0 0 0 :=
  ⟨0, (0, 0, 1, 1), [], rfl, rfl, rfl, Nat.zero_le _, fun _ h => (by cases h), rfl, rfl, rfl, .inl ⟨rfl, fun h => (by cases h)⟩⟩
theorem WS.end {xs : List Int} {ds : List Ch6} {D2 : List Int × Pl} {p : Nat} {was : Int} {n : Nat} (h : WS xs ds D2 p was n) (hp : ¬ p < xs.length) : ds.drop n = [] ∧ (firstB D2.1 true).2.2 = 3 ∧ nwAt xs 0 = true := by
  obtain ⟨c, q, X, h1, h2, h3, h4, h5, h6, h7, h8, ⟨e, _⟩ | ⟨_, e, _⟩⟩ := h
  · subst e
    have hd : xs.drop p = [] := List.drop_eq_nil_of_le (by omega)
    rw [hd, drainB_stop (first_nil true)] at h1 h2
    exact ⟨h1, by rw [h2]; show (firstB [] true).2.2 = 3; decide, by rw [h8, nwAt_end hp]⟩
  · omega
theorem drop_consC {l : List Ch6} {n : Nat} {c : Ch6} {t : List Ch6} (h : l.drop n = c :: t) : n < l.length ∧ l[n]? = some c ∧ l.drop (n + 1) = t := by
  have hl := congrArg List.length h
  simp at hl
  have hn : n < l.length := by omega
  rw [List.drop_eq_getElem_cons hn] at h
  injection h with h1 h2
  exact ⟨hn, by rw [List.getElem?_eq_getElem hn, h1], h2⟩
theorem gt_drop (xs : List Int) (c j : Nat) : gt (xs.drop c) j = gt xs (c + j) := by simp [gt]
theorem take_app {xs : List Int} {c k : Nat} {X Y : List Int} (h : xs.take c = bz (encs X)) (h2 : (xs.drop c).take k = bz (encs Y)) : xs.take (c + k) = bz (encs (X ++ Y)) := by
  rw [List.take_add, h, h2, encs_append, bz_append]
set_option maxHeartbeats 1000000 in
theorem WS.round {xs : List Int} {ds : List Ch6} {D2 : List Int × Pl} {p : Nat} {was : Int} {n : Nat} (hb : ∀ x ∈ xs, 0 ≤ x ∧ x ≤ 255) (h : WS xs ds D2 p was n) (hp : p < xs.length) :
    (((decB (xs.drop p)).1 : Int) = 10 ∧ was = 13 ∧ WS xs ds D2 (p + (decB (xs.drop p)).2) 10 n) ∨
    (¬ (((decB (xs.drop p)).1 : Int) = 10 ∧ was = 13) ∧ ((ds.drop n = [] ∧ (firstB D2.1 true).2.2 = 2 ∧ nwAt xs 0 = false) ∨
      (∃ q w', ds[n]? = some (if ((decB (xs.drop p)).1 : Int) = 13 then 10 else ((decB (xs.drop p)).1 : Int), q, w') ∧ n < ds.length ∧ q.1 = (p : Int) ∧ q.2.1 = (((rs (strOfNums (xs.take p))).length : Nat) : Int) ∧
        WS xs ds D2 (p + (decB (xs.drop p)).2) ((decB (xs.drop p)).1 : Int) (n + 1)))) := by
  obtain ⟨c, q, X, h1, h2, h3, h4, h5, h6, h7, h8, ⟨e, hw⟩ | ⟨hw, e, hg⟩⟩ := h
  rotate_left
  · have hd : decB (xs.drop p) = (10, 1) := dec_low (by rw [List.length_drop]; omega) (by rw [gt_drop]; exact hg) (by decide)
    rw [hd]
    exact .inl ⟨rfl, hw, c, q, X, h1, h2, h3, h4, h5, h6, h7, h8, .inl ⟨e, fun hh => by cases hh⟩⟩
  · subst e
    refine .inr ⟨?_, ?_⟩
    · rintro ⟨hr, h13⟩
      have hne := hw h13 hp
      have hl : 1 ≤ (xs.drop p).length := by rw [List.length_drop]; omega
      have hbt : ∀ x ∈ xs.drop p, 0 ≤ x ∧ x ≤ 255 := fun x hx => hb x (List.mem_of_mem_drop hx)
      have hdt := dec_take hbt hl (fun hh => by rw [hh.1] at hr; cases hr)
      rw [hr, enc10] at hdt
      have h2 := congrArg (fun l => gt l 0) hdt.2
      have hw1 := decB_width (xs := xs.drop p) (by omega)
      have h3 : gt ((xs.drop p).take (decB (xs.drop p)).2) 0 = gt (xs.drop p) 0 := by simp [gt, show 0 < (decB (xs.drop p)).2 by omega]
      rw [show (gt (bz [10]) 0) = 10 by decide] at h2
      rw [h3, gt_drop] at h2
      exact hne h2
    · have hl : 1 ≤ (xs.drop p).length := by rw [List.length_drop]; omega
      have hl0 : (xs.drop p).length ≠ 0 := by omega
      have hbt : ∀ x ∈ xs.drop p, 0 ≤ x ∧ x ≤ 255 := fun x hx => hb x (List.mem_of_mem_drop hx)
      by_cases hh : (firstB (xs.drop p) true).2.2 = 0
      · right
        rw [drainB_have hh] at h1 h2
        have hcd := drop_consC h1
        by_cases h13 : gt (xs.drop p) 0 = 13
        · have hd : decB (xs.drop p) = (13, 1) := dec_low hl h13 (by decide)
          have hwr : wrongB xs p = false := by unfold wrongB; rw [hd]; decide
          have hn1 := nwAt_next hp
          rw [hwr, hd] at hn1
          have t1 : (xs.drop p).take 1 = bz (encs [13]) := by
            rw [take1 hl]
            have : (xs.drop p)[0] = 13 := by rw [← h13]; unfold gt; rw [List.getElem?_eq_getElem (by omega)]; rfl
            rw [this]
            decide
          rw [hd]
          by_cases hlf : 1 < (xs.drop p).length ∧ gt (xs.drop p) 1 = 10
          · have hf : firstB (xs.drop p) true = (10, 2, 0) := by rw [firstB_cr true hl0 h13, if_pos hlf]
            rw [hf] at h1 h2 hcd
            have hp1 : p + 1 < xs.length := by have := hlf.1; rw [List.length_drop] at this; omega
            have hd2 : decB (xs.drop (p + 1)) = (10, 1) := dec_low (by rw [List.length_drop]; omega) (by rw [gt_drop]; rw [gt_drop] at hlf; exact hlf.2) (by decide)
            have hwr2 : wrongB xs (p + 1) = false := by unfold wrongB; rw [hd2]; decide
            have hn2 := nwAt_next hp1
            rw [hwr2, hd2] at hn2
            have t2 : (xs.drop (p + 1)).take 1 = bz (encs [10]) := by
              rw [take1 (by rw [List.length_drop]; omega)]
              have : (xs.drop (p + 1))[0]'(by rw [List.length_drop]; omega) = 10 := by
                have h10 := hlf.2
                rw [gt_drop] at h10
                have : gt xs (p + 1) = xs[p + 1] := by simp [gt, hp1]
                rw [this] at h10
                simpa using h10
              rw [this]
              decide
            refine ⟨q, 2, hcd.2.1, hcd.1, h3, by rw [h7, rs_pre h5 h6], p + 2, behind q 10 2, (X ++ [13]) ++ [10], ?_, ?_, ?_, by omega, ?_, ?_, ?_, ?_, .inr ⟨rfl, rfl, ?_⟩⟩
            · rw [hcd.2.2]
              simp only [List.drop_drop]
              rfl
            · rw [h2]
              simp only [List.drop_drop]
              rfl
            · rw [behind_byte, h3]; omega
            · intro r hr
              rcases List.mem_append.1 hr with hr | hr
              · rcases List.mem_append.1 hr with hr | hr
                · exact h5 r hr
                · rw [List.mem_singleton.1 hr]; unfold Ch; omega
              · rw [List.mem_singleton.1 hr]; unfold Ch; omega
            · have ht := take_app (take_app h6 t1) t2
              exact ht
            · show (behind q 10 2).2.1 = _
              unfold behind
              rw [if_pos rfl]
              show (if (2 : Int) = 2 then q.2.1 + 1 + 1 else q.2.1 + 1) = _
              rw [if_pos rfl, List.length_append, List.length_append, List.length_singleton, List.length_singleton]
              omega
            · rw [h8, hn1]
              simp only [Bool.not_false, Bool.true_and]
              rw [hn2]
              rfl
            · have h10 := hlf.2
              rw [gt_drop] at h10
              exact h10
          · have hf : firstB (xs.drop p) true = (10, 1, 0) := by rw [firstB_cr true hl0 h13, if_neg hlf, if_pos (.inr rfl)]
            rw [hf] at h1 h2 hcd
            refine ⟨q, 1, hcd.2.1, hcd.1, h3, by rw [h7, rs_pre h5 h6], p + 1, behind q 10 1, X ++ [13], ?_, ?_, ?_, by omega, ?_, ?_, ?_, ?_, .inl ⟨rfl, ?_⟩⟩
            · rw [hcd.2.2]
              simp only [List.drop_drop]
              rfl
            · rw [h2]
              simp only [List.drop_drop]
              rfl
            · rw [behind_byte, h3]; omega
            · intro r hr
              rcases List.mem_append.1 hr with hr | hr
              · exact h5 r hr
              · rw [List.mem_singleton.1 hr]; unfold Ch; omega
            · exact take_app h6 t1
            · show (behind q 10 1).2.1 = _
              unfold behind
              rw [if_pos rfl]
              simp only [List.length_append, List.length_singleton]
              rw [if_neg (by decide)]
              omega
            · rw [h8, hn1]
              rfl
            · intro _ hlt h10
              exact hlf ⟨by rw [List.length_drop]; omega, by rw [gt_drop]; exact h10⟩
        · have hf := firstB_ne true hl0 h13
          by_cases hfu : fullB (xs.drop p) = false
          · rw [hf, if_pos hfu] at hh; cases hh
          rw [if_neg hfu] at hf
          by_cases hdd : (decB (xs.drop p)).1 = 65533 ∧ (decB (xs.drop p)).2 = 1
          · rw [hf, if_pos hdd] at hh; cases hh
          rw [if_neg hdd] at hf
          obtain ⟨hc, ht⟩ := dec_take hbt hl hdd
          have hwr : wrongB xs p = false := by unfold wrongB; rw [decide_eq_false hdd]
          have hn1 := nwAt_next hp
          rw [hwr] at hn1
          have hw1 := decB_width (xs := xs.drop p) (by omega)
          have hwl := decB_le (xs := xs.drop p) (by omega)
          rw [List.length_drop] at hwl
          rw [hf] at h1 h2 hcd
          simp only [Int.toNat_natCast] at h1 h2 hcd
          generalize (decB (xs.drop p)).1 = r at *
          generalize (decB (xs.drop p)).2 = wd at *
          have hr13 : ¬ (r : Int) = 13 := by
            intro hr
            rw [hr, enc13] at ht
            have hx := congrArg (fun l => gt l 0) ht
            have h3 : gt ((xs.drop p).take wd) 0 = gt (xs.drop p) 0 := by simp [gt, show 0 < wd by omega]
            rw [show (gt (bz [13]) 0) = 13 by decide] at hx
            rw [h3] at hx
            exact h13 hx
          rw [if_neg hr13]
          refine ⟨q, (wd : Int), hcd.2.1, hcd.1, h3, by rw [h7, rs_pre h5 h6], p + wd, behind q r wd, X ++ [(r : Int)], ?_, ?_, ?_, by omega, ?_, ?_, ?_, ?_, .inl ⟨rfl, fun hh => absurd hh hr13⟩⟩
          · rw [hcd.2.2]
            simp only [List.drop_drop]
          · rw [h2]
            simp only [List.drop_drop]
          · rw [behind_byte, h3]; omega
          · intro x hx
            rcases List.mem_append.1 hx with hx | hx
            · exact h5 x hx
            · rw [List.mem_singleton.1 hx]; exact hc
          · exact take_app h6 (by rw [ht]; simp [encs])
          · show (behind q r wd).2.1 = _
            unfold behind
            rw [List.length_append, List.length_singleton]
            by_cases h10 : (r : Int) = 10
            · rw [if_pos h10]
              have hwd1 : ¬ ((wd : Int) = 2) := by
                intro h2
                rw [h10, enc10] at ht
                have := congrArg List.length ht
                rw [List.length_take, List.length_drop, bz_length] at this
                simp at this
                omega
              simp only [if_neg hwd1]
              omega
            · rw [if_neg h10]
              simp only []
              omega
          · rw [h8, hn1]
            rfl
      · left
        rw [drainB_stop hh] at h1 h2
        have hrg := first_range (xs.drop p) true
        have hne1 := first_ended (xs.drop p)
        have hne3 : (firstB (xs.drop p) true).2.2 ≠ 3 := by
          by_cases h13 : gt (xs.drop p) 0 = 13
          · rw [firstB_cr true hl0 h13]
            split
            · decide
            · rw [if_pos (.inr rfl)]; decide
          · rw [firstB_ne true hl0 h13]
            split
            · simp
            · split <;> simp
        have h2' : (firstB (xs.drop p) true).2.2 = 2 := by omega
        refine ⟨h1, by rw [h2]; exact h2', ?_⟩
        have hwr : wrongB xs p = true := by
          unfold wrongB
          by_cases h13 : gt (xs.drop p) 0 = 13
          · exfalso
            rw [firstB_cr true hl0 h13] at h2'
            split at h2'
            · cases h2'
            · rw [if_pos (.inr rfl)] at h2'; cases h2'
          · rw [firstB_ne true hl0 h13] at h2'
            by_cases hfu : fullB (xs.drop p) = false
            · have hst := step hb hp
              rcases hst with ⟨_, _, _, _, _, hf, _, _, _⟩ | ⟨_, _, _, _, _, _, hd, _⟩ | ⟨_, _, _, _, _, hf, _, hd, _⟩
              · rw [hf] at hfu; cases hfu
              · rw [hd]; decide
              · rw [hd]; decide
            · rw [if_neg hfu] at h2'
              split at h2'
              · rename_i hdd
                exact decide_eq_true hdd
              · cases h2'
        rw [h8, nwAt_next hp, hwr]
        rfl
end Gim
