/- kleene.check, eval, Eval and Simplify of any formula. Printed by wip/mkevals.py. -/
import Derived.Test.YtmdanfeilgeoaaaKSimple2
import Derived.Test.YtmdanfeilgeoaaaKFixed
namespace Gim
open Go Go.RowKit Go.Sort Go.Proofs Go.Lib
def goodL (vs : List Int) : Bool := vs.all fun t => decide (0 ≤ t ∧ t ≤ 2)
theorem goodL_iff (vs : List Int) : goodL vs = true ↔ goodB vs := by simp [goodL, goodB]
/-- what kleene.check answers -/
def chk2 (vs : List Int) (f : Fm) : Int := if goodL vs = true then chkE f else 6
theorem chk2_zero {vs : List Int} {f : Fm} (h : chk2 vs f = 0) : goodB vs ∧ isB f = true := by
  unfold chk2 at h
  by_cases k : goodL vs = true
  · rw [if_pos k] at h
    unfold chkE at h
    by_cases m : isB f = true
    · exact ⟨(goodL_iff vs).1 k, m⟩
    · rw [if_neg m] at h
      cases h
  · rw [if_neg k] at h
    cases h
theorem chk2_of {vs : List Int} {f : Fm} (h : goodB vs) (k : isB f = true) : chk2 vs f = 0 := by
  unfold chk2 chkE
  rw [if_pos ((goodL_iff vs).2 h), if_pos k]
theorem chk2_cases (vs : List Int) (f : Fm) : chk2 vs f = 0 ∨ chk2 vs f = 6 := by
  unfold chk2 chkE
  split
  · split
    · exact .inl rfl
    · exact .inr rfl
  · exact .inr rfl
theorem goodL_take {vs : List Int} {q : Nat} (h : q < vs.length) (hp : goodL (vs.take q) = true) : goodL (vs.take (q + 1)) = decide (0 ≤ gt vs q ∧ gt vs q ≤ 2) := by
  have hp' : (vs.take q).all (fun t => decide (0 ≤ t ∧ t ≤ 2)) = true := hp
  unfold goodL
  rw [take_snoc h, List.all_append, hp']
  simp
theorem goodL_bad {vs : List Int} {q : Nat} (h : goodL (vs.take q) = false) : goodL vs = false := by
  cases hg : goodL vs with
  | false => rfl
  | true =>
    have h1 := (goodL_iff vs).1 hg
    rw [(goodL_iff _).2 fun t ht => h1 t (List.mem_of_mem_take ht)] at h
    cases h
theorem opV_snoc (op : Int) (l : List Int) (e : Int) : opV op (l ++ [e]) = opV op [opV op l, e] := by
  have hr := opV_rng op l
  by_cases k : op = 2
  · unfold opV at hr ⊢
    rw [if_pos k] at hr
    rw [if_pos k, if_pos k, if_pos k]
    refine eq_of_ge (fun c hc => ?_) (and_rng _).2 (and_rng _).2
    rw [and_ge_iff _ c hc, and_ge_iff _ c hc]
    have := and_ge_iff l c hc
    simp only [List.mem_append, List.mem_cons, List.not_mem_nil, or_false]
    constructor
    · rintro h t (rfl | rfl)
      · rw [seen_id hr]
        exact this.2 fun t ht => h t (.inl ht)
      · exact h _ (.inr rfl)
    · rintro h t (ht | rfl)
      · have h2 := h _ (.inl rfl)
        rw [seen_id hr] at h2
        exact this.1 h2 t ht
      · exact h _ (.inr rfl)
  · unfold opV at hr ⊢
    rw [if_neg k] at hr
    rw [if_neg k, if_neg k, if_neg k]
    refine eq_of_le (fun c hc => ?_) (or_rng _).1 (or_rng _).1
    rw [or_le_iff _ c hc, or_le_iff _ c hc]
    have := or_le_iff l c hc
    simp only [List.mem_append, List.mem_cons, List.not_mem_nil, or_false]
    constructor
    · rintro h t (rfl | rfl)
      · rw [seen_id hr]
        exact this.2 fun t ht => h t (.inl ht)
      · exact h _ (.inr rfl)
    · rintro h t (ht | rfl)
      · have h2 := h _ (.inl rfl)
        rw [seen_id hr] at h2
        exact this.1 h2 t ht
      · exact h _ (.inr rfl)
theorem szF_mem {gs : List Fm} {f : Fm} (h : f ∈ gs) : szF f ≤ szL gs := by
  induction gs with
  | nil => cases h
  | cons g r ih =>
    simp only [szL]
    rcases List.mem_cons.1 h with e | h
    · rw [e]; omega
    · have := ih h
      omega
end Gim
namespace Go.Proofs.Ytmdanfeilgeoaaa
open Go.RowKit Gim Go.Sort Go.Lib
/-- kleene.simple of any formula -/
theorem simp_at (vs : List Int) (va : Option Addr) (vn vc : Nat) (hgood : goodB vs) : ∀ (k : Nat) (f : Fm), SizeOf.sizeOf f ≤ k → isB f = true → szF f ≤ 549755813888 → SimpAt vs va vn vc f := by
  intro k
  induction k with
  | zero =>
    intro f hk
    obtain ⟨o, v, x, gs⟩ := f
    exact absurd hk (by simp)
  | succ k ih =>
    intro f hk hb hsz op v x gs a n cap W hf hF hV
    subst hf
    obtain ⟨hl, kk⟩ := isB_cases hb
    have hs : szL gs ≤ 549755813888 := by simp only [szF] at hsz; omega
    have ihm : ∀ f ∈ gs, SimpAt vs va vn vc f := fun f hf => ih f (by have := List.sizeOf_lt_of_mem hf; simp at hk; omega) ((isL_iff gs).1 hl f hf) (Nat.le_trans (szF_mem hf) hs)
    rcases kk with kk | kk | kk | kk
    · obtain ⟨rfl, _⟩ := kk
      exact simple_const vs va vn vc v x gs a n cap W
    · obtain ⟨rfl, _, hx, _⟩ := kk
      exact simple_vari vs va vn vc v x gs a n cap W hx hV
    · have e : simpF vs (.mk op v x gs) = joinF op (simpL vs gs) := by
        conv => lhs; unfold simpF
        rw [if_neg (by omega), if_neg (by omega), if_neg (by omega)]
      rw [e]
      rcases kk.1 with rfl | rfl
      · exact simple_and vs va vn vc v x gs a n cap W hF hV hgood hl hs ihm
      · exact simple_or vs va vn vc v x gs a n cap W hF hV hgood hl hs ihm
    · obtain ⟨rfl, _, _, f, rfl⟩ := kk
      exact simple_not vs va vn vc v x f a n cap W hF hV (simp_nf hgood f ((isL_iff _).1 hl f (by simp))) (ihm f (by simp))
set_option maxHeartbeats 2000000 in
theorem chk2_calls (op v x : Int) (gs : List Fm) (a : Option Addr) (n cap : Nat) (vs : List Int) (va : Option Addr) (vn vc : Nat) (w : World) (hF : FitS w gs a n cap) (hV : Rd w .i64 va vn vc vs) :
    Calls Try.prog 29 #[.agg #[.int .i64 op, .int .i64 v, .int .i64 x, .slice a n cap], .slice va vn vc] w fun e w' => e = .returned (.int .i64 (chk2 vs (.mk op v x gs))) ∧ Grows w w' := by
  have hg1 : Grows w (w.alloc (.cells #[.int .i64 op, .int .i64 v, .int .i64 x, .slice a n cap] 26)) := (Grows.refl _).alloc _
  have hbx := heap_alloc_new w (.cells #[.int .i64 op, .int .i64 v, .int .i64 x, .slice a n cap] 26)
  have hvn := hV.len
  have hvb : vn ≤ 9223372036854775807 := by have := hV.le; have := hV.cap_le; unfold maxLen at this; omega
  have HC := Lib.hid (fun W (hb : Grows w W) => check_calls _ op v x gs a n cap W (Nat.le_refl _) (hF.below hb.below))
  have HVN := Lib.hid hvn
  obtain ⟨W1, hW1⟩ : ∃ W1, w.alloc (.cells #[.int .i64 op, .int .i64 v, .int .i64 x, .slice a n cap] 26) = W1 := ⟨_, rfl⟩
  rw [hW1] at hg1 hbx
  have HV := Lib.hid (hV.below hg1.below)
  have HG1 := Lib.hid hg1
  have HBX := Lib.hid hbx
  obtain ⟨cr, hcr⟩ : ∃ cr, chk2 vs (.mk op v x gs) = cr := ⟨_, rfl⟩
  have HCR := Lib.hid hcr
  obtain ⟨ce, hce⟩ : ∃ ce, chkE (.mk op v x gs) = ce := ⟨_, rfl⟩
  have HCE := Lib.hid hce
  rw [hcr]
  rw [hce] at HC
  clear hF hV hg1 hbx hvn hcr hce
  go_enter Try.func29, Try.ntmps29
  go_upto_region 1 with fail
  try rw [hW1]
  clear hW1
  obtain ⟨B, hB⟩ : ∃ B, w.heap.size = B := ⟨_, rfl⟩
  rw [hB] at HBX ⊢
  clear hB
  go_wp2_with fail
  go_loopw [9] (fun i wr => ∃ (q : Nat), i = .int .i64 q ∧ q ≤ vn ∧ Hid (wr = W1) ∧ Hid (goodL (vs.take q) = true)) (fun i _ => vn - (RowKit.intOf i).toNat)
  case atStart => exact ⟨0, rfl, Nat.zero_le _, Lib.hid rfl, Lib.hid rfl⟩
  case round =>
    obtain ⟨q, rfl, hq, hwr, HM⟩ := hrel
    have hwr := hwr.out
    subst hwr
    by_cases hqn : q < vn
    · have hqn' : (q : Int) < vn := by omega
      obtain ⟨b, o, hva, hb, hcl⟩ := HV.out.cell q hqn
      subst hva
      have c0 := hcl q hqn
      obtain ⟨t, ht⟩ : ∃ t, gt vs q = t := ⟨_, rfl⟩
      have hnx := goodL_take (vs := vs) (q := q) (by have := HVN.out; omega) HM.out
      rw [ht] at c0 hnx
      have hG := good_calls t wr
      obtain ⟨bt, hbt⟩ : ∃ bt, decide (0 ≤ t ∧ t ≤ 2) = bt := ⟨_, rfl⟩
      rw [hbt] at hG hnx
      have HNX := Lib.hid hnx
      clear hcl ht hbt hnx hb
      go_wp2_with fail
      refine hG.mono ?_
      rintro e wz ⟨rfl, rfl⟩
      clear hG
      cases bt
      · go_wp2_with fail
        go_ret
        refine ⟨?_, HG1.out⟩
        have h6 := HCR.out
        unfold chk2 at h6
        rw [goodL_bad HNX.out] at h6
        simp only [Bool.false_eq_true, if_false] at h6
        rw [← h6]
        rfl
      · go_wp2_with fail
        go_roundw
        case rel => exact ⟨q + 1, by go_num, by omega, Lib.hid (by trivial), Lib.hid HNX.out⟩
        case measure => simp [RowKit.intOf]; omega
    · obtain rfl : q = vn := by omega
      obtain ⟨⟨c0, c1, c2, c3⟩, _⟩ := cells4_of HBX.out
      have hC := HC.out wr HG1.out
      have HGD := Lib.hid (show goodL vs = true by have := HM.out; rw [List.take_of_length_le (by have := HVN.out; omega)] at this; exact this)
      clear HM
      go_wp2_with fail
      refine hC.mono ?_
      rintro e w2 ⟨rfl, g2⟩
      have HG2 := Lib.hid (HG1.out.trans g2)
      clear g2 hC
      go_wp2_with fail
      go_ret
      refine ⟨?_, HG2.out⟩
      have h6 := HCR.out
      unfold chk2 at h6
      rw [if_pos HGD.out, HCE.out] at h6
      rw [← h6]
      rfl
def EvalAt (vs : List Int) (va : Option Addr) (vn vc : Nat) (f : Fm) : Prop := ∀ op v x gs a n cap W, f = .mk op v x gs → FitS W gs a n cap → Rd W .i64 va vn vc vs →
  Calls Try.prog 30 #[.agg #[.int .i64 op, .int .i64 v, .int .i64 x, .slice a n cap], .slice va vn vc] W fun e w' => e = .returned (.int .i64 (evalF vs f)) ∧ Grows W w'
theorem eval_const (vs : List Int) (va : Option Addr) (vn vc : Nat) (v x : Int) (gs : List Fm) (a : Option Addr) (n cap : Nat) (w : World) :
    Calls Try.prog 30 #[.agg #[.int .i64 0, .int .i64 v, .int .i64 x, .slice a n cap], .slice va vn vc] w fun e w' => e = .returned (.int .i64 (evalF vs (.mk 0 v x gs))) ∧ Grows w w' := by
  rw [show evalF vs (.mk 0 v x gs) = v by unfold evalF; rw [if_pos rfl]]
  have hg1 : Grows w (w.alloc (.cells #[.int .i64 0, .int .i64 v, .int .i64 x, .slice a n cap] 26)) := (Grows.refl _).alloc _
  have hbx := heap_alloc_new w (.cells #[.int .i64 0, .int .i64 v, .int .i64 x, .slice a n cap] 26)
  obtain ⟨W1, hW1⟩ : ∃ W1, w.alloc (.cells #[.int .i64 0, .int .i64 v, .int .i64 x, .slice a n cap] 26) = W1 := ⟨_, rfl⟩
  rw [hW1] at hg1 hbx
  have HG1 := Lib.hid hg1
  obtain ⟨B, hB⟩ : ∃ B, w.heap.size = B := ⟨_, rfl⟩
  rw [hB] at hbx
  obtain ⟨⟨c0, c1, c2, c3⟩, _⟩ := cells4_of hbx
  have HBX := Lib.hid hbx
  clear hg1 hbx
  go_enter Try.func30, Try.ntmps30
  go_upto_region 1 with fail
  try rw [hW1]
  clear hW1
  try rw [hB]
  clear hB
  go_wp2_with fail
  go_ret
  exact ⟨rfl, HG1.out⟩
theorem eval_vari (vs : List Int) (va : Option Addr) (vn vc : Nat) (v x : Int) (gs : List Fm) (a : Option Addr) (n cap : Nat) (w : World) (hx : 0 ≤ x) (hV : Rd w .i64 va vn vc vs) :
    Calls Try.prog 30 #[.agg #[.int .i64 1, .int .i64 v, .int .i64 x, .slice a n cap], .slice va vn vc] w fun e w' => e = .returned (.int .i64 (evalF vs (.mk 1 v x gs))) ∧ Grows w w' := by
  rw [eval_var]
  obtain ⟨X, rfl⟩ := Int.eq_ofNat_of_zero_le hx
  have hvn := hV.len
  have hvb : vn ≤ 9223372036854775807 := by have := hV.le; have := hV.cap_le; unfold maxLen at this; omega
  obtain ⟨t, ht⟩ : ∃ t, valB vs (X : Int) = t := ⟨_, rfl⟩
  rw [ht]
  have HT := Lib.hid ht
  have hVb := fun W (hb : Grows w W) => hV.below hb.below
  have hg1 : Grows w (w.alloc (.cells #[.int .i64 1, .int .i64 v, .int .i64 (X : Int), .slice a n cap] 26)) := (Grows.refl _).alloc _
  have hbx := heap_alloc_new w (.cells #[.int .i64 1, .int .i64 v, .int .i64 (X : Int), .slice a n cap] 26)
  obtain ⟨W1, hW1⟩ : ∃ W1, w.alloc (.cells #[.int .i64 1, .int .i64 v, .int .i64 (X : Int), .slice a n cap] 26) = W1 := ⟨_, rfl⟩
  rw [hW1] at hg1 hbx
  have HG1 := Lib.hid hg1
  obtain ⟨B, hB⟩ : ∃ B, w.heap.size = B := ⟨_, rfl⟩
  rw [hB] at hbx
  obtain ⟨⟨c0, c1, c2, c3⟩, _⟩ := cells4_of hbx
  have HBX := Lib.hid hbx
  clear hg1 hbx
  go_enter Try.func30, Try.ntmps30
  go_upto_region 1 with fail
  try rw [hW1]
  clear hW1
  try rw [hB]
  clear hB
  by_cases hxn : X < vn
  · have hxn' : (X : Int) < vn := by omega
    obtain ⟨b, o, ha, hb, hcl⟩ := (hVb W1 HG1.out).cell X hxn
    subst ha
    have hc := hcl X hxn
    have hgt : gt vs X = t := by
      have := HT.out
      unfold valB at this
      rw [if_pos (by omega)] at this
      simpa using this
    rw [hgt] at hc
    clear hcl hV hVb ht hgt
    go_wp2_with fail
    go_ret
    exact ⟨rfl, HG1.out⟩
  · have hxn' : ¬ (X : Int) < vn := by omega
    have h1 : t = 1 := by
      rw [← HT.out]
      unfold valB
      rw [if_neg (by omega)]
    subst h1
    clear hV hVb ht
    go_wp2_with fail
    go_ret
    exact ⟨rfl, HG1.out⟩
theorem eval_noti (vs : List Int) (va : Option Addr) (vn vc : Nat) (v x : Int) (gs : List Fm) (a : Option Addr) (n cap : Nat) (w : World) (hg : ∃ f, gs = [f]) (hF : FitS w gs a n cap) (hV : Rd w .i64 va vn vc vs) (ih : ∀ f ∈ gs, EvalAt vs va vn vc f) :
    Calls Try.prog 30 #[.agg #[.int .i64 4, .int .i64 v, .int .i64 x, .slice a n cap], .slice va vn vc] w fun e w' => e = .returned (.int .i64 (evalF vs (.mk 4 v x gs))) ∧ Grows w w' := by
  obtain ⟨f, rfl⟩ := hg
  have he : evalF vs (.mk 4 v x [f]) = 2 - seenB (evalF vs f) := by
    conv => lhs; unfold evalF
    rw [if_neg (by omega), if_neg (by omega), if_pos rfl, evalL_map]
    rfl
  rw [he]
  obtain ⟨t, ht⟩ : ∃ t, evalF vs f = t := ⟨_, rfl⟩
  have HT := Lib.hid ht
  rw [ht]
  have IH := Lib.hid (ih f (by simp))
  have HF := Lib.hid (fun W (hb : Grows w W) => hF.below hb.below)
  have HV := Lib.hid (fun W (hb : Grows w W) => hV.below hb.below)
  have hn1 := hF.len
  have hnb : n ≤ 9223372036854775807 := by have := hF.le; have := hF.cap_le; unfold maxLen at this; omega
  have hn1' : (0 : Int) < n := by rw [← hn1]; simp
  have HN1 := Lib.hid hn1
  clear he ht ih hF hV hn1
  have hg1 : Grows w (w.alloc (.cells #[.int .i64 4, .int .i64 v, .int .i64 x, .slice a n cap] 26)) := (Grows.refl _).alloc _
  have hbx := heap_alloc_new w (.cells #[.int .i64 4, .int .i64 v, .int .i64 x, .slice a n cap] 26)
  obtain ⟨W1, hW1⟩ : ∃ W1, w.alloc (.cells #[.int .i64 4, .int .i64 v, .int .i64 x, .slice a n cap] 26) = W1 := ⟨_, rfl⟩
  rw [hW1] at hg1 hbx
  have HG1 := Lib.hid hg1
  obtain ⟨B, hB⟩ : ∃ B, w.heap.size = B := ⟨_, rfl⟩
  rw [hB] at hbx
  obtain ⟨⟨c0, c1, c2, c3⟩, _⟩ := cells4_of hbx
  have HBX := Lib.hid hbx
  clear hg1 hbx
  go_enter Try.func30, Try.ntmps30
  go_upto_region 1 with fail
  try rw [hW1]
  clear hW1
  try rw [hB]
  clear hB
  obtain ⟨b, o, op1, v1, x1, bs, a1, n1, cap1, ha, hb, hel, d0, d1, d2, d3, hF2⟩ := (HF.out W1 HG1.out).elem 0 (by rw [← HN1.out]; simp)
  subst ha
  simp only [Nat.zero_mul, Nat.add_zero] at d0 d1 d2 d3
  have hC := IH.out op1 v1 x1 bs a1 n1 cap1 W1 (by simpa using hel) hF2 (HV.out W1 HG1.out)
  rw [HT.out] at hC
  have hN := fun W => not_calls t W
  clear hel hF2 hb
  go_wp2_with fail
  refine hC.mono ?_
  rintro e w2 ⟨rfl, g2⟩
  have HG2 := Lib.hid (HG1.out.trans g2)
  clear g2 hC
  go_wp2_with fail
  refine (hN _).mono ?_
  rintro e wz ⟨rfl, rfl⟩
  go_wp2_with fail
  go_ret
  exact ⟨rfl, HG2.out⟩
set_option maxRecDepth 100000 in
set_option maxHeartbeats 4000000 in
theorem eval_and (vs : List Int) (va : Option Addr) (vn vc : Nat) (v x : Int) (gs : List Fm) (a : Option Addr) (n cap : Nat) (w : World) (hF : FitS w gs a n cap) (hV : Rd w .i64 va vn vc vs) (ih : ∀ f ∈ gs, EvalAt vs va vn vc f) :
    Calls Try.prog 30 #[.agg #[.int .i64 2, .int .i64 v, .int .i64 x, .slice a n cap], .slice va vn vc] w fun e w' => e = .returned (.int .i64 (evalF vs (.mk 2 v x gs))) ∧ Grows w w' := by
  rw [eval_mk (op := 2) (by omega)]
  have HLN := Lib.hid hF.len
  have hnb : n ≤ 9223372036854775807 := by have := hF.le; have := hF.cap_le; unfold maxLen at this; omega
  have IH := Lib.hid ih
  have HF := Lib.hid (fun W (hb : Grows w W) => hF.below hb.below)
  have HV := Lib.hid (fun W (hb : Grows w W) => hV.below hb.below)
  obtain ⟨R, hR⟩ : ∃ R, opV 2 (gs.map (evalF vs)) = R := ⟨_, rfl⟩
  have HR := Lib.hid hR
  rw [hR]
  clear hF hV ih hR
  have hg1 : Grows w (w.alloc (.cells #[.int .i64 2, .int .i64 v, .int .i64 x, .slice a n cap] 26)) := (Grows.refl _).alloc _
  have hbx := heap_alloc_new w (.cells #[.int .i64 2, .int .i64 v, .int .i64 x, .slice a n cap] 26)
  obtain ⟨W1, hW1⟩ : ∃ W1, w.alloc (.cells #[.int .i64 2, .int .i64 v, .int .i64 x, .slice a n cap] 26) = W1 := ⟨_, rfl⟩
  rw [hW1] at hg1 hbx
  have HG1 := Lib.hid hg1
  obtain ⟨B, hB⟩ : ∃ B, w.heap.size = B := ⟨_, rfl⟩
  rw [hB] at hbx
  obtain ⟨⟨c0, c1, c2, c3⟩, _⟩ := cells4_of hbx
  have HBX := Lib.hid hbx
  clear hg1 hbx
  go_enter Try.func30, Try.ntmps30
  go_upto_region 1 with fail
  try rw [hW1]
  clear hW1
  try rw [hB]
  clear hB
  go_wp2_with fail
  go_loopw [5, 41] (fun tt i wr => ∃ (q : Nat) (t : Int), i = .int .i64 q ∧ q ≤ n ∧ tt = .int .i64 t ∧ Grows W1 wr ∧ Hid (opV 2 ((gs.take q).map (evalF vs)) = t)) (fun _ i _ => n - (RowKit.intOf i).toNat)
  case atStart => exact ⟨0, 2, rfl, Nat.zero_le _, rfl, Grows.refl _, Lib.hid (opV_nil 2)⟩
  case round =>
    obtain ⟨q, t, rfl, hq, rfl, hgr, HM⟩ := hrel
    have hgw := HG1.out.trans hgr
    by_cases hqn : q < n
    · have hqn' : (q : Int) < n := by omega
      obtain ⟨b, o, op1, v1, x1, bs, a1, n1, cap1, ha, hb, hel, d0, d1, d2, d3, hF2⟩ := (HF.out wr hgw).elem q hqn
      subst ha
      have hmem := List.mem_of_getElem? hel
      have hg2 : Grows wr (wr.alloc (.cells #[.int .i64 op1, .int .i64 v1, .int .i64 x1, .slice a1 n1 cap1] 26)) := (Grows.refl _).alloc _
      have hC := IH.out _ hmem op1 v1 x1 bs a1 n1 cap1 _ rfl (hF2.below hg2.below) (HV.out _ (hgw.trans hg2))
      have hnx : opV 2 ((gs.take (q + 1)).map (evalF vs)) = andF [t, evalF vs (.mk op1 v1 x1 bs)] := by
        rw [take_next hel, List.map_append, List.map_cons, List.map_nil, opV_snoc, HM.out]
        rfl
      obtain ⟨t2, ht2⟩ : ∃ t2, evalF vs (.mk op1 v1 x1 bs) = t2 := ⟨_, rfl⟩
      rw [ht2] at hC hnx
      have HNX := Lib.hid hnx
      have HG2 := Lib.hid (hgw.trans hg2)
      have HGR := Lib.hid (hgr.trans hg2)
      have hb0 := (hgr.below.block B (Array.getElem?_eq_some_iff.1 HBX.out).1).trans HBX.out
      obtain ⟨⟨k0, _, _, _⟩, _⟩ := cells4_of ((hg2.below.block B (Array.getElem?_eq_some_iff.1 hb0).1).trans hb0)
      clear hmem hel hF2 hnx ht2 hg2 hgw hgr hb HM hb0
      go_wp2_with fail
      refine hC.mono ?_
      rintro e w3 ⟨rfl, g3⟩
      have HG3 := Lib.hid (HGR.out.trans g3)
      have hA := and_calls (some ⟨w3.heap.size, 0, none⟩) 2 2 [t, t2] (w3.alloc (.cells #[.int .i64 t, .int .i64 t2] 23)) (rd_two w3 t t2)
      clear g3 hC d0 d1 d2 d3 k0
      go_wp2_with fail
      refine hA.mono ?_
      rintro e wz ⟨rfl, rfl⟩
      have HG4 := Lib.hid (HG3.out.alloc (.cells #[.int .i64 t, .int .i64 t2] 23))
      clear hA
      go_wp2_with fail
      go_roundw
      case rel => exact ⟨q + 1, andF [t, t2], by go_num, by omega, rfl, HG4.out, Lib.hid HNX.out⟩
      case measure => simp [RowKit.intOf]; omega
    · obtain rfl : q = n := by omega
      have HGW := Lib.hid hgw
      have HE := Lib.hid (show t = R by rw [← HM.out, ← HR.out, List.take_of_length_le (by rw [HLN.out]; exact Nat.le_refl _)])
      clear hgw hgr HM
      go_wp2_with fail
      go_ret
      exact ⟨by rw [HE.out]; rfl, HGW.out⟩
set_option maxRecDepth 100000 in
set_option maxHeartbeats 4000000 in
theorem eval_or (vs : List Int) (va : Option Addr) (vn vc : Nat) (v x : Int) (gs : List Fm) (a : Option Addr) (n cap : Nat) (w : World) (hF : FitS w gs a n cap) (hV : Rd w .i64 va vn vc vs) (ih : ∀ f ∈ gs, EvalAt vs va vn vc f) :
    Calls Try.prog 30 #[.agg #[.int .i64 3, .int .i64 v, .int .i64 x, .slice a n cap], .slice va vn vc] w fun e w' => e = .returned (.int .i64 (evalF vs (.mk 3 v x gs))) ∧ Grows w w' := by
  rw [eval_mk (op := 3) (by omega)]
  have HLN := Lib.hid hF.len
  have hnb : n ≤ 9223372036854775807 := by have := hF.le; have := hF.cap_le; unfold maxLen at this; omega
  have IH := Lib.hid ih
  have HF := Lib.hid (fun W (hb : Grows w W) => hF.below hb.below)
  have HV := Lib.hid (fun W (hb : Grows w W) => hV.below hb.below)
  obtain ⟨R, hR⟩ : ∃ R, opV 3 (gs.map (evalF vs)) = R := ⟨_, rfl⟩
  have HR := Lib.hid hR
  rw [hR]
  clear hF hV ih hR
  have hg1 : Grows w (w.alloc (.cells #[.int .i64 3, .int .i64 v, .int .i64 x, .slice a n cap] 26)) := (Grows.refl _).alloc _
  have hbx := heap_alloc_new w (.cells #[.int .i64 3, .int .i64 v, .int .i64 x, .slice a n cap] 26)
  obtain ⟨W1, hW1⟩ : ∃ W1, w.alloc (.cells #[.int .i64 3, .int .i64 v, .int .i64 x, .slice a n cap] 26) = W1 := ⟨_, rfl⟩
  rw [hW1] at hg1 hbx
  have HG1 := Lib.hid hg1
  obtain ⟨B, hB⟩ : ∃ B, w.heap.size = B := ⟨_, rfl⟩
  rw [hB] at hbx
  obtain ⟨⟨c0, c1, c2, c3⟩, _⟩ := cells4_of hbx
  have HBX := Lib.hid hbx
  clear hg1 hbx
  go_enter Try.func30, Try.ntmps30
  go_upto_region 1 with fail
  try rw [hW1]
  clear hW1
  try rw [hB]
  clear hB
  go_wp2_with fail
  go_loopw [5, 41] (fun tt i wr => ∃ (q : Nat) (t : Int), i = .int .i64 q ∧ q ≤ n ∧ tt = .int .i64 t ∧ Grows W1 wr ∧ Hid (opV 3 ((gs.take q).map (evalF vs)) = t)) (fun _ i _ => n - (RowKit.intOf i).toNat)
  case atStart => exact ⟨0, 0, rfl, Nat.zero_le _, rfl, Grows.refl _, Lib.hid (opV_nil 3)⟩
  case round =>
    obtain ⟨q, t, rfl, hq, rfl, hgr, HM⟩ := hrel
    have hgw := HG1.out.trans hgr
    by_cases hqn : q < n
    · have hqn' : (q : Int) < n := by omega
      obtain ⟨b, o, op1, v1, x1, bs, a1, n1, cap1, ha, hb, hel, d0, d1, d2, d3, hF2⟩ := (HF.out wr hgw).elem q hqn
      subst ha
      have hmem := List.mem_of_getElem? hel
      have hg2 : Grows wr (wr.alloc (.cells #[.int .i64 op1, .int .i64 v1, .int .i64 x1, .slice a1 n1 cap1] 26)) := (Grows.refl _).alloc _
      have hC := IH.out _ hmem op1 v1 x1 bs a1 n1 cap1 _ rfl (hF2.below hg2.below) (HV.out _ (hgw.trans hg2))
      have hnx : opV 3 ((gs.take (q + 1)).map (evalF vs)) = orF [t, evalF vs (.mk op1 v1 x1 bs)] := by
        rw [take_next hel, List.map_append, List.map_cons, List.map_nil, opV_snoc, HM.out]
        rfl
      obtain ⟨t2, ht2⟩ : ∃ t2, evalF vs (.mk op1 v1 x1 bs) = t2 := ⟨_, rfl⟩
      rw [ht2] at hC hnx
      have HNX := Lib.hid hnx
      have HG2 := Lib.hid (hgw.trans hg2)
      have HGR := Lib.hid (hgr.trans hg2)
      have hb0 := (hgr.below.block B (Array.getElem?_eq_some_iff.1 HBX.out).1).trans HBX.out
      obtain ⟨⟨k0, _, _, _⟩, _⟩ := cells4_of ((hg2.below.block B (Array.getElem?_eq_some_iff.1 hb0).1).trans hb0)
      clear hmem hel hF2 hnx ht2 hg2 hgw hgr hb HM hb0
      go_wp2_with fail
      refine hC.mono ?_
      rintro e w3 ⟨rfl, g3⟩
      have HG3 := Lib.hid (HGR.out.trans g3)
      have hA := or_calls (some ⟨w3.heap.size, 0, none⟩) 2 2 [t, t2] (w3.alloc (.cells #[.int .i64 t, .int .i64 t2] 23)) (rd_two w3 t t2)
      clear g3 hC d0 d1 d2 d3 k0
      go_wp2_with fail
      refine hA.mono ?_
      rintro e wz ⟨rfl, rfl⟩
      have HG4 := Lib.hid (HG3.out.alloc (.cells #[.int .i64 t, .int .i64 t2] 23))
      clear hA
      go_wp2_with fail
      go_roundw
      case rel => exact ⟨q + 1, orF [t, t2], by go_num, by omega, rfl, HG4.out, Lib.hid HNX.out⟩
      case measure => simp [RowKit.intOf]; omega
    · obtain rfl : q = n := by omega
      have HGW := Lib.hid hgw
      have HE := Lib.hid (show t = R by rw [← HM.out, ← HR.out, List.take_of_length_le (by rw [HLN.out]; exact Nat.le_refl _)])
      clear hgw hgr HM
      go_wp2_with fail
      go_ret
      exact ⟨by rw [HE.out]; rfl, HGW.out⟩
theorem eval_at (vs : List Int) (va : Option Addr) (vn vc : Nat) : ∀ (k : Nat) (f : Fm), SizeOf.sizeOf f ≤ k → isB f = true → EvalAt vs va vn vc f := by
  intro k
  induction k with
  | zero =>
    intro f hk
    obtain ⟨o, v, x, gs⟩ := f
    exact absurd hk (by simp)
  | succ k ih =>
    intro f hk hb op v x gs a n cap W hf hF hV
    subst hf
    obtain ⟨hl, kk⟩ := isB_cases hb
    have ihm : ∀ f ∈ gs, EvalAt vs va vn vc f := fun f hf => ih f (by have := List.sizeOf_lt_of_mem hf; simp at hk; omega) ((isL_iff gs).1 hl f hf)
    rcases kk with kk | kk | kk | kk
    · obtain ⟨rfl, _⟩ := kk
      exact eval_const vs va vn vc v x gs a n cap W
    · obtain ⟨rfl, _, hx, _⟩ := kk
      exact eval_vari vs va vn vc v x gs a n cap W hx hV
    · rcases kk.1 with rfl | rfl
      · exact eval_and vs va vn vc v x gs a n cap W hF hV ihm
      · exact eval_or vs va vn vc v x gs a n cap W hF hV ihm
    · obtain ⟨rfl, _, _, hf⟩ := kk
      exact eval_noti vs va vn vc v x gs a n cap W hf hF hV ihm
set_option maxHeartbeats 2000000 in
/-- kleene.Eval of any formula -/
theorem Eval_calls (op v x : Int) (gs : List Fm) (a : Option Addr) (n cap : Nat) (vs : List Int) (va : Option Addr) (vn vc : Nat) (w : World) (hF : FitS w gs a n cap) (hV : Rd w .i64 va vn vc vs) :
    Calls Try.prog 12 #[.agg #[.int .i64 op, .int .i64 v, .int .i64 x, .slice a n cap], .slice va vn vc] w fun e w' => e = .returned (.tuple #[.int .i64 (if chk2 vs (.mk op v x gs) = 0 then evalF vs (.mk op v x gs) else 0), .int .i64 (chk2 vs (.mk op v x gs))]) ∧ Grows w w' := by
  have hg1 : Grows w (w.alloc (.cells #[.int .i64 op, .int .i64 v, .int .i64 x, .slice a n cap] 26)) := (Grows.refl _).alloc _
  have hbx := heap_alloc_new w (.cells #[.int .i64 op, .int .i64 v, .int .i64 x, .slice a n cap] 26)
  have hC := chk2_calls op v x gs a n cap vs va vn vc _ (hF.below hg1.below) (hV.below hg1.below)
  have hE := fun (h : isB (.mk op v x gs) = true) W (hb : Grows w W) => eval_at vs va vn vc _ _ (Nat.le_refl _) h op v x gs a n cap W rfl (hF.below hb.below) (hV.below hb.below)
  obtain ⟨W1, hW1⟩ : ∃ W1, w.alloc (.cells #[.int .i64 op, .int .i64 v, .int .i64 x, .slice a n cap] 26) = W1 := ⟨_, rfl⟩
  rw [hW1] at hg1 hbx hC
  obtain ⟨B, hB⟩ : ∃ B, w.heap.size = B := ⟨_, rfl⟩
  rw [hB] at hbx
  obtain ⟨⟨c0, c1, c2, c3⟩, _⟩ := cells4_of hbx
  have HBX := Lib.hid hbx
  have HG1 := Lib.hid hg1
  clear hF hV hg1 hbx
  rcases chk2_cases vs (.mk op v x gs) with h0 | h0
  · have hE2 := hE (chk2_zero h0).2
    obtain ⟨t, ht⟩ : ∃ t, evalF vs (.mk op v x gs) = t := ⟨_, rfl⟩
    rw [ht] at hE2
    rw [h0, ht]
    rw [h0] at hC
    have HE2 := Lib.hid hE2
    clear h0 ht hE hE2
    go_enter Try.func12, Try.ntmps12
    go_upto_region 1 with fail
    try rw [hW1]
    clear hW1
    try rw [hB]
    clear hB
    go_wp2_with fail
    refine hC.mono ?_
    rintro e w2 ⟨rfl, g2⟩
    obtain ⟨⟨d0, d1, d2, d3⟩, _⟩ := cells4_of ((g2.below.block B (Array.getElem?_eq_some_iff.1 HBX.out).1).trans HBX.out)
    have HG2 := Lib.hid (HG1.out.trans g2)
    have hE3 := HE2.out w2 HG2.out
    clear hC g2 c0 c1 c2 c3
    go_wp2_with fail
    refine hE3.mono ?_
    rintro e w3 ⟨rfl, g3⟩
    have HG3 := Lib.hid (HG2.out.trans g3)
    clear g3 hE3
    go_wp2_with fail
    refine bodyPost_ret (v := .tuple #[.int .i64 t, .int .i64 0]) ?_ rfl ?_
    · simp [results, Try.f12, go_sem]
    · exact ⟨rfl, HG3.out⟩
  · rw [h0] at hC ⊢
    clear h0 hE
    go_enter Try.func12, Try.ntmps12
    go_upto_region 1 with fail
    try rw [hW1]
    clear hW1
    try rw [hB]
    clear hB
    go_wp2_with fail
    refine hC.mono ?_
    rintro e w2 ⟨rfl, g2⟩
    have HG2 := Lib.hid (HG1.out.trans g2)
    clear hC g2 c0 c1 c2 c3
    go_wp2_with fail
    refine bodyPost_ret (v := .tuple #[.int .i64 0, .int .i64 6]) ?_ rfl ?_
    · simp [results, Try.f12, go_sem]
    · exact ⟨rfl, HG2.out⟩
/-- what Simplify answers -/
def SimplW (W : World) (vs : List Int) (f : Fm) (e : Ending) (w' : World) : Prop :=
  ∃ op v x gs a n cap, e = .returned (.tuple #[.agg #[.int .i64 op, .int .i64 v, .int .i64 x, .slice a n cap], .int .i64 (chk2 vs f)]) ∧ (if chk2 vs f = 0 then simpF vs f else cst 0) = .mk op v x gs ∧ FitR W.heap.size w'.heap.size w' gs a n cap ∧ Below W.heap.size W w'
set_option maxHeartbeats 2000000 in
/-- kleene.Simplify of any formula -/
theorem Simplify_calls (op v x : Int) (gs : List Fm) (a : Option Addr) (n cap : Nat) (vs : List Int) (va : Option Addr) (vn vc : Nat) (w : World) (hF : FitS w gs a n cap) (hV : Rd w .i64 va vn vc vs) (hsz : szF (.mk op v x gs) ≤ 549755813888) :
    Calls Try.prog 13 #[.agg #[.int .i64 op, .int .i64 v, .int .i64 x, .slice a n cap], .slice va vn vc] w (SimplW w vs (.mk op v x gs)) := by
  obtain ⟨S0, hS0⟩ : ∃ S0, w.heap.size = S0 := ⟨_, rfl⟩
  have hb0 : Below w.heap.size w ((w.alloc (.cells #[.int .i64 op, .int .i64 v, .int .i64 x, .slice a n cap] 26)).alloc (.cells #[.int .i64 0, .int .i64 0, .int .i64 0, .slice none 0 0] 26)) := ((Below.refl _ _).alloc (Nat.le_refl _) _).alloc (by simp) _
  have hs0 : ((w.alloc (.cells #[.int .i64 op, .int .i64 v, .int .i64 x, .slice a n cap] 26)).alloc (.cells #[.int .i64 0, .int .i64 0, .int .i64 0, .slice none 0 0] 26)).heap.size = S0 + 2 := by simp [hS0]
  have hx0 : ((w.alloc (.cells #[.int .i64 op, .int .i64 v, .int .i64 x, .slice a n cap] 26)).alloc (.cells #[.int .i64 0, .int .i64 0, .int .i64 0, .slice none 0 0] 26)).heap[S0]? = some (.cells #[.int .i64 op, .int .i64 v, .int .i64 x, .slice a n cap] 26) := by rw [← hS0]; exact (heap_alloc_old _ _ (by simp)).trans (heap_alloc_new _ _)
  have hr0 : ((w.alloc (.cells #[.int .i64 op, .int .i64 v, .int .i64 x, .slice a n cap] 26)).alloc (.cells #[.int .i64 0, .int .i64 0, .int .i64 0, .slice none 0 0] 26)).heap[S0 + 1]? = some (.cells #[.int .i64 0, .int .i64 0, .int .i64 0, .slice none 0 0] 26) := by
    have := heap_alloc_new (w.alloc (.cells #[.int .i64 op, .int .i64 v, .int .i64 x, .slice a n cap] 26)) (.cells #[.int .i64 0, .int .i64 0, .int .i64 0, .slice none 0 0] 26)
    rw [World.size_alloc, hS0] at this
    exact this
  have hC := chk2_calls op v x gs a n cap vs va vn vc _ (hF.below hb0) (hV.below hb0)
  have hE := fun (h : goodB vs ∧ isB (.mk op v x gs) = true) W (hb : Below w.heap.size w W) => simp_at vs va vn vc h.1 _ _ (Nat.le_refl _) h.2 hsz op v x gs a n cap W rfl (hF.below hb) (hV.below hb)
  obtain ⟨W1, hW1⟩ : ∃ W1, ((w.alloc (.cells #[.int .i64 op, .int .i64 v, .int .i64 x, .slice a n cap] 26)).alloc (.cells #[.int .i64 0, .int .i64 0, .int .i64 0, .slice none 0 0] 26)) = W1 := ⟨_, rfl⟩
  rw [hW1] at hb0 hs0 hx0 hr0 hC
  obtain ⟨⟨c0, c1, c2, c3⟩, _⟩ := cells4_of hx0
  have HX0 := Lib.hid hx0
  have HR0 := Lib.hid hr0
  have HB0 := Lib.hid hb0
  have HS0 := Lib.hid hs0
  have HS00 := Lib.hid hS0
  clear hF hV hb0 hs0 hx0 hr0
  obtain ⟨F, hFF⟩ : ∃ F, Hid (F = Fm.mk op v x gs) := ⟨_, Lib.hid rfl⟩
  rw [← hFF.out] at hC hE ⊢
  rcases chk2_cases vs F with h0 | h0
  · have hE2 := hE (chk2_zero h0)
    have HE2 := Lib.hid hE2
    rw [h0] at hC
    have H0 := Lib.hid h0
    clear h0 hE hE2
    go_enter Try.func13, Try.ntmps13
    go_upto_region 1 with fail
    try rw [hW1]
    clear hW1
    try rw [hS0]
    clear hS0
    go_wp2_with fail
    refine hC.mono ?_
    rintro e w2 ⟨rfl, g2⟩
    obtain ⟨⟨d0, d1, d2, d3⟩, _⟩ := cells4_of ((g2.below.block S0 (Array.getElem?_eq_some_iff.1 HX0.out).1).trans HX0.out)
    have hb2 := HB0.out.trans (g2.below.mono HB0.out.size)
    have HR2 := Lib.hid ((g2.below.block (S0 + 1) (Array.getElem?_eq_some_iff.1 HR0.out).1).trans HR0.out)
    have hE3 := HE2.out w2 hb2
    have HB2 := Lib.hid hb2
    clear hC g2 c0 c1 c2 c3 hb2
    go_wp2_with fail
    refine hE3.mono ?_
    rintro e w3 ⟨op', v', x', gs', a', n', cap', rfl, hre, hFR, b3⟩
    have HR3 := Lib.hid ((b3.block (S0 + 1) (Array.getElem?_eq_some_iff.1 HR2.out).1).trans HR2.out)
    have HB3 := Lib.hid (HB2.out.trans (b3.mono HB2.out.size))
    have HRE := Lib.hid hre
    have HFR := Lib.hid hFR
    have HSS : Hid (S0 + 1 < w2.heap.size) := Lib.hid (Array.getElem?_eq_some_iff.1 HR2.out).1
    clear hE3 b3 d0 d1 d2 d3 hre hFR
    obtain ⟨⟨r0, r1, r2, r3⟩, z0, z1, z2, z3⟩ := cells4_of HR3.out
    go_wp2_with fail
    obtain ⟨h8, g8⟩ := out4 HR3.out (.int .i64 op') (.int .i64 v') (.int .i64 x') (.slice a' n' cap')
    obtain ⟨W8, hW8⟩ : ∃ W8, Hid (W8 = (((w3.setCell ⟨S0 + 1, 0, none⟩ (.int .i64 op')).setCell ⟨S0 + 1, 1, none⟩ (.int .i64 v')).setCell ⟨S0 + 1, 2, none⟩ (.int .i64 x')).setCell ⟨S0 + 1, 3, none⟩ (.slice a' n' cap')) := ⟨_, Lib.hid rfl⟩
    rw [← hW8.out] at h8 g8 ⊢
    obtain ⟨⟨j0, j1, j2, j3⟩, _⟩ := cells4_of h8
    refine bodyPost_ret (v := .tuple #[.agg #[.int .i64 op', .int .i64 v', .int .i64 x', .slice a' n' cap'], .int .i64 0]) ?_ rfl ?_
    · simp [results, Try.f13, go_sem, j0, j1, j2, j3]
    · have hs := HSS.out
      have hw := HS00.out
      have hkp : Keeps w2.heap.size w3.heap.size w3 W8 := Keeps.of_grown g8 (Nat.le_refl _) (fun j e => by have := Option.some.inj e; omega)
      refine ⟨op', v', x', gs', a', n', cap', by rw [H0.out], by rw [if_pos H0.out]; exact HRE.out, (HFR.out.keeps hkp).mono HB2.out.size g8.size (Nat.le_refl _), HB3.out.grown g8 HB3.out.size (fun j e => by have := Option.some.inj e; omega)⟩
  · rw [h0] at hC
    have H0 := Lib.hid h0
    clear h0 hE
    go_enter Try.func13, Try.ntmps13
    go_upto_region 1 with fail
    try rw [hW1]
    clear hW1
    try rw [hS0]
    clear hS0
    go_wp2_with fail
    refine hC.mono ?_
    rintro e w2 ⟨rfl, g2⟩
    have HB2 := Lib.hid (HB0.out.trans (g2.below.mono HB0.out.size))
    have HR2 := Lib.hid ((g2.below.block (S0 + 1) (Array.getElem?_eq_some_iff.1 HR0.out).1).trans HR0.out)
    clear hC g2 c0 c1 c2 c3
    obtain ⟨⟨r0, r1, r2, r3⟩, z0, z1, z2, z3⟩ := cells4_of HR2.out
    go_wp2_with fail
    obtain ⟨h8, g8⟩ := out4 HR2.out (.int .i64 0) (.int .i64 0) (.int .i64 0) (.slice none 0 0)
    obtain ⟨W8, hW8⟩ : ∃ W8, Hid (W8 = (((w2.setCell ⟨S0 + 1, 0, none⟩ (.int .i64 0)).setCell ⟨S0 + 1, 1, none⟩ (.int .i64 0)).setCell ⟨S0 + 1, 2, none⟩ (.int .i64 0)).setCell ⟨S0 + 1, 3, none⟩ (.slice none 0 0)) := ⟨_, Lib.hid rfl⟩
    rw [← hW8.out] at h8 g8 ⊢
    obtain ⟨⟨j0, j1, j2, j3⟩, _⟩ := cells4_of h8
    refine bodyPost_ret (v := .tuple #[.agg #[.int .i64 0, .int .i64 0, .int .i64 0, .slice none 0 0], .int .i64 6]) ?_ rfl ?_
    · simp [results, Try.f13, go_sem, j0, j1, j2, j3]
    · have hw := HS00.out
      exact ⟨0, 0, 0, [], none, 0, 0, by rw [H0.out], by rw [if_neg (by rw [H0.out]; decide)]; rfl, fitR_nil _ _ _ (Nat.le_refl _), HB2.out.grown g8 HB2.out.size (fun j e => by have := Option.some.inj e; omega)⟩
end Go.Proofs.Ytmdanfeilgeoaaa
