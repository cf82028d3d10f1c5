/- gimletlaw14.KleeneGrows answers true. Printed by wip/mkgrows.py. -/
import Derived.Test.YtmdanfeilgeoaaaKKeeps
import Derived.Test.YtmdanfeilgeoaaaKVars2
namespace Gim
open Go Go.RowKit Go.Sort Go.Proofs Go.Lib
/-- what is not known is set to True, up to a place -/
def fillQ (l : List Int) (q : Nat) : List Int := (List.range l.length).map fun i => if i < q ∧ gt l i = 1 then 2 else gt l i
theorem fillQ_len (l : List Int) (q : Nat) : (fillQ l q).length = l.length := by simp [fillQ]
theorem fillQ_zero (l : List Int) : fillQ l 0 = l := by
  apply List.ext_getElem
  · simp [fillQ]
  · intro i h1 h2
    simp [fillQ, gt, h2]
theorem fillQ_get (l : List Int) (q i : Nat) (h : i < l.length) : (fillQ l q)[i]? = some (if i < q ∧ gt l i = 1 then 2 else gt l i) := by simp [fillQ, h]
theorem fillQ_gt (l : List Int) (q i : Nat) (h : i < l.length) : gt (fillQ l q) i = if i < q ∧ gt l i = 1 then 2 else gt l i := by
  unfold gt
  rw [fillQ_get l q i h]
  rfl
theorem fillQ_skip {l : List Int} {q : Nat} (h : gt l q ≠ 1) : fillQ l (q + 1) = fillQ l q := by
  apply List.ext_getElem?
  intro i
  by_cases hi : i < l.length
  · rw [fillQ_get _ _ _ hi, fillQ_get _ _ _ hi]
    by_cases hq : i = q
    · subst hq
      simp [h]
    · have : (i < q + 1) ↔ (i < q) := by omega
      simp [this]
  · rw [List.getElem?_eq_none (by rw [fillQ_len]; omega), List.getElem?_eq_none (by rw [fillQ_len]; omega)]
theorem fillQ_set {l : List Int} {q : Nat} (h : gt l q = 1) : fillQ l (q + 1) = (fillQ l q).set q 2 := by
  apply List.ext_getElem?
  intro i
  by_cases hi : i < l.length
  · rw [fillQ_get _ _ _ hi]
    by_cases hq : i = q
    · subst hq
      rw [List.getElem?_set_self (by rw [fillQ_len]; exact hi)]
      simp [h]
    · rw [List.getElem?_set_ne (by omega), fillQ_get _ _ _ hi]
      have : (i < q + 1) ↔ (i < q) := by omega
      simp [this]
  · rw [List.getElem?_eq_none (by rw [fillQ_len]; omega), List.getElem?_eq_none (by rw [List.length_set, fillQ_len]; omega)]
theorem app_gt (l : List Int) (k i : Nat) (h : i < l.length + k) : gt (l ++ List.replicate k 0) i = if i < l.length then gt l i else 0 := by
  unfold gt
  by_cases hi : i < l.length
  · rw [if_pos hi, List.getElem?_append_left hi]
  · rw [if_neg hi, List.getElem?_append_right (by omega), List.getElem?_replicate, if_pos (by omega)]
    rfl
/-- the list that everything is known by -/
def allK (ms : List Int) (k : Nat) : List Int := fillQ (ms ++ List.replicate k 0) (ms.length + k)
theorem allK_len (ms : List Int) (k : Nat) : (allK ms k).length = ms.length + k := by unfold allK; rw [fillQ_len]; simp
theorem allK_gt (ms : List Int) (k i : Nat) (h : i < ms.length + k) : gt (allK ms k) i = if i < ms.length then (if gt ms i = 1 then 2 else gt ms i) else 0 := by
  unfold allK
  rw [fillQ_gt _ _ _ (by simpa using h), app_gt ms k i h]
  by_cases hi : i < ms.length
  · simp [hi]
    omega
  · simp [hi]
theorem allK_good {ms : List Int} (h : goodB ms) (k : Nat) : goodB (allK ms k) := by
  intro t ht
  obtain ⟨i, hi, rfl⟩ := List.mem_iff_getElem.1 ht
  rw [← gt_lt hi, allK_gt ms k i (by rw [allK_len] at hi; exact hi)]
  split
  · rename_i h1
    have := h (gt ms i) (by rw [gt_lt h1]; exact List.getElem_mem _)
    split <;> omega
  · omega
theorem allK_known {ms : List Int} {k : Nat} {x : Int} (h0 : 0 ≤ x) (h : x < ((ms.length + k : Nat) : Int)) : valB (allK ms k) x ≠ 1 := by
  unfold valB
  rw [allK_len, if_pos h, allK_gt ms k _ (by omega)]
  split
  · split <;> omega
  · omega
theorem allK_knows {vs ms : List Int} (h : knows vs ms) (k : Nat) : knows vs (allK ms k) := by
  intro x hx hn
  have h1 := h x hx hn
  rw [← h1] at hn ⊢
  unfold valB at hn ⊢
  by_cases hl : x < ms.length
  · rw [if_pos hl] at hn ⊢
    rw [allK_len, if_pos (by omega), allK_gt ms k _ (by omega), if_pos (by omega), if_neg hn]
  · rw [if_neg hl] at hn
    exact absurd rfl hn
theorem rows_kept {w w' : World} {B : Nat} {e : TypeId} {k : IntKind} {v : Value} {xs : List Int} (h : Row w B e k v xs) (hb : Below w.heap.size w w') : Row w' B e k v xs := by
  refine ⟨h.1, ?_⟩
  rcases h.2 with h2 | ⟨g, cap, cur, a, b, c, rest⟩
  · exact .inl h2
  · exact .inr ⟨g, cap, cur, a, b, (hb.block g (Array.getElem?_eq_some_iff.1 c).1).trans c, rest⟩
theorem rows_grown {w w' : World} {B : Nat} {e : TypeId} {k : IntKind} {v : Value} {xs : List Int} {r : Option Nat} (h : Row w B e k v xs) (hb : w.grownBy w' r) (hne : ∀ g, v.ownBlock = some g → some g ≠ r) : Row w' B e k v xs := by
  refine ⟨h.1, ?_⟩
  rcases h.2 with h2 | ⟨g, cap, cur, a, b, c, rest⟩
  · exact .inl h2
  · exact .inr ⟨g, cap, cur, a, b, (hb.block g (Array.getElem?_eq_some_iff.1 c).1 (hne g (by rw [a]; rfl))).trans c, rest⟩
theorem row_none {w : World} {B : Nat} {e : TypeId} {k : IntKind} {ao : Option Addr} {n cap : Nat} {xs : List Int} (h : Row w B e k (.slice ao n cap) xs) : ao = none → n = 0 ∧ cap = 0 := by
  intro ha
  subst ha
  rcases h.2 with ⟨h9, _⟩ | ⟨g, cap', cur, h9, _⟩
  · simp only [Value.slice.injEq] at h9
    exact ⟨h9.2.1, h9.2.2⟩
  · simp only [Value.slice.injEq] at h9
    exact absurd h9.1 (by simp)
end Gim
namespace Go.Proofs.Ytmdanfeilgeoaaa
open Go.RowKit Gim Go.Sort Go.Lib
/-- 'append(out, x)' of one number; where the new slice lies -/
theorem append1_at (w : World) {ops : Array Oper} {rest : List Oper} {o : Oper} {a : Act} {Q : Exit → Act → World → Prop} (hg : o.guard = none) (s x : Operand) (t : TypeId)
    (ho : o.op = .call { callee := .builtin .append, args := #[s, x], argTypes := #[t, t] }) (B : Nat) (e : TypeId) (k : IntKind) (bytes : Nat)
    (hinfo : (Try.prog.info? e).map (fun i => (i.zero, i.size, i.bytes)) = some (some (.int k 0), 1, bytes)) (ht : Try.prog.underlying t = some (.slice e))
    (v : Value) (xs : List Int) (hs : a.eval s = v) (hrow : Row w B e k v xs) (z : Int) (hx : a.eval x = .slice (some ⟨w.heap.size, 0, none⟩) 1 1)
    (hlen : xs.length < 1099511627776) (hby : bytes ≤ 8) (hB : B ≤ w.heap.size)
    (hK : ∀ v' w', Row w' B e k v' (xs ++ [z]) → w.grownBy w' v.ownBlock → (v'.ownBlock = v.ownBlock ∨ ∃ j, v'.ownBlock = some j ∧ w.heap.size ≤ j) → wpList Try.prog ops Q rest (a.put o.dst v') w') :
    wpList Try.prog ops Q (o :: rest) a (w.alloc (.cells #[.int k z] e)) := by
  obtain ⟨i0, hi, hz0, hz1, hz2⟩ := info_parts hinfo
  refine wpList_append_own_at _ hg s x t ho B e i0 (.int k 0) 1 bytes ht hi hz0 hz1 hz2 rfl (by decide) v xs.length (xs.map (Value.int k)) hs (World.ownsRow.alloc hrow _) ⟨w.heap.size, 0, none⟩ 1 1 [.int k z] hx rfl (one_new _ _ _)
    (fun x hx => by simp at hx; rcases hx with rfl; rfl) (by unfold maxLen; omega) (by have := Nat.mul_le_mul_left (xs.length + 1) hby; omega) (by simp; omega) ?_
  intro v' w' h1 h2 _ h5
  refine hK v' w' ?_ ?_ ?_
  · unfold Row
    rw [List.length_append, List.map_append]
    exact h1
  · have h3 := World.grownBy_alloc w (.cells #[.int k z] e) v.ownBlock
    exact ⟨h2.os.trans h3.os, h2.tape.trans h3.tape, h2.output.trans h3.output, Nat.le_trans h3.size h2.size,
      fun j hj hne => (h2.block j (Nat.lt_of_lt_of_le hj h3.size) hne).trans (h3.block j hj hne)⟩
  · rcases h5 with h5 | h5
    · exact .inl h5
    · exact .inr ⟨_, h5, by simp⟩
set_option maxRecDepth 100000 in
set_option maxHeartbeats 16000000 in
theorem grows_walk (op v x : Int) (gs : List Fm) (a : Option Addr) (n cap : Nat) (va : Option Addr) (vn vc : Nat) (vs : List Int) (ua : Option Addr) (un uc : Nat) (us : List Int) (w : World)
    (hF : FitS w gs a n cap) (hV : Rd w .i64 va vn vc vs) (hVn : va = none → vn = 0 ∧ vc = 0) (_hVw : ∀ x ∈ vs, (Lit.int .i64 x).wf = true) (hVb : vn ≤ 1048576) (hU : Rd w .i64 ua un uc us) (hUn : ua = none → un = 0 ∧ uc = 0) (_hUw : ∀ x ∈ us, (Lit.int .i64 x).wf = true) (hUb : un ≤ 1048576) :
    Calls Try.prog 6 #[.agg #[.int .i64 op, .int .i64 v, .int .i64 x, .slice a n cap], .slice va vn vc, .slice ua un uc] w fun e w' => e = .returned (.bool true) ∧ Below w.heap.size w w' := by
  have hb0 : Below w.heap.size w (w.alloc (.cells #[.int .i64 op, .int .i64 v, .int .i64 x, .slice a n cap] 26)) := ((Grows.refl _).alloc _).below
  have hbx := heap_alloc_new w (.cells #[.int .i64 op, .int .i64 v, .int .i64 x, .slice a n cap] 26)
  have hF1 := hF.below hb0
  have hV1 := hV.below hb0
  have hU1 := hU.below hb0
  obtain ⟨W1, hW1⟩ : ∃ W1, w.alloc (.cells #[.int .i64 op, .int .i64 v, .int .i64 x, .slice a n cap] 26) = W1 := ⟨_, rfl⟩
  rw [hW1] at hb0 hbx hF1 hV1 hU1
  have hGr := great_calls op v x gs a n cap W1 hF1
  have HB0 := Lib.hid hb0
  have HF1 := Lib.hid hF1
  have HV1 := Lib.hid hV1
  have HU1 := Lib.hid hU1
  have HVN := Lib.hid hVn
  have HUN := Lib.hid hUn
  have HVL := Lib.hid hV.len
  have HUL := Lib.hid hU.len
  have HBX := Lib.hid hbx
  have HVB := Lib.hid hVb
  have HUB := Lib.hid hUb
  have hvb : vn ≤ 9223372036854775807 := by omega
  have hub : un ≤ 9223372036854775807 := by omega
  clear hVb hUb
  obtain ⟨B, hB⟩ : ∃ B, Hid (w.heap.size = B) := ⟨_, Lib.hid rfl⟩
  obtain ⟨⟨k0, k1, k2, k3⟩, _⟩ := cells4_of hbx
  rw [hB.out] at HBX k0 k1 k2 k3
  clear hF hV hU hb0 hbx hF1 hV1 hU1 hVn hUn
  by_cases hr : restF (.mk op v x gs) 65536 < 0
  · rw [decide_eq_true hr] at hGr
    clear hr
    go_enter Try.func6, Try.ntmps6
    go_upto_region 1 with fail
    try rw [hW1]
    try rw [hB.out]
    clear hW1
    go_wp2_with fail
    refine hGr.mono ?_
    rintro e w2 ⟨rfl, g2⟩
    have hX := fixed_calls w2
    have HB2 := Lib.hid (HB0.out.trans (g2.below.mono HB0.out.size))
    clear hGr g2 k0 k1 k2 k3
    go_wp2_with fail
    refine hX.mono ?_
    rintro e w3 ⟨rfl, b3⟩
    have HB3 := Lib.hid (HB2.out.trans (b3.mono HB2.out.size))
    clear hX b3
    go_wp2_with fail
    go_ret
    exact ⟨rfl, HB3.out⟩
  · rw [decide_eq_false hr] at hGr
    have hsz := sz_small hr
    have HSZ := Lib.hid hsz
    clear hr hsz
    go_enter Try.func6, Try.ntmps6
    go_upto_region 1 with fail
    try rw [hW1]
    try rw [hB.out]
    clear hW1
    go_wp2_with fail
    refine hGr.mono ?_
    rintro e w2 ⟨rfl, g2⟩
    have hX := fixed_calls w2
    have HB2 := Lib.hid g2.below
    clear hGr g2 k0 k1 k2 k3
    go_wp2_with fail
    refine hX.mono ?_
    rintro e w3 ⟨rfl, b3⟩
    have HB3 := Lib.hid (HB2.out.trans (b3.mono HB2.out.size))
    clear hX b3
    -- Eval of f by v
    obtain ⟨⟨k0, k1, k2, k3⟩, _⟩ := cells4_of ((HB3.out.block B (Array.getElem?_eq_some_iff.1 HBX.out).1).trans HBX.out)
    have hC := twin_calls _ op v x gs a n cap w3 (Nat.le_refl _) (HF1.out.below HB3.out) (by have := HSZ.out; omega)
    go_wp2_with fail
    refine hC.mono ?_
    rintro e w4 ⟨ta1, tc1, rfl, hFR, b⟩
    have HT1 := Lib.hid hFR
    have HB4 := Lib.hid (HB3.out.trans (b.mono HB3.out.size))
    clear hC hFR b k0 k1 k2 k3
    have hC := truthsR va vn vc vs w4 (HV1.out.below HB4.out) HVN.out (by have := HVB.out; omega)
    go_wp2_with fail
    refine hC.mono ?_
    rintro e w5 ⟨va5, vc5, rfl, rd5, b⟩
    have HB5 := Lib.hid (HB4.out.trans (b.mono HB4.out.size))
    clear hC
    obtain ⟨c1, Hc1⟩ : ∃ c, Hid (chk2 vs (.mk op v x gs) = c) := ⟨_, Lib.hid rfl⟩
    obtain ⟨t1, Ht1⟩ : ∃ t, Hid ((if c1 = 0 then evalF vs (.mk op v x gs) else 0) = t) := ⟨_, Lib.hid rfl⟩
    have hC := Eval_calls op v x gs ta1 n tc1 vs va5 vn vc5 w5 (HT1.out.keeps (Keeps.of_below b (Nat.le_refl _))).here rd5
    rw [Hc1.out, Ht1.out] at hC
    have HC := Lib.hid hC
    clear b hC
    go_wp2_with fail
    refine HC.out.mono ?_
    rintro e w6 ⟨rfl, g⟩
    have HB6 := Lib.hid (HB5.out.trans (g.below.mono HB5.out.size))
    clear HC g
    clear rd5
    obtain ⟨⟨k0, k1, k2, k3⟩, _⟩ := cells4_of ((HB6.out.block B (Array.getElem?_eq_some_iff.1 HBX.out).1).trans HBX.out)
    have hC := twin_calls _ op v x gs a n cap w6 (Nat.le_refl _) (HF1.out.below HB6.out) (by have := HSZ.out; omega)
    go_wp2_with fail
    refine hC.mono ?_
    rintro e w7 ⟨ta2, tc2, rfl, hFR, b⟩
    have HT2 := Lib.hid hFR
    have HB7 := Lib.hid (HB6.out.trans (b.mono HB6.out.size))
    clear hC hFR b k0 k1 k2 k3
    obtain ⟨ms, HMS⟩ : ∃ ms, Hid (mrgL vs us = ms) := ⟨_, Lib.hid rfl⟩
    obtain ⟨ml, HML⟩ : ∃ ml, Hid (ms.length = ml) := ⟨_, Lib.hid rfl⟩
    have hC := mergedR va ua vn vc un uc vs us ms ml w7 (HV1.out.below HB7.out) (HU1.out.below HB7.out) HUN.out (by have := HVB.out; omega) (by have := HUB.out; omega) HMS.out HML.out
    go_wp2_with fail
    refine hC.mono ?_
    rintro e w8 ⟨va8, vc8, rfl, rd8, b⟩
    have HB8 := Lib.hid (HB7.out.trans (b.mono HB7.out.size))
    clear hC
    obtain ⟨c2, Hc2⟩ : ∃ c, Hid (chk2 ms (.mk op v x gs) = c) := ⟨_, Lib.hid rfl⟩
    obtain ⟨t2, Ht2⟩ : ∃ t, Hid ((if c2 = 0 then evalF ms (.mk op v x gs) else 0) = t) := ⟨_, Lib.hid rfl⟩
    have hC := Eval_calls op v x gs ta2 n tc2 ms va8 ml vc8 w8 (HT2.out.keeps (Keeps.of_below b (Nat.le_refl _))).here rd8
    rw [Hc2.out, Ht2.out] at hC
    have HC := Lib.hid hC
    clear b hC
    go_wp2_with fail
    refine HC.out.mono ?_
    rintro e w9 ⟨rfl, g⟩
    have HB9 := Lib.hid (HB8.out.trans (g.below.mono HB8.out.size))
    clear HC g
    clear rd8
    have hcc1 : c1 = 0 ∨ c1 = 6 := by rw [← Hc1.out]; exact chk2_cases _ _
    have hcc2 : c2 = 0 ∨ c2 = 6 := by rw [← Hc2.out]; exact chk2_cases _ _
    have HBE := Lib.hid (HB0.out.trans (HB9.out.mono HB0.out.size))
    rcases hcc1 with rfl | rfl
    · rcases hcc2 with rfl | rfl
      · have hz := chk2_zero Hc1.out
        have hz2 := chk2_zero Hc2.out
        have e1 := Ht1.out
        have e2 := Ht2.out
        rw [if_pos rfl] at e1 e2
        have hgr : t1 ≠ 1 → t2 = t1 := fun h => by
          rw [← e1, ← e2, ← HMS.out]
          refine eval_grows hz.1 (by rw [HMS.out]; exact hz2.1) (mrgL_knows vs us) _ hz.2 ?_
          rw [e1]
          exact h
        have HGRW := Lib.hid hgr
        have HE1 := Lib.hid e1
        have HGD := Lib.hid hz2.1
        have HGV := Lib.hid hz.1
        have HIS := Lib.hid hz.2
        have HCF := Lib.hid (show chkE (.mk op v x gs) = 0 by unfold chkE; rw [if_pos hz.2])
        have HMLB := Lib.hid (show ml ≤ 1048576 by
          have h1 : ms.length = max vs.length us.length := by rw [← HMS.out]; unfold mrgL; rw [mrgQ_len, padL_len]
          have := HML.out
          have := HVL.out
          have := HUL.out
          have := HVB.out
          have := HUB.out
          omega)
        have hne : t1 ≠ 1 ∧ t2 ≠ t1 ↔ False := ⟨fun h => h.2 (hgr h.1), fun h => h.elim⟩
        have hnb1 : (t1 != 1 && t2 != t1) = false := by
          cases h1 : (t1 != 1) with
          | false => rfl
          | true =>
            have := hgr (by simpa using h1)
            simp [this]
        clear hz hz2 e1 e2 hgr hne
        have hmrg := fun W (hb : Below W1.heap.size W1 W) => merged_calls va ua vn vc un uc vs us W (HV1.out.below hb) (HU1.out.below hb) HUN.out (by have := HVB.out; omega) (by have := HUB.out; omega)
        rw [HMS.out] at hmrg
        have HMRG := Lib.hid hmrg
        clear hmrg
        by_cases ht1 : t1 = 1
        · subst ht1
          have hC := HMRG.out w9 HB9.out
          go_wp2_with fail
          refine hC.mono ?_
          rintro e w10 ⟨vv, rfl, hrow, b⟩
          have HROW10 := Lib.hid hrow
          have HB10 := Lib.hid (HB9.out.trans (b.mono HB9.out.size))
          have H910 := Lib.hid b
          have HOWN := Lib.hid (show ∀ g, vv.ownBlock = some g → w9.heap.size ≤ g ∧ g < w10.heap.size from fun g hg => hrow.lt g hg)
          clear hC b hrow
          obtain ⟨⟨k0, k1, k2, k3⟩, _⟩ := cells4_of ((HB10.out.block B (Array.getElem?_eq_some_iff.1 HBX.out).1).trans HBX.out)
          have hC := twin_calls _ op v x gs a n cap w10 (Nat.le_refl _) (HF1.out.below HB10.out) (by have := HSZ.out; omega)
          go_wp2_with fail
          refine hC.mono ?_
          rintro e w11 ⟨ta3, tc3, rfl, hFR, b⟩
          have HT3 := Lib.hid hFR
          have HB11 := Lib.hid (HB10.out.trans (b.mono HB10.out.size))
          have HW11 := Lib.hid b
          clear hC hFR b k0 k1 k2 k3
          have hC := kVars2_calls op v x gs ta3 n tc3 w11 HT3.out.here (by have := HSZ.out; omega)
          rw [HCF.out] at hC
          have HC := Lib.hid hC
          clear hC
          go_wp2_with fail
          refine HC.out.mono ?_
          rintro e w12 ⟨Xa, Xc, XL, rfl, hrX, hL, b⟩
          rw [HIS.out, if_pos rfl] at hL
          obtain ⟨xl, HXL⟩ : ∃ z, Hid (XL.length = z) := ⟨_, Lib.hid rfl⟩
          rw [HXL.out] at hrX ⊢
          have HL := Lib.hid hL
          have HRX := Lib.hid hrX
          have HXO := Lib.hid (show ∀ g, (Value.slice Xa xl Xc).ownBlock = some g → w11.heap.size ≤ g ∧ g < w12.heap.size from fun g hg => hrX.lt g hg)
          have HROW12 := Lib.hid (rows_kept (rows_kept HROW10.out HW11.out) b)
          have H912 := Lib.hid ((H910.out.trans (HW11.out.mono H910.out.size)).trans (b.mono (Nat.le_trans H910.out.size HW11.out.size)))
          have HS1 := Lib.hid HW11.out.size
          have HS2 := Lib.hid b.size
          have HXS : Hid (∀ y ∈ XL, 0 ≤ y) := Lib.hid fun y hy => by
            rw [hL, mem_refVars HIS.out] at hy
            exact (vars_ok _ HIS.out y hy).1
          have hxb : xl ≤ 9223372036854775807 := by
            obtain ⟨a9, c9, h9, r9⟩ := hrX.rd
            have := r9.le
            have := r9.cap_le
            have := HXL.out
            unfold maxLen at *
            omega
          clear HC b hL hrX
          go_wp2_with fail
          go_loopw [11, 78] (fun v2 i wr => ∃ (q k : Nat), i = .int .i64 q ∧ q ≤ xl ∧ Row wr w9.heap.size 23 .i64 v2 (ms ++ List.replicate k 0) ∧ k ≤ 2001 ∧ Hid (∀ j, j < q → gt XL j < ((ml + k : Nat) : Int)) ∧ Row wr w11.heap.size 3 .i64 (.slice Xa xl Xc) XL ∧ Hid (∀ g, v2.ownBlock = some g → g < w10.heap.size ∨ w12.heap.size ≤ g) ∧ Hid (Below w9.heap.size w9 wr) ∧ Hid (w12.heap.size ≤ wr.heap.size)) (fun _ i _ => xl - (RowKit.intOf i).toNat)
          case atStart => exact ⟨0, 0, rfl, Nat.zero_le _, by simpa using HROW12.out, by omega, Lib.hid (fun j hj => absurd hj (Nat.not_lt_zero _)), HRX.out, Lib.hid (fun g hg => .inl (HOWN.out g hg).2), Lib.hid H912.out, Lib.hid (Nat.le_refl _)⟩
          case round =>
            obtain ⟨q, k, rfl, hq, hrow, hk, HM, hrX, HSEP, HBL, HSW⟩ := hrel
            by_cases hqn : q < xl
            · have hqn' : (q : Int) < xl := by omega
              obtain ⟨a9, c9, h9, rdX⟩ := hrX.rd
              rw [HXL.out] at h9 rdX
              cases h9
              obtain ⟨b1, o1, hxa, hb1, hcl⟩ := rdX.cell q hqn
              have c0 := hcl q hqn
              obtain ⟨y, hy⟩ : ∃ y, gt XL q = y := ⟨_, rfl⟩
              have hy0 : 0 ≤ y := by
                rw [← hy, gt_lt (by have := HXL.out; omega)]
                exact HXS.out _ (List.getElem_mem _)
              obtain ⟨Y, hY⟩ := Int.eq_ofNat_of_zero_le hy0
              subst hY
              rw [hy] at c0
              have HY := Lib.hid hy
              have HROW := Lib.hid hrow
              have HRXX := Lib.hid hrX
              subst hxa
              clear hcl hy hy0 hb1 hrX rdX hrow
              by_cases hY2 : 2000 < (Y : Int)
              · have HBQ := Lib.hid (HB0.out.trans ((HB9.out.trans (HBL.out.mono HB9.out.size)).mono HB0.out.size))
                have hY2' : decide (2000 < (Y : Int)) = true := decide_eq_true hY2
                clear hY2
                go_wp2_with fail
                go_ret
                exact ⟨rfl, HBQ.out⟩
              · have hY2' : decide (2000 < (Y : Int)) = false := decide_eq_false hY2
                have HY3 := Lib.hid (show Y ≤ 2000 by omega)
                have HQ := Lib.hid hqn
                have HKK := Lib.hid hk
                have HQ0 := Lib.hid hq
                clear hY2 hk hq hqn
                obtain ⟨WO, hWO⟩ : ∃ WO, WO = wr := ⟨_, rfl⟩
                subst hWO
                go_upto_region 18 with fail
                go_loopw [11] (fun v3 ws => ∃ (k2 : Nat), Row ws w9.heap.size 23 .i64 v3 (ms ++ List.replicate k2 0) ∧ k2 ≤ 2001 ∧ Hid (k ≤ k2) ∧ Row ws w11.heap.size 3 .i64 (.slice (some ⟨b1, o1, none⟩) xl Xc) XL ∧ Hid (∀ g, v3.ownBlock = some g → g < w10.heap.size ∨ w12.heap.size ≤ g) ∧ Hid (Below w9.heap.size w9 ws) ∧ Hid (w12.heap.size ≤ ws.heap.size)) (fun v3 _ => Y + 1 - (match v3 with | .slice _ l _ => l | _ => 0))
                case atStart => exact ⟨k, HROW.out, HKK.out, Lib.hid (Nat.le_refl _), HRXX.out, HSEP, HBL, HSW⟩
                case round =>
                  obtain ⟨k2, hrow2, hk2, HK2, hrX2, HSEP2, HBL2, HSW2⟩ := hrel
                  obtain ⟨a5, c5, hv5, hrd5⟩ := hrow2.rd
                  obtain ⟨l, hl⟩ : ∃ l, (ms ++ List.replicate k2 0).length = l := ⟨_, rfl⟩
                  have HLM : Hid (l = ml + k2) := Lib.hid (by rw [← hl]; simp [HML.out])
                  rw [hl] at hv5 hrd5
                  subst hv5
                  have hlb : l ≤ 9223372036854775807 := by have := HLM.out; have := HMLB.out; omega
                  have HROW2 := Lib.hid hrow2
                  have HRX2 := Lib.hid hrX2
                  have HK22 := Lib.hid hk2
                  by_cases hc : l ≤ Y
                  · have hc' : (l : Int) ≤ Y := by omega
                    have hlq : (ms ++ List.replicate k2 0).length < 1099511627776 := by rw [hl]; have := HLM.out; have := HMLB.out; omega
                    have hsz9 : w9.heap.size ≤ wr.heap.size := HBL2.out.size
                    have HKN := Lib.hid (show k2 + 1 ≤ 2001 by have := HLM.out; have := HY3.out; omega)
                    have HL3 := Lib.hid hl
                    clear hl hrd5 hrX2 hc hk2
                    go_wp2_with (at_builtin; refine append1_at _ rfl _ _ 27 rfl w9.heap.size 23 .i64 8 info_truth Try.underlying27 _ _ rfl hrow2 0 rfl hlq (by decide) hsz9 ?_; intro v' w3 hown' hgrow3 hat3)
                    have hb3 : Below w9.heap.size w9 w3 := HBL2.out.grown hgrow3 hsz9 (fun j hj => (HROW2.out.lt j hj).1)
                    have hrX3 := rows_grown HRX2.out hgrow3 (fun g hg e => by
                      have h1 := HXO.out g hg
                      have h2 := HSEP2.out g e.symm
                      have := HS1.out
                      omega)
                    have hsep3 : ∀ g, v'.ownBlock = some g → g < w10.heap.size ∨ w12.heap.size ≤ g := fun g hg => by
                      rcases hat3 with h | ⟨j, h, hj⟩
                      · exact HSEP2.out g (h.symm.trans hg)
                      · have := HSW2.out
                        rw [hg] at h
                        cases h
                        exact .inr (by omega)
                    have HS3 := Lib.hid (Nat.le_trans HSW2.out hgrow3.size)
                    have hr4 : Row w3 w9.heap.size 23 .i64 v' (ms ++ List.replicate (k2 + 1) 0) := by
                      rw [List.replicate_succ', ← List.append_assoc]
                      exact hown'
                    obtain ⟨a6, c6, hv6, _⟩ := hr4.rd
                    have hl6 : (ms ++ List.replicate (k2 + 1) 0).length = l + 1 := by simp [HML.out]; have := HLM.out; omega
                    rw [hl6] at hv6
                    subst hv6
                    have HB3 := Lib.hid hb3
                    have HSP3 := Lib.hid hsep3
                    clear hgrow3 hrow2 hown' hat3 hb3 hsep3
                    go_wp2_with fail
                    go_roundw
                    case rel => exact ⟨k2 + 1, hr4, HKN.out, Lib.hid (by have := HK2.out; omega), hrX3, HSP3, HB3, HS3⟩
                    case measure => simp; omega
                  · have hc' : ¬ (l : Int) ≤ Y := by omega
                    have HQN := Lib.hid (show ∀ j, j < q + 1 → gt XL j < ((ml + k2 : Nat) : Int) from fun j hj => by
                      by_cases hjq : j < q
                      · have h1 := HM.out j hjq
                        have := HK2.out
                        omega
                      · obtain rfl : j = q := by omega
                        rw [HY.out]
                        have := HLM.out
                        omega)
                    have HQ1 := Lib.hid (show q + 1 ≤ xl from HQ.out)
                    clear hl hrd5 hrX2 hrow2 hc hk2
                    go_wp2_with fail
                    clear hc'
                    go_roundw
                    case rel => exact ⟨q + 1, k2, by go_num, HQ1.out, HROW2.out, HK22.out, HQN, HRX2.out, HSEP2, HBL2, HSW2⟩
                    case measure => have := HQ.out; simp [RowKit.intOf]; omega
            · obtain rfl : q = xl := by omega
              obtain ⟨a5, c5, hv5, hrd5⟩ := hrow.rd
              obtain ⟨l, hl⟩ : ∃ l, (ms ++ List.replicate k 0).length = l := ⟨_, rfl⟩
              have HLM : Hid (l = ml + k) := Lib.hid (by rw [← hl]; simp [HML.out])
              rw [hl] at hv5 hrd5
              subst hv5
              have hlb : l ≤ 9223372036854775807 := by have := HLM.out; have := HMLB.out; omega
              obtain ⟨al, hAS⟩ : ∃ al, ms ++ List.replicate k 0 = al := ⟨_, rfl⟩
              rw [hAS] at hrow hl
              have HAS := Lib.hid hAS
              have HROW := Lib.hid hrow
              have HKN : Hid (∀ y ∈ varsF (.mk op v x gs), y < ((ml + k : Nat) : Int)) := Lib.hid fun y hy => by
                have h1 : y ∈ XL := by rw [HL.out]; exact (mem_refVars HIS.out y).2 hy
                obtain ⟨j, hj, rfl⟩ := List.mem_iff_getElem.1 h1
                rw [← gt_lt hj]
                exact HM.out j (by have := HXL.out; omega)
              have HKB := Lib.hid hk
              have HASL := Lib.hid hl
              obtain ⟨W20, hW20⟩ : ∃ W, W = wr := ⟨_, rfl⟩
              subst hW20
              clear hrow hrd5 hAS hrX hl hk
              go_wp2_with fail
              go_loopw [96] (fun i ws => ∃ (p : Nat), i = .int .i64 p ∧ p ≤ l ∧ Row ws w9.heap.size 23 .i64 (.slice a5 l c5) (fillQ al p) ∧ Hid (Below w9.heap.size w9 ws)) (fun i _ => l - (RowKit.intOf i).toNat)
              case atStart => exact ⟨0, rfl, Nat.zero_le _, by rw [fillQ_zero]; exact HROW.out, HBL⟩
              case round =>
                obtain ⟨p, rfl, hp, hrow, HBP⟩ := hrel
                by_cases hpn : p < l
                · have hpn' : (p : Int) < l := by omega
                  have hflen : (fillQ al p).length = l := by rw [fillQ_len]; exact HASL.out
                  obtain ⟨g, ha5⟩ : ∃ g, a5 = some ⟨g, 0, none⟩ := by
                    rcases hrow.2 with ⟨h9, _⟩ | ⟨g, cap', cur, h9, _⟩
                    · simp only [Value.slice.injEq] at h9; omega
                    · simp only [Value.slice.injEq] at h9; exact ⟨g, h9.1⟩
                  subst ha5
                  have e0 := hrow.cell (j := p) (by rw [hflen]; omega)
                  have hgt : gt (fillQ al p) p = gt al p := by rw [fillQ_gt _ _ _ (by have := HASL.out; omega)]; simp
                  obtain ⟨t, ht⟩ : ∃ t, gt al p = t := ⟨_, rfl⟩
                  rw [hgt, ht] at e0
                  have HTT := Lib.hid ht
                  have HROWP := Lib.hid hrow
                  by_cases h1 : t = 1
                  · subst h1
                    have f0 := hrow.free p
                    have hst := hrow.set' p 2
                    have hg3 : wr.grownBy (wr.setCell ⟨g, p, none⟩ (.int .i64 2)) (some g) := grownBy_setAt _ _ _ _
                    have hgb := (hrow.lt g rfl).1
                    have HST := Lib.hid (show Row (wr.setCell ⟨g, p, none⟩ (.int .i64 2)) w9.heap.size 23 .i64 (.slice (some ⟨g, 0, none⟩) l c5) (fillQ al (p + 1)) by
                      rw [fillQ_set HTT.out]
                      exact hst)
                    have HB3 := Lib.hid (HBP.out.grown hg3 HBP.out.size (fun j e => by have := Option.some.inj e; omega))
                    clear hst hg3 hflen hrow hgt ht hgb
                    go_wp2_with fail
                    go_roundw
                    case rel => exact ⟨p + 1, by go_num, by omega, HST.out, HB3⟩
                    case measure => simp [RowKit.intOf]; omega
                  · have h1' : (t == 1) = false := beq_eq_false_iff_ne.2 h1
                    clear hflen hrow hgt ht
                    go_wp2_with fail
                    go_roundw
                    case rel => exact ⟨p + 1, by go_num, by omega, by rw [fillQ_skip (by rw [HTT.out]; exact h1)]; exact HROWP.out, HBP⟩
                    case measure => simp [RowKit.intOf]; omega
                · obtain rfl : p = l := by omega
                  obtain ⟨zs, HZS⟩ : ∃ zs, Hid (allK ms k = zs) := ⟨_, Lib.hid rfl⟩
                  have hzs : fillQ al p = zs := by
                    rw [← HZS.out]
                    unfold allK
                    rw [HAS.out, HLM.out, HML.out]
                  rw [hzs] at hrow
                  have hnone := row_none hrow
                  have HNONE := Lib.hid hnone
                  have HROW20 := Lib.hid hrow
                  have HZL : Hid (zs.length = p) := Lib.hid (by rw [← hzs, fillQ_len]; exact HASL.out)
                  obtain ⟨w20, hw20⟩ : ∃ W, W = wr := ⟨_, rfl⟩
                  subst hw20
                  have HB20 := Lib.hid (HB9.out.trans (HBP.out.mono HB9.out.size))
                  have hgz : goodB zs := by rw [← HZS.out]; exact allK_good HGD.out k
                  have hkn : ∀ y ∈ varsF (.mk op v x gs), valB zs y ≠ 1 := fun y hy => by
                    rw [← HZS.out]
                    exact allK_known (vars_ok _ HIS.out y hy).1 (by rw [HML.out]; exact HKN.out y hy)
                  have HSK := Lib.hid (simp_known hgz HIS.out hkn)
                  have HCZ := Lib.hid (chk2_of hgz HIS.out)
                  have HZK := Lib.hid (show evalF vs (.mk op v x gs) ≠ 1 → evalF zs (.mk op v x gs) = evalF vs (.mk op v x gs) from eval_grows HGV.out hgz (by
                    rw [← HZS.out, ← HMS.out]
                    exact allK_knows (mrgL_knows vs us) k) _ HIS.out)
                  clear hrow hnone hzs hgz hkn
                  obtain ⟨⟨k0, k1, k2, k3⟩, _⟩ := cells4_of ((HB20.out.block B (Array.getElem?_eq_some_iff.1 HBX.out).1).trans HBX.out)
                  have hC := twin_calls _ op v x gs a n cap w20 (Nat.le_refl _) (HF1.out.below HB20.out) (by have := HSZ.out; omega)
                  go_wp2_with fail
                  refine hC.mono ?_
                  rintro e w21 ⟨ta4, tc4, rfl, hFR, b⟩
                  have HT4 := Lib.hid hFR
                  have HB21 := Lib.hid (HB20.out.trans (b.mono HB20.out.size))
                  have HW21 := Lib.hid b
                  clear hC hFR b k0 k1 k2 k3
                  have hrow21 := rows_kept HROW20.out HW21.out
                  obtain ⟨a6, c6, h6, rd6⟩ := hrow21.rd
                  rw [HZL.out] at h6 rd6
                  cases h6
                  have hC := truthsR a5 p c5 zs w21 rd6 HNONE.out (by have := HLM.out; have := HMLB.out; have := HKB.out; omega)
                  go_wp2_with fail
                  refine hC.mono ?_
                  rintro e w22 ⟨za, zc, rfl, rdz, b⟩
                  have HB22 := Lib.hid (HB21.out.trans (b.mono HB21.out.size))
                  have HROW22 := Lib.hid (rows_kept hrow21 b)
                  clear hC rd6 hrow21
                  obtain ⟨t3, Ht3⟩ : ∃ t, Hid (evalF zs (.mk op v x gs) = t) := ⟨_, Lib.hid rfl⟩
                  have hC := Eval_calls op v x gs ta4 n tc4 zs za p zc w22 (HT4.out.keeps (Keeps.of_below b (Nat.le_refl _))).here rdz
                  rw [HCZ.out, if_pos rfl, Ht3.out] at hC
                  have HC := Lib.hid hC
                  clear b hC rdz
                  go_wp2_with fail
                  refine HC.out.mono ?_
                  rintro e w23 ⟨rfl, g⟩
                  have HB23 := Lib.hid (HB22.out.trans (g.below.mono HB22.out.size))
                  have HROW23 := Lib.hid (rows_kept HROW22.out g.below)
                  clear HC g
                  obtain ⟨⟨k0, k1, k2, k3⟩, _⟩ := cells4_of ((HB23.out.block B (Array.getElem?_eq_some_iff.1 HBX.out).1).trans HBX.out)
                  have hC := twin_calls _ op v x gs a n cap w23 (Nat.le_refl _) (HF1.out.below HB23.out) (by have := HSZ.out; omega)
                  go_wp2_with fail
                  refine hC.mono ?_
                  rintro e w24 ⟨ta5, tc5, rfl, hFR, b⟩
                  have HT5 := Lib.hid hFR
                  have HB24 := Lib.hid (HB23.out.trans (b.mono HB23.out.size))
                  have HW24 := Lib.hid b
                  clear hC hFR b k0 k1 k2 k3
                  have hrow24 := rows_kept HROW23.out HW24.out
                  obtain ⟨a6, c6, h6, rd6⟩ := hrow24.rd
                  rw [HZL.out] at h6 rd6
                  cases h6
                  have hC := truthsR a5 p c5 zs w24 rd6 HNONE.out (by have := HLM.out; have := HMLB.out; have := HKB.out; omega)
                  go_wp2_with fail
                  refine hC.mono ?_
                  rintro e w25 ⟨ya, yc, rfl, rdy, b⟩
                  have HB25 := Lib.hid (HB24.out.trans (b.mono HB24.out.size))
                  clear hC rd6 hrow24
                  have hC := Simplify_calls op v x gs ta5 n tc5 zs ya p yc w25 (HT5.out.keeps (Keeps.of_below b (Nat.le_refl _))).here rdy (by have := HSZ.out; omega)
                  unfold SimplW at hC
                  rw [HCZ.out] at hC
                  have HC := Lib.hid hC
                  clear b hC rdy
                  go_wp2_with fail
                  refine HC.out.mono ?_
                  rintro e w26 ⟨aop, av, ax, ass, aa, an, ac, rfl, hre, hFR, b⟩
                  have hre2 : simpF zs (.mk op v x gs) = .mk aop av ax ass := by simpa only [if_true, eq_self_iff_true] using hre
                  rw [HSK.out, Ht3.out] at hre2
                  clear hre
                  have HB26 := Lib.hid (HB25.out.trans (b.mono HB25.out.size))
                  have hab : Below w26.heap.size w26 (w26.alloc (.cells #[.int .i64 aop, .int .i64 av, .int .i64 ax, .slice aa an ac] 26)) := (Below.refl _ _).alloc (Nat.le_refl _) _
                  have hax := heap_alloc_new w26 (.cells #[.int .i64 aop, .int .i64 av, .int .i64 ax, .slice aa an ac] 26)
                  have HAF0 := Lib.hid (hFR.keeps (Keeps.of_below hab (Nat.le_refl _)))
                  clear HC hFR b
                  go_upto_region 29 with fail
                  obtain ⟨w27, hw27⟩ : ∃ w, w26.alloc (.cells #[.int .i64 aop, .int .i64 av, .int .i64 ax, .slice aa an ac] 26) = w := ⟨_, rfl⟩
                  obtain ⟨AB, hAB⟩ : ∃ AB, Hid (w26.heap.size = AB) := ⟨_, Lib.hid rfl⟩
                  rw [hw27] at hab hax HAF0 ⊢
                  rw [hAB.out] at hax ⊢
                  have HB27 := Lib.hid (HB26.out.trans (hab.mono HB26.out.size))
                  have hS := sameF_calls aop av ax ass aa an ac 0 t3 0 [] none 0 0 w27 HAF0.out.here (fitS_nil w27)
                  rw [← hre2, show sameB (cst t3) (.mk 0 t3 0 []) = true from sameB_self _] at hS
                  obtain ⟨⟨a0, a1, a2, a3⟩, _⟩ := cells4_of hax
                  
                  clear hab hax hw27 HAF0 hre2
                  go_wp2_with fail
                  refine hS.mono ?_
                  rintro e w28 ⟨rfl, g⟩
                  have HBZ := Lib.hid (HB0.out.trans ((HB27.out.trans (g.below.mono HB27.out.size)).mono HB0.out.size))
                  clear hS g a0 a1 a2 a3
                  go_wp2_with fail
                  go_ret
                  exact ⟨by simp, HBZ.out⟩
        · have ht2 := HGRW.out ht1
          subst ht2
          have hC := HMRG.out w9 HB9.out
          go_wp2_with fail
          refine hC.mono ?_
          rintro e w10 ⟨vv, rfl, hrow, b⟩
          have HROW10 := Lib.hid hrow
          have HB10 := Lib.hid (HB9.out.trans (b.mono HB9.out.size))
          have H910 := Lib.hid b
          have HOWN := Lib.hid (show ∀ g, vv.ownBlock = some g → w9.heap.size ≤ g ∧ g < w10.heap.size from fun g hg => hrow.lt g hg)
          clear hC b hrow
          obtain ⟨⟨k0, k1, k2, k3⟩, _⟩ := cells4_of ((HB10.out.block B (Array.getElem?_eq_some_iff.1 HBX.out).1).trans HBX.out)
          have hC := twin_calls _ op v x gs a n cap w10 (Nat.le_refl _) (HF1.out.below HB10.out) (by have := HSZ.out; omega)
          go_wp2_with fail
          refine hC.mono ?_
          rintro e w11 ⟨ta3, tc3, rfl, hFR, b⟩
          have HT3 := Lib.hid hFR
          have HB11 := Lib.hid (HB10.out.trans (b.mono HB10.out.size))
          have HW11 := Lib.hid b
          clear hC hFR b k0 k1 k2 k3
          have hC := kVars2_calls op v x gs ta3 n tc3 w11 HT3.out.here (by have := HSZ.out; omega)
          rw [HCF.out] at hC
          have HC := Lib.hid hC
          clear hC
          go_wp2_with fail
          refine HC.out.mono ?_
          rintro e w12 ⟨Xa, Xc, XL, rfl, hrX, hL, b⟩
          rw [HIS.out, if_pos rfl] at hL
          obtain ⟨xl, HXL⟩ : ∃ z, Hid (XL.length = z) := ⟨_, Lib.hid rfl⟩
          rw [HXL.out] at hrX ⊢
          have HL := Lib.hid hL
          have HRX := Lib.hid hrX
          have HXO := Lib.hid (show ∀ g, (Value.slice Xa xl Xc).ownBlock = some g → w11.heap.size ≤ g ∧ g < w12.heap.size from fun g hg => hrX.lt g hg)
          have HROW12 := Lib.hid (rows_kept (rows_kept HROW10.out HW11.out) b)
          have H912 := Lib.hid ((H910.out.trans (HW11.out.mono H910.out.size)).trans (b.mono (Nat.le_trans H910.out.size HW11.out.size)))
          have HS1 := Lib.hid HW11.out.size
          have HS2 := Lib.hid b.size
          have HXS : Hid (∀ y ∈ XL, 0 ≤ y) := Lib.hid fun y hy => by
            rw [hL, mem_refVars HIS.out] at hy
            exact (vars_ok _ HIS.out y hy).1
          have hxb : xl ≤ 9223372036854775807 := by
            obtain ⟨a9, c9, h9, r9⟩ := hrX.rd
            have := r9.le
            have := r9.cap_le
            have := HXL.out
            unfold maxLen at *
            omega
          clear HC b hL hrX
          go_wp2_with fail
          go_loopw [11, 78] (fun v2 i wr => ∃ (q k : Nat), i = .int .i64 q ∧ q ≤ xl ∧ Row wr w9.heap.size 23 .i64 v2 (ms ++ List.replicate k 0) ∧ k ≤ 2001 ∧ Hid (∀ j, j < q → gt XL j < ((ml + k : Nat) : Int)) ∧ Row wr w11.heap.size 3 .i64 (.slice Xa xl Xc) XL ∧ Hid (∀ g, v2.ownBlock = some g → g < w10.heap.size ∨ w12.heap.size ≤ g) ∧ Hid (Below w9.heap.size w9 wr) ∧ Hid (w12.heap.size ≤ wr.heap.size)) (fun _ i _ => xl - (RowKit.intOf i).toNat)
          case atStart => exact ⟨0, 0, rfl, Nat.zero_le _, by simpa using HROW12.out, by omega, Lib.hid (fun j hj => absurd hj (Nat.not_lt_zero _)), HRX.out, Lib.hid (fun g hg => .inl (HOWN.out g hg).2), Lib.hid H912.out, Lib.hid (Nat.le_refl _)⟩
          case round =>
            obtain ⟨q, k, rfl, hq, hrow, hk, HM, hrX, HSEP, HBL, HSW⟩ := hrel
            by_cases hqn : q < xl
            · have hqn' : (q : Int) < xl := by omega
              obtain ⟨a9, c9, h9, rdX⟩ := hrX.rd
              rw [HXL.out] at h9 rdX
              cases h9
              obtain ⟨b1, o1, hxa, hb1, hcl⟩ := rdX.cell q hqn
              have c0 := hcl q hqn
              obtain ⟨y, hy⟩ : ∃ y, gt XL q = y := ⟨_, rfl⟩
              have hy0 : 0 ≤ y := by
                rw [← hy, gt_lt (by have := HXL.out; omega)]
                exact HXS.out _ (List.getElem_mem _)
              obtain ⟨Y, hY⟩ := Int.eq_ofNat_of_zero_le hy0
              subst hY
              rw [hy] at c0
              have HY := Lib.hid hy
              have HROW := Lib.hid hrow
              have HRXX := Lib.hid hrX
              subst hxa
              clear hcl hy hy0 hb1 hrX rdX hrow
              by_cases hY2 : 2000 < (Y : Int)
              · have HBQ := Lib.hid (HB0.out.trans ((HB9.out.trans (HBL.out.mono HB9.out.size)).mono HB0.out.size))
                have hY2' : decide (2000 < (Y : Int)) = true := decide_eq_true hY2
                clear hY2
                go_wp2_with fail
                go_ret
                exact ⟨rfl, HBQ.out⟩
              · have hY2' : decide (2000 < (Y : Int)) = false := decide_eq_false hY2
                have HY3 := Lib.hid (show Y ≤ 2000 by omega)
                have HQ := Lib.hid hqn
                have HKK := Lib.hid hk
                have HQ0 := Lib.hid hq
                clear hY2 hk hq hqn
                obtain ⟨WO, hWO⟩ : ∃ WO, WO = wr := ⟨_, rfl⟩
                subst hWO
                go_upto_region 18 with fail
                go_loopw [11] (fun v3 ws => ∃ (k2 : Nat), Row ws w9.heap.size 23 .i64 v3 (ms ++ List.replicate k2 0) ∧ k2 ≤ 2001 ∧ Hid (k ≤ k2) ∧ Row ws w11.heap.size 3 .i64 (.slice (some ⟨b1, o1, none⟩) xl Xc) XL ∧ Hid (∀ g, v3.ownBlock = some g → g < w10.heap.size ∨ w12.heap.size ≤ g) ∧ Hid (Below w9.heap.size w9 ws) ∧ Hid (w12.heap.size ≤ ws.heap.size)) (fun v3 _ => Y + 1 - (match v3 with | .slice _ l _ => l | _ => 0))
                case atStart => exact ⟨k, HROW.out, HKK.out, Lib.hid (Nat.le_refl _), HRXX.out, HSEP, HBL, HSW⟩
                case round =>
                  obtain ⟨k2, hrow2, hk2, HK2, hrX2, HSEP2, HBL2, HSW2⟩ := hrel
                  obtain ⟨a5, c5, hv5, hrd5⟩ := hrow2.rd
                  obtain ⟨l, hl⟩ : ∃ l, (ms ++ List.replicate k2 0).length = l := ⟨_, rfl⟩
                  have HLM : Hid (l = ml + k2) := Lib.hid (by rw [← hl]; simp [HML.out])
                  rw [hl] at hv5 hrd5
                  subst hv5
                  have hlb : l ≤ 9223372036854775807 := by have := HLM.out; have := HMLB.out; omega
                  have HROW2 := Lib.hid hrow2
                  have HRX2 := Lib.hid hrX2
                  have HK22 := Lib.hid hk2
                  by_cases hc : l ≤ Y
                  · have hc' : (l : Int) ≤ Y := by omega
                    have hlq : (ms ++ List.replicate k2 0).length < 1099511627776 := by rw [hl]; have := HLM.out; have := HMLB.out; omega
                    have hsz9 : w9.heap.size ≤ wr.heap.size := HBL2.out.size
                    have HKN := Lib.hid (show k2 + 1 ≤ 2001 by have := HLM.out; have := HY3.out; omega)
                    have HL3 := Lib.hid hl
                    clear hl hrd5 hrX2 hc hk2
                    go_wp2_with (at_builtin; refine append1_at _ rfl _ _ 27 rfl w9.heap.size 23 .i64 8 info_truth Try.underlying27 _ _ rfl hrow2 0 rfl hlq (by decide) hsz9 ?_; intro v' w3 hown' hgrow3 hat3)
                    have hb3 : Below w9.heap.size w9 w3 := HBL2.out.grown hgrow3 hsz9 (fun j hj => (HROW2.out.lt j hj).1)
                    have hrX3 := rows_grown HRX2.out hgrow3 (fun g hg e => by
                      have h1 := HXO.out g hg
                      have h2 := HSEP2.out g e.symm
                      have := HS1.out
                      omega)
                    have hsep3 : ∀ g, v'.ownBlock = some g → g < w10.heap.size ∨ w12.heap.size ≤ g := fun g hg => by
                      rcases hat3 with h | ⟨j, h, hj⟩
                      · exact HSEP2.out g (h.symm.trans hg)
                      · have := HSW2.out
                        rw [hg] at h
                        cases h
                        exact .inr (by omega)
                    have HS3 := Lib.hid (Nat.le_trans HSW2.out hgrow3.size)
                    have hr4 : Row w3 w9.heap.size 23 .i64 v' (ms ++ List.replicate (k2 + 1) 0) := by
                      rw [List.replicate_succ', ← List.append_assoc]
                      exact hown'
                    obtain ⟨a6, c6, hv6, _⟩ := hr4.rd
                    have hl6 : (ms ++ List.replicate (k2 + 1) 0).length = l + 1 := by simp [HML.out]; have := HLM.out; omega
                    rw [hl6] at hv6
                    subst hv6
                    have HB3 := Lib.hid hb3
                    have HSP3 := Lib.hid hsep3
                    clear hgrow3 hrow2 hown' hat3 hb3 hsep3
                    go_wp2_with fail
                    go_roundw
                    case rel => exact ⟨k2 + 1, hr4, HKN.out, Lib.hid (by have := HK2.out; omega), hrX3, HSP3, HB3, HS3⟩
                    case measure => simp; omega
                  · have hc' : ¬ (l : Int) ≤ Y := by omega
                    have HQN := Lib.hid (show ∀ j, j < q + 1 → gt XL j < ((ml + k2 : Nat) : Int) from fun j hj => by
                      by_cases hjq : j < q
                      · have h1 := HM.out j hjq
                        have := HK2.out
                        omega
                      · obtain rfl : j = q := by omega
                        rw [HY.out]
                        have := HLM.out
                        omega)
                    have HQ1 := Lib.hid (show q + 1 ≤ xl from HQ.out)
                    clear hl hrd5 hrX2 hrow2 hc hk2
                    go_wp2_with fail
                    clear hc'
                    go_roundw
                    case rel => exact ⟨q + 1, k2, by go_num, HQ1.out, HROW2.out, HK22.out, HQN, HRX2.out, HSEP2, HBL2, HSW2⟩
                    case measure => have := HQ.out; simp [RowKit.intOf]; omega
            · obtain rfl : q = xl := by omega
              obtain ⟨a5, c5, hv5, hrd5⟩ := hrow.rd
              obtain ⟨l, hl⟩ : ∃ l, (ms ++ List.replicate k 0).length = l := ⟨_, rfl⟩
              have HLM : Hid (l = ml + k) := Lib.hid (by rw [← hl]; simp [HML.out])
              rw [hl] at hv5 hrd5
              subst hv5
              have hlb : l ≤ 9223372036854775807 := by have := HLM.out; have := HMLB.out; omega
              obtain ⟨al, hAS⟩ : ∃ al, ms ++ List.replicate k 0 = al := ⟨_, rfl⟩
              rw [hAS] at hrow hl
              have HAS := Lib.hid hAS
              have HROW := Lib.hid hrow
              have HKN : Hid (∀ y ∈ varsF (.mk op v x gs), y < ((ml + k : Nat) : Int)) := Lib.hid fun y hy => by
                have h1 : y ∈ XL := by rw [HL.out]; exact (mem_refVars HIS.out y).2 hy
                obtain ⟨j, hj, rfl⟩ := List.mem_iff_getElem.1 h1
                rw [← gt_lt hj]
                exact HM.out j (by have := HXL.out; omega)
              have HKB := Lib.hid hk
              have HASL := Lib.hid hl
              obtain ⟨W20, hW20⟩ : ∃ W, W = wr := ⟨_, rfl⟩
              subst hW20
              clear hrow hrd5 hAS hrX hl hk
              go_wp2_with fail
              go_loopw [96] (fun i ws => ∃ (p : Nat), i = .int .i64 p ∧ p ≤ l ∧ Row ws w9.heap.size 23 .i64 (.slice a5 l c5) (fillQ al p) ∧ Hid (Below w9.heap.size w9 ws)) (fun i _ => l - (RowKit.intOf i).toNat)
              case atStart => exact ⟨0, rfl, Nat.zero_le _, by rw [fillQ_zero]; exact HROW.out, HBL⟩
              case round =>
                obtain ⟨p, rfl, hp, hrow, HBP⟩ := hrel
                by_cases hpn : p < l
                · have hpn' : (p : Int) < l := by omega
                  have hflen : (fillQ al p).length = l := by rw [fillQ_len]; exact HASL.out
                  obtain ⟨g, ha5⟩ : ∃ g, a5 = some ⟨g, 0, none⟩ := by
                    rcases hrow.2 with ⟨h9, _⟩ | ⟨g, cap', cur, h9, _⟩
                    · simp only [Value.slice.injEq] at h9; omega
                    · simp only [Value.slice.injEq] at h9; exact ⟨g, h9.1⟩
                  subst ha5
                  have e0 := hrow.cell (j := p) (by rw [hflen]; omega)
                  have hgt : gt (fillQ al p) p = gt al p := by rw [fillQ_gt _ _ _ (by have := HASL.out; omega)]; simp
                  obtain ⟨t, ht⟩ : ∃ t, gt al p = t := ⟨_, rfl⟩
                  rw [hgt, ht] at e0
                  have HTT := Lib.hid ht
                  have HROWP := Lib.hid hrow
                  by_cases h1 : t = 1
                  · subst h1
                    have f0 := hrow.free p
                    have hst := hrow.set' p 2
                    have hg3 : wr.grownBy (wr.setCell ⟨g, p, none⟩ (.int .i64 2)) (some g) := grownBy_setAt _ _ _ _
                    have hgb := (hrow.lt g rfl).1
                    have HST := Lib.hid (show Row (wr.setCell ⟨g, p, none⟩ (.int .i64 2)) w9.heap.size 23 .i64 (.slice (some ⟨g, 0, none⟩) l c5) (fillQ al (p + 1)) by
                      rw [fillQ_set HTT.out]
                      exact hst)
                    have HB3 := Lib.hid (HBP.out.grown hg3 HBP.out.size (fun j e => by have := Option.some.inj e; omega))
                    clear hst hg3 hflen hrow hgt ht hgb
                    go_wp2_with fail
                    go_roundw
                    case rel => exact ⟨p + 1, by go_num, by omega, HST.out, HB3⟩
                    case measure => simp [RowKit.intOf]; omega
                  · have h1' : (t == 1) = false := beq_eq_false_iff_ne.2 h1
                    clear hflen hrow hgt ht
                    go_wp2_with fail
                    go_roundw
                    case rel => exact ⟨p + 1, by go_num, by omega, by rw [fillQ_skip (by rw [HTT.out]; exact h1)]; exact HROWP.out, HBP⟩
                    case measure => simp [RowKit.intOf]; omega
                · obtain rfl : p = l := by omega
                  obtain ⟨zs, HZS⟩ : ∃ zs, Hid (allK ms k = zs) := ⟨_, Lib.hid rfl⟩
                  have hzs : fillQ al p = zs := by
                    rw [← HZS.out]
                    unfold allK
                    rw [HAS.out, HLM.out, HML.out]
                  rw [hzs] at hrow
                  have hnone := row_none hrow
                  have HNONE := Lib.hid hnone
                  have HROW20 := Lib.hid hrow
                  have HZL : Hid (zs.length = p) := Lib.hid (by rw [← hzs, fillQ_len]; exact HASL.out)
                  obtain ⟨w20, hw20⟩ : ∃ W, W = wr := ⟨_, rfl⟩
                  subst hw20
                  have HB20 := Lib.hid (HB9.out.trans (HBP.out.mono HB9.out.size))
                  have hgz : goodB zs := by rw [← HZS.out]; exact allK_good HGD.out k
                  have hkn : ∀ y ∈ varsF (.mk op v x gs), valB zs y ≠ 1 := fun y hy => by
                    rw [← HZS.out]
                    exact allK_known (vars_ok _ HIS.out y hy).1 (by rw [HML.out]; exact HKN.out y hy)
                  have HSK := Lib.hid (simp_known hgz HIS.out hkn)
                  have HCZ := Lib.hid (chk2_of hgz HIS.out)
                  have HZK := Lib.hid (show evalF vs (.mk op v x gs) ≠ 1 → evalF zs (.mk op v x gs) = evalF vs (.mk op v x gs) from eval_grows HGV.out hgz (by
                    rw [← HZS.out, ← HMS.out]
                    exact allK_knows (mrgL_knows vs us) k) _ HIS.out)
                  clear hrow hnone hzs hgz hkn
                  obtain ⟨⟨k0, k1, k2, k3⟩, _⟩ := cells4_of ((HB20.out.block B (Array.getElem?_eq_some_iff.1 HBX.out).1).trans HBX.out)
                  have hC := twin_calls _ op v x gs a n cap w20 (Nat.le_refl _) (HF1.out.below HB20.out) (by have := HSZ.out; omega)
                  go_wp2_with fail
                  refine hC.mono ?_
                  rintro e w21 ⟨ta4, tc4, rfl, hFR, b⟩
                  have HT4 := Lib.hid hFR
                  have HB21 := Lib.hid (HB20.out.trans (b.mono HB20.out.size))
                  have HW21 := Lib.hid b
                  clear hC hFR b k0 k1 k2 k3
                  have hrow21 := rows_kept HROW20.out HW21.out
                  obtain ⟨a6, c6, h6, rd6⟩ := hrow21.rd
                  rw [HZL.out] at h6 rd6
                  cases h6
                  have hC := truthsR a5 p c5 zs w21 rd6 HNONE.out (by have := HLM.out; have := HMLB.out; have := HKB.out; omega)
                  go_wp2_with fail
                  refine hC.mono ?_
                  rintro e w22 ⟨za, zc, rfl, rdz, b⟩
                  have HB22 := Lib.hid (HB21.out.trans (b.mono HB21.out.size))
                  have HROW22 := Lib.hid (rows_kept hrow21 b)
                  clear hC rd6 hrow21
                  obtain ⟨t3, Ht3⟩ : ∃ t, Hid (evalF zs (.mk op v x gs) = t) := ⟨_, Lib.hid rfl⟩
                  have hC := Eval_calls op v x gs ta4 n tc4 zs za p zc w22 (HT4.out.keeps (Keeps.of_below b (Nat.le_refl _))).here rdz
                  rw [HCZ.out, if_pos rfl, Ht3.out] at hC
                  have HC := Lib.hid hC
                  clear b hC rdz
                  go_wp2_with fail
                  refine HC.out.mono ?_
                  rintro e w23 ⟨rfl, g⟩
                  have HB23 := Lib.hid (HB22.out.trans (g.below.mono HB22.out.size))
                  have HROW23 := Lib.hid (rows_kept HROW22.out g.below)
                  clear HC g
                  obtain ⟨⟨k0, k1, k2, k3⟩, _⟩ := cells4_of ((HB23.out.block B (Array.getElem?_eq_some_iff.1 HBX.out).1).trans HBX.out)
                  have hC := twin_calls _ op v x gs a n cap w23 (Nat.le_refl _) (HF1.out.below HB23.out) (by have := HSZ.out; omega)
                  go_wp2_with fail
                  refine hC.mono ?_
                  rintro e w24 ⟨ta5, tc5, rfl, hFR, b⟩
                  have HT5 := Lib.hid hFR
                  have HB24 := Lib.hid (HB23.out.trans (b.mono HB23.out.size))
                  have HW24 := Lib.hid b
                  clear hC hFR b k0 k1 k2 k3
                  have hrow24 := rows_kept HROW23.out HW24.out
                  obtain ⟨a6, c6, h6, rd6⟩ := hrow24.rd
                  rw [HZL.out] at h6 rd6
                  cases h6
                  have hC := truthsR a5 p c5 zs w24 rd6 HNONE.out (by have := HLM.out; have := HMLB.out; have := HKB.out; omega)
                  go_wp2_with fail
                  refine hC.mono ?_
                  rintro e w25 ⟨ya, yc, rfl, rdy, b⟩
                  have HB25 := Lib.hid (HB24.out.trans (b.mono HB24.out.size))
                  clear hC rd6 hrow24
                  have hC := Simplify_calls op v x gs ta5 n tc5 zs ya p yc w25 (HT5.out.keeps (Keeps.of_below b (Nat.le_refl _))).here rdy (by have := HSZ.out; omega)
                  unfold SimplW at hC
                  rw [HCZ.out] at hC
                  have HC := Lib.hid hC
                  clear b hC rdy
                  go_wp2_with fail
                  refine HC.out.mono ?_
                  rintro e w26 ⟨aop, av, ax, ass, aa, an, ac, rfl, hre, hFR, b⟩
                  have hre2 : simpF zs (.mk op v x gs) = .mk aop av ax ass := by simpa only [if_true, eq_self_iff_true] using hre
                  rw [HSK.out, Ht3.out] at hre2
                  clear hre
                  have HB26 := Lib.hid (HB25.out.trans (b.mono HB25.out.size))
                  have hab : Below w26.heap.size w26 (w26.alloc (.cells #[.int .i64 aop, .int .i64 av, .int .i64 ax, .slice aa an ac] 26)) := (Below.refl _ _).alloc (Nat.le_refl _) _
                  have hax := heap_alloc_new w26 (.cells #[.int .i64 aop, .int .i64 av, .int .i64 ax, .slice aa an ac] 26)
                  have HAF0 := Lib.hid (hFR.keeps (Keeps.of_below hab (Nat.le_refl _)))
                  clear HC hFR b
                  go_upto_region 29 with fail
                  obtain ⟨w27, hw27⟩ : ∃ w, w26.alloc (.cells #[.int .i64 aop, .int .i64 av, .int .i64 ax, .slice aa an ac] 26) = w := ⟨_, rfl⟩
                  obtain ⟨AB, hAB⟩ : ∃ AB, Hid (w26.heap.size = AB) := ⟨_, Lib.hid rfl⟩
                  rw [hw27] at hab hax HAF0 ⊢
                  rw [hAB.out] at hax ⊢
                  have HB27 := Lib.hid (HB26.out.trans (hab.mono HB26.out.size))
                  have hS := sameF_calls aop av ax ass aa an ac 0 t3 0 [] none 0 0 w27 HAF0.out.here (fitS_nil w27)
                  rw [← hre2, show sameB (cst t3) (.mk 0 t3 0 []) = true from sameB_self _] at hS
                  obtain ⟨⟨a0, a1, a2, a3⟩, _⟩ := cells4_of hax
                  have ht3 : t3 = t2 := by rw [← Ht3.out, ← HE1.out]; exact HZK.out (by rw [HE1.out]; exact ht1)
                  have h71 : (t2 == 1) = false := beq_eq_false_iff_ne.2 ht1
                  clear Ht3
                  subst ht3
                  clear hab hax hw27 HAF0 hre2
                  go_wp2_with fail
                  refine hS.mono ?_
                  rintro e w28 ⟨rfl, g⟩
                  have HBZ := Lib.hid (HB0.out.trans ((HB27.out.trans (g.below.mono HB27.out.size)).mono HB0.out.size))
                  clear hS g a0 a1 a2 a3
                  go_wp2_with fail
                  go_ret
                  exact ⟨by simp, HBZ.out⟩
      · go_wp2_with fail
        have ht : t2 = 0 := by have := Ht2.out; rw [if_neg (by decide)] at this; exact this.symm
        subst ht
        go_ret
        exact ⟨rfl, HBE.out⟩
    · have ht : t1 = 0 := by have := Ht1.out; rw [if_neg (by decide)] at this; exact this.symm
      subst ht
      go_wp2_with fail
      go_ret
      exact ⟨rfl, HBE.out⟩
end Go.Proofs.Ytmdanfeilgeoaaa
