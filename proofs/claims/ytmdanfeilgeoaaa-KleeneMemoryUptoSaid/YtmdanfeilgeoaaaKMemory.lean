/- gimletlaw14.KleeneMemory answers true. Printed by wip/mkmemory.py. -/
import Derived.Test.YtmdanfeilgeoaaaKSSame
import Derived.Test.YtmdanfeilgeoaaaKSSpoil
import Derived.Test.YtmdanfeilgeoaaaKVars2
import Derived.BigQuiet
namespace Gim
open Go Go.RowKit Go.Sort Go.Proofs Go.Lib
theorem Spl.below {lo hi B o n : Nat} {W W2 : World} (h : Spl lo hi B o W W2) (hn : n ≤ lo) (hB : n ≤ B) (hs : n ≤ W.heap.size) : Below n W W2 :=
  ⟨h.os, h.tape, h.output, h.size, fun k hk => h.out k (by omega) (by omega) (by omega)⟩
theorem Row.same {w w2 : World} {B : Nat} {e : TypeId} {k : IntKind} {v : Value} {xs : List Int} (h : Row w B e k v xs) (hs : ∀ g, v.ownBlock = some g → w2.heap[g]? = w.heap[g]?) : Row w2 B e k v xs := by
  refine ⟨h.1, ?_⟩
  rcases h.2 with h2 | ⟨g, cap, cur, a, b, c, d⟩
  · exact .inl h2
  · subst a
    exact .inr ⟨g, cap, cur, rfl, b, (hs g rfl).trans c, d⟩
theorem Row.stays {w w1 : World} {B : Nat} {e : TypeId} {k : IntKind} {v : Value} {xs : List Int} (h : Row w B e k v xs) (hb : Below w.heap.size w w1) : Row w1 B e k v xs :=
  h.same fun g hg => hb.block g (h.lt g hg).2
theorem Row.addr {w : World} {B : Nat} {e : TypeId} {k : IntKind} {ao : Option Addr} {n cap : Nat} {xs : List Int} (h : Row w B e k (.slice ao n cap) xs) (hn : 0 < n) : ∃ g, ao = some ⟨g, 0, none⟩ := by
  rcases h.2 with ⟨h1, _⟩ | ⟨g, c, cur, h1, _⟩
  · simp only [Value.slice.injEq] at h1
    omega
  · simp only [Value.slice.injEq] at h1
    exact ⟨g, h1.1⟩
theorem Row.rd' {w : World} {B : Nat} {e : TypeId} {k : IntKind} {ao : Option Addr} {n cap : Nat} {xs : List Int} (h : Row w B e k (.slice ao n cap) xs) : Rd w k ao n cap xs := by
  obtain ⟨ao', c', e1, rd⟩ := h.rd
  simp only [Value.slice.injEq] at e1
  obtain ⟨rfl, rfl, rfl⟩ := e1
  exact rd
/-- what stands behind a slice's n numbers, once three have been appended -/
structure Tail3 (w : World) (g n : Nat) (k : Int) : Prop where
  lt : g < w.heap.size
  fst : w.cell? ⟨g, n, none⟩ = some (.int .i64 k)
  lst : w.cell? ⟨g, n + 2, none⟩ = some (.int .i64 k)
theorem Tail3.same {w w2 : World} {g n : Nat} {k : Int} (h : Tail3 w g n k) (hs : w.heap.size ≤ w2.heap.size) (he : w2.heap[g]? = w.heap[g]?) : Tail3 w2 g n k :=
  ⟨Nat.lt_of_lt_of_le h.lt hs, by have := h.fst; simp only [World.cell?, he] at this ⊢; exact this, by have := h.lst; simp only [World.cell?, he] at this ⊢; exact this⟩
theorem Tail3.of_row {w : World} {B : Nat} {e : TypeId} {g n c m : Nat} {xs : List Value} {k : Int} (h : w.ownsRow B e 1 (.slice (some ⟨g, 0, none⟩) m c) m (xs ++ [.int .i64 k, .int .i64 k, .int .i64 k])) (hn : xs.length = n) (hg : g < w.heap.size) : Tail3 w g n k := by
  have h0 := World.ownsRow.cells (g := g) h rfl n (.int .i64 k) (by rw [List.getElem?_append_right (by omega), hn, Nat.sub_self]; rfl)
  have h2 := World.ownsRow.cells (g := g) h rfl (n + 2) (.int .i64 k) (by rw [List.getElem?_append_right (by omega), hn, Nat.add_sub_cancel_left]; rfl)
  rw [Addr.add_lit, Nat.zero_add] at h0 h2
  exact ⟨hg, h0, h2⟩
theorem ownsRow_shape {w : World} {B : Nat} {e : TypeId} {v : Value} {n : Nat} {xs : List Value} (h : w.ownsRow B e 1 v n xs) (hn : 0 < n) : ∃ g c, v = .slice (some ⟨g, 0, none⟩) n c ∧ B ≤ g ∧ g < w.heap.size := by
  rcases h.2 with ⟨_, h2⟩ | ⟨g, c, cur, h1, h2, h3, _⟩
  · omega
  · exact ⟨g, c, h1, h2, (Array.getElem?_eq_some_iff.1 h3).1⟩
end Gim
namespace Go.Proofs.Ytmdanfeilgeoaaa
open Go.RowKit Gim Go.Sort Go.Lib
theorem append3 (w : World) {ops : Array Oper} {rest : List Oper} {o : Oper} {a : Act} {Q : Exit → Act → World → Prop} (hg : o.guard = none) (s x : Operand)
    (ho : o.op = .call { callee := .builtin .append, args := #[s, x], argTypes := #[50, 50] }) (B : Nat) (ao : Option Addr) (n cap : Nat) (xs : List Int)
    (hs : a.eval s = .slice ao n cap) (hrow : Row w B 3 .i64 (.slice ao n cap) xs) (k : Int) (hx : a.eval x = .slice (some ⟨w.heap.size, 0, none⟩) 3 3) (hlen : n ≤ 65536)
    (hK : ∀ g c w', Tail3 w' g n k → Gim.Rd w' .i64 ao n cap xs → w.grownBy w' (Value.slice ao n cap).ownBlock → ((Value.slice ao n cap).ownBlock = some g ∨ w.heap.size ≤ g) → wpList Try.prog ops Q rest (a.put o.dst (.slice (some ⟨g, 0, none⟩) (n + 3) c)) w') :
    wpList Try.prog ops Q (o :: rest) a (w.alloc (.cells #[.int .i64 k, .int .i64 k, .int .i64 k] 3)) := by
  obtain ⟨i0, hi, hz0, hz1, hz2⟩ := info_parts info_int
  have hl := hrow.length
  have hba : Below w.heap.size w (w.alloc (.cells #[.int .i64 k, .int .i64 k, .int .i64 k] 3)) := (Below.refl _ _).alloc (Nat.le_refl _) _
  have hga := World.grownBy_alloc w (.cells #[.int .i64 k, .int .i64 k, .int .i64 k] 3) (Value.slice ao n cap).ownBlock
  have hnew := heap_alloc_new w (.cells #[.int .i64 k, .int .i64 k, .int .i64 k] 3)
  have hsz : (w.alloc (.cells #[.int .i64 k, .int .i64 k, .int .i64 k] 3)).heap.size = w.heap.size + 1 := by simp
  have hrd := hrow.rd'.below hba
  obtain ⟨wA, hwA⟩ : ∃ wA, w.alloc (.cells #[.int .i64 k, .int .i64 k, .int .i64 k] 3) = wA := ⟨_, rfl⟩
  rw [hwA] at hba hga hnew hsz hrd ⊢
  have hnews : ∀ j u, ([.int .i64 k, .int .i64 k, .int .i64 k] : List Value)[j]? = some u → wA.cell? ((⟨w.heap.size, 0, none⟩ : Addr).add j) = some u := fun j u hj => by
    rw [Addr.add_lit]
    unfold World.cell?
    rw [hnew]
    simpa using hj
  have hone : ∀ u ∈ ([.int .i64 k, .int .i64 k, .int .i64 k] : List Value), u.oneCell' = true := by
    intro u hu
    simp only [List.mem_cons, List.not_mem_nil, or_false] at hu
    rcases hu with rfl | rfl | rfl <;> rfl
  have hgrow : ∀ v' w', w'.ownsRow wA.heap.size 3 1 v' (n + 3) (xs.map (Value.int .i64) ++ [.int .i64 k, .int .i64 k, .int .i64 k]) → wA.grownBy w' none → wpList Try.prog ops Q rest (a.put o.dst v') w' := fun v' w' h1 h2 => by
    obtain ⟨g, c, rfl, hgB, hgl⟩ := ownsRow_shape h1 (by omega)
    have hb2 : Below wA.heap.size wA w' := ⟨h2.os, h2.tape, h2.output, h2.size, fun j hj => h2.block j hj (fun e => by cases e)⟩
    refine hK g c w' (Tail3.of_row h1 (by rw [List.length_map]; exact hl) hgl) (hrd.below hb2) ?_ (.inr (by omega))
    exact ⟨h2.os.trans hga.os, h2.tape.trans hga.tape, h2.output.trans hga.output, Nat.le_trans hga.size h2.size, fun j hj hne => (h2.block j (by omega) (fun e => by cases e)).trans (hga.block j hj hne)⟩
  rcases hrow.2 with ⟨h1, h2⟩ | ⟨g, c, cur, h1, hgB, hgg, hn, hc, hcs, hct⟩
  · simp only [Value.slice.injEq] at h1
    obtain ⟨rfl, rfl, rfl⟩ := h1
    have hx0 : xs = [] := List.eq_nil_of_length_eq_zero hl
    subst hx0
    exact wpList_append_grows wA hg s x 50 ho 3 i0 _ 1 8 Try.underlying50 hi hz0 hz1 hz2 rfl (by decide) none 0 0 [] hs (fun _ => ⟨rfl, rfl⟩) rfl (fun b hb => by cases hb) ⟨w.heap.size, 0, none⟩ 3 3 _ hx rfl hnews hone (by omega) (by unfold maxLen; omega) (by omega) hgrow
  · simp only [Value.slice.injEq] at h1
    obtain ⟨rfl, h1b, rfl⟩ := h1
    have hgl := (Array.getElem?_eq_some_iff.1 hgg).1
    have hgA : wA.heap[g]? = some (.cells cur 3 (0, 0)) := (hba.block g hgl).trans hgg
    refine wpList_append_arg wA hg s x 50 ho 3 i0 _ 1 8 Try.underlying50 hi hz0 hz1 hz2 rfl (by decide) g 0 n cap (xs.map (Value.int .i64)) hs (by rw [List.length_map, hl, Nat.mul_one]) (fun j u hj => ?_) ⟨w.heap.size, 0, none⟩ 3 3 _ hx rfl hnews hone (fun hr j hj => ?_) (by unfold maxLen; omega) (by omega) (fun hr => ?_) (fun _ => hgrow)
    · rw [Nat.zero_add]
      unfold World.cell?
      rw [hgA]
      have h3 : (cur.toList.take (n * 1))[j]? = some u := by
        rw [← h1b] at hct
        rw [hct]
        exact hj
      rw [List.getElem?_take] at h3
      split at h3
      · simpa using h3
      · cases h3
    · have hj3 : j < 3 := by simpa using hj
      refine ⟨?_, ?_⟩
      · unfold World.cell?
        rw [hgA]
        show (cur[0 + n * 1 + j]?).isSome = true
        rw [Array.getElem?_eq_getElem (by omega)]
        rfl
      · simp [World.frozen?, hgA]
    · have hset : wA.setCells g (0 + n * 1) [.int .i64 k, .int .i64 k, .int .i64 k] = ((wA.setCell ⟨g, n, none⟩ (.int .i64 k)).setCell ⟨g, n + 1, none⟩ (.int .i64 k)).setCell ⟨g, n + 2, none⟩ (.int .i64 k) := by
        rw [Nat.zero_add, Nat.mul_one]
        rfl
      rw [hset]
      have e0 := Go.Joins.block_setCell hgA (i := n) (.int .i64 k)
      have e1 := Go.Joins.block_setCell e0 (i := n + 1) (.int .i64 k)
      have e2 := Go.Joins.block_setCell e1 (i := n + 2) (.int .i64 k)
      have hw : wA.grownBy (((wA.setCell ⟨g, n, none⟩ (.int .i64 k)).setCell ⟨g, n + 1, none⟩ (.int .i64 k)).setCell ⟨g, n + 2, none⟩ (.int .i64 k)) (some g) := World.grownBy.trans (World.grownBy.trans (grownBy_setAt _ _ _ _) (grownBy_setAt _ _ _ _)) (grownBy_setAt _ _ _ _)
      refine hK g cap _ ⟨(Array.getElem?_eq_some_iff.1 e2).1, ?_, ?_⟩ ?_ (World.grownBy.trans hga hw) (.inl rfl)
      · rw [cell_own1 (by omega), cell_own1 (by omega)]
        exact cell_own2 (by unfold World.cell?; rw [hgA]; show (cur[n]?).isSome = true; rw [Array.getElem?_eq_getElem (by omega)]; rfl)
      · refine cell_own2 ?_
        rw [cell_own1 (by omega), cell_own1 (by omega)]
        unfold World.cell?
        rw [hgA]
        show (cur[n + 2]?).isSome = true
        rw [Array.getElem?_eq_getElem (by omega)]
        rfl
      · refine ⟨hrd.len, hrd.le, hrd.cap_le, fun j hj => ?_⟩
        obtain ⟨b, o2, he, hb, hcl⟩ := hrd.cell j hj
        cases he
        refine ⟨g, 0, rfl, Nat.lt_of_lt_of_le hb hw.size, fun i hi2 => ?_⟩
        rw [Nat.zero_add, cell_own1 (by omega), cell_own1 (by omega), cell_own1 (by omega)]
        have := hcl i hi2
        rw [Nat.zero_add] at this
        exact this
theorem truthsW (ao : Option Addr) (n cap : Nat) (xs : List Int) (w : World) (h : Rd w .i64 ao n cap xs) (hnone : ao = none → n = 0 ∧ cap = 0) (hn : n ≤ 17592186044416) :
    Calls Try.prog 11 #[.slice ao n cap] w fun e w' => ∃ a' c', e = .returned (.slice a' n c') ∧ Row w' w.heap.size 23 .i64 (.slice a' n c') xs ∧ Below w.heap.size w w' := by
  refine (truths_calls ao n cap xs w h hnone hn).mono ?_
  rintro e w' ⟨v, rfl, hrow, hb⟩
  obtain ⟨a', c', rfl, rd⟩ := hrow.rd
  rw [h.len] at hrow ⊢
  exact ⟨a', c', rfl, hrow, hb⟩
theorem vars_few (f : Fm) : (if isB f = true then refVars f else []).length ≤ szF f := by
  by_cases h : isB f = true
  · rw [if_pos h, ← vars_law f h]
    refine Nat.le_trans (compact_length_le _) ?_
    rw [List.length_mergeSort]
    exact varsF_len f
  · rw [if_neg h]
    exact Nat.zero_le _
theorem vars_pos (f : Fm) : ∀ y ∈ (if isB f = true then refVars f else []), 0 ≤ y := by
  intro y hy
  by_cases h : isB f = true
  · rw [if_pos h] at hy
    unfold refVars at hy
    obtain ⟨k, _, rfl⟩ := List.mem_map.1 (List.mem_filter.1 hy).1
    omega
  · rw [if_neg h] at hy
    cases hy
theorem varsW (op v x : Int) (gs : List Fm) (a : Option Addr) (n cap : Nat) (w : World) (ce : Int) (L : List Int) (nl : Nat) (hF : FitS w gs a n cap) (hsz : szF (.mk op v x gs) ≤ 549755813888) (hce : chkE (.mk op v x gs) = ce) (hL : (if isB (.mk op v x gs) = true then refVars (.mk op v x gs) else []) = L) (hn : L.length = nl) :
    Calls Try.prog 24 #[.agg #[.int .i64 op, .int .i64 v, .int .i64 x, .slice a n cap]] w fun e w' => ∃ ao cp, e = .returned (.tuple #[.slice ao nl cp, .int .i64 ce]) ∧ Row w' w.heap.size 3 .i64 (.slice ao nl cp) L ∧ Below w.heap.size w w' := by
  refine (kVars2_calls op v x gs a n cap w hF hsz).mono ?_
  rintro e w' ⟨ao, cp, L', rfl, hr, hL', b⟩
  rw [hL] at hL'
  subst hL' hn hce
  exact ⟨ao, cp, rfl, hr, b⟩
set_option maxRecDepth 100000 in
set_option maxHeartbeats 16000000 in
theorem memory_walk (op v x : Int) (gs : List Fm) (a : Option Addr) (n cap : Nat) (va : Option Addr) (vn vc : Nat) (vs : List Int) (w : World)
    (hF : FitS w gs a n cap) (hV : Rd w .i64 va vn vc vs) (hVn : va = none → vn = 0 ∧ vc = 0) (_hVw : ∀ x ∈ vs, (Lit.int .i64 x).wf = true) (hVb : vn ≤ 1048576) :
    Calls Try.prog 5 #[.agg #[.int .i64 op, .int .i64 v, .int .i64 x, .slice a n cap], .slice va vn vc] w fun e w' => e = .returned (.bool true) ∧ Below w.heap.size w w' := by
  have hb0 : Below w.heap.size w (w.alloc (.cells #[.int .i64 op, .int .i64 v, .int .i64 x, .slice a n cap] 26)) := ((Grows.refl _).alloc _).below
  have hbx := heap_alloc_new w (.cells #[.int .i64 op, .int .i64 v, .int .i64 x, .slice a n cap] 26)
  have hF1 := hF.below hb0
  have hV1 := hV.below hb0
  obtain ⟨W1, hW1⟩ : ∃ W1, w.alloc (.cells #[.int .i64 op, .int .i64 v, .int .i64 x, .slice a n cap] 26) = W1 := ⟨_, rfl⟩
  have HSW : Hid (W1.heap.size = w.heap.size + 1) := Lib.hid (by rw [← hW1, World.size_alloc])
  rw [hW1] at hb0 hbx hF1 hV1
  have hGr := great_calls op v x gs a n cap W1 hF1
  have HB0 := Lib.hid hb0
  have HF1 := Lib.hid hF1
  have HV1 := Lib.hid hV1
  have HVN := Lib.hid hVn
  have HBX := Lib.hid hbx
  have HVB := Lib.hid hVb
  have hvb : vn ≤ 9223372036854775807 := by omega
  clear hVb
  obtain ⟨B, hB⟩ : ∃ B, Hid (w.heap.size = B) := ⟨_, Lib.hid rfl⟩
  obtain ⟨⟨k0, k1, k2, k3⟩, _⟩ := cells4_of hbx
  rw [hB.out] at HBX k0 k1 k2 k3
  clear hF hV hb0 hbx hF1 hV1 hVn
  by_cases hr : restF (.mk op v x gs) 65536 < 0
  · rw [decide_eq_true hr] at hGr
    clear hr
    go_enter Try.func5, Try.ntmps5
    go_upto_region 1 with fail
    try rw [hW1]
    try rw [hB.out]
    clear hW1
    go_wp2_with fail
    refine hGr.mono ?_
    rintro e w2 ⟨rfl, g2⟩
    have hX := fixed_calls w2
    have HB2 := Lib.hid (HB0.out.trans (g2.below.mono HB0.out.size))
    clear hGr g2 k0 k1 k2 k3
    go_wp2_with fail
    refine hX.mono ?_
    rintro e w3 ⟨rfl, b3⟩
    have HB3 := Lib.hid (HB2.out.trans (b3.mono HB2.out.size))
    clear hX b3
    go_wp2_with fail
    go_ret
    exact ⟨rfl, HB3.out⟩
  · rw [decide_eq_false hr] at hGr
    have hsz := sz_small hr
    have HSZ := Lib.hid hsz
    clear hr hsz
    go_enter Try.func5, Try.ntmps5
    go_upto_region 1 with fail
    try rw [hW1]
    try rw [hB.out]
    clear hW1
    go_wp2_with fail
    refine hGr.mono ?_
    rintro e w2 ⟨rfl, g2⟩
    have hX := fixed_calls w2
    have HB2 := Lib.hid g2.below
    clear hGr g2 k0 k1 k2 k3
    go_wp2_with fail
    refine hX.mono ?_
    rintro e w3 ⟨rfl, b3⟩
    have HB3 := Lib.hid (HB2.out.trans (b3.mono HB2.out.size))
    clear hX b3
    -- the twin and the list
    obtain ⟨⟨k0, k1, k2, k3⟩, _⟩ := cells4_of ((HB3.out.block B (Array.getElem?_eq_some_iff.1 HBX.out).1).trans HBX.out)
    have hC := twin_calls _ op v x gs a n cap w3 (Nat.le_refl _) (HF1.out.below HB3.out) (by have := HSZ.out; omega)
    go_wp2_with fail
    refine hC.mono ?_
    rintro e w4 ⟨ta, tc, rfl, hFR, b⟩
    have HM4 := Lib.hid hFR
    have HB4 := Lib.hid (HB3.out.trans (b.mono HB3.out.size))
    have HS34 := Lib.hid b.size
    clear hC hFR b k0 k1 k2 k3
    have hC := truthsW va vn vc vs w4 (HV1.out.below HB4.out) HVN.out (by have := HVB.out; omega)
    go_wp2_with fail
    refine hC.mono ?_
    rintro e w5 ⟨la, lc, rfl, rl, b⟩
    have HL5 := Lib.hid rl
    have HB5 := Lib.hid (HB4.out.trans (b.mono HB4.out.size))
    have HS45 := Lib.hid b.size
    have HM5 := Lib.hid (HM4.out.keeps (Keeps.of_below b HM4.out.top))
    have hab : Below w5.heap.size w5 (w5.alloc (.cells #[.int .i64 op, .int .i64 v, .int .i64 x, .slice ta n tc] 26)) := (Below.refl _ _).alloc (Nat.le_refl _) _
    have hax := heap_alloc_new w5 (.cells #[.int .i64 op, .int .i64 v, .int .i64 x, .slice ta n tc] 26)
    have hsz : (w5.alloc (.cells #[.int .i64 op, .int .i64 v, .int .i64 x, .slice ta n tc] 26)).heap.size = w5.heap.size + 1 := by simp
    clear hC b rl
    go_upto_region 6 with fail
    obtain ⟨w6, hw6⟩ : ∃ w6, w5.alloc (.cells #[.int .i64 op, .int .i64 v, .int .i64 x, .slice ta n tc] 26) = w6 := ⟨_, rfl⟩
    obtain ⟨M, hM⟩ : ∃ M, Hid (w5.heap.size = M) := ⟨_, Lib.hid rfl⟩
    rw [hw6] at hab hax hsz ⊢
    rw [hM.out] at hax ⊢
    have HMX := Lib.hid hax
    have HS6 := Lib.hid hsz
    have HB6 := Lib.hid (HB5.out.trans (hab.mono HB5.out.size))
    have HM6 := Lib.hid (HM5.out.keeps (Keeps.of_below hab HM5.out.top))
    have HL6 := Lib.hid (HL5.out.stays hab)
    have HK6 : Hid (Below w6.heap.size w6 w6) := Lib.hid (Below.refl _ _)
    clear hab hax hsz hw6
    obtain ⟨c1, hc1⟩ : ∃ c1, Hid (chk2 vs (.mk op v x gs) = c1) := ⟨_, Lib.hid rfl⟩
    obtain ⟨⟨m0, m1, m2, m3⟩, _⟩ := cells4_of ((HK6.out.block M (Array.getElem?_eq_some_iff.1 HMX.out).1).trans HMX.out)
    have hC := Simplify_calls op v x gs ta n tc vs la vn lc w6 (HM6.out.keeps (Keeps.of_below HK6.out HM6.out.top)).here (HL6.out.stays HK6.out).rd' (by have := HSZ.out; omega)
    unfold SimplW at hC
    rw [hc1.out] at hC
    have HC := Lib.hid hC
    clear hC
    go_wp2_with fail
    refine HC.out.mono ?_
    rintro e w7 ⟨gop, gv, gx, gss, ga, gn, gc, rfl, hre, hFR, b⟩
    have HRE := Lib.hid hre
    clear hre
    have HA7 := Lib.hid hFR
    have HB7 := Lib.hid (HB6.out.trans (b.mono HB6.out.size))
    have HK7 := Lib.hid (HK6.out.trans (b.mono HK6.out.size))
    have HSA7 := Lib.hid b.size
    clear HC hFR b m0 m1 m2 m3
    have hab : Below w7.heap.size w7 (w7.alloc (.cells #[.int .i64 gop, .int .i64 gv, .int .i64 gx, .slice ga gn gc] 26)) := (Below.refl _ _).alloc (Nat.le_refl _) _
    have hax := heap_alloc_new w7 (.cells #[.int .i64 gop, .int .i64 gv, .int .i64 gx, .slice ga gn gc] 26)
    have hsz : (w7.alloc (.cells #[.int .i64 gop, .int .i64 gv, .int .i64 gx, .slice ga gn gc] 26)).heap.size = w7.heap.size + 1 := by simp
    go_upto_region 7 with fail
    obtain ⟨w8, hw8⟩ : ∃ w8, w7.alloc (.cells #[.int .i64 gop, .int .i64 gv, .int .i64 gx, .slice ga gn gc] 26) = w8 := ⟨_, rfl⟩
    obtain ⟨G, hG⟩ : ∃ G, Hid (w7.heap.size = G) := ⟨_, Lib.hid rfl⟩
    rw [hw8] at hab hax hsz ⊢
    rw [hG.out] at hax ⊢
    have HXG := Lib.hid hax
    have HS8 := Lib.hid hsz
    have HB8 := Lib.hid (HB7.out.trans (hab.mono HB7.out.size))
    have HK8 := Lib.hid (HK7.out.trans (hab.mono HK7.out.size))
    have HG8 := Lib.hid (HA7.out.keeps (Keeps.of_below hab HA7.out.top))
    have HQ8 : Hid (Below w8.heap.size w8 w8) := Lib.hid (Below.refl _ _)
    clear hab hax hsz hw8
    obtain ⟨⟨g0, g1, g2, g3⟩, _⟩ := cells4_of HXG.out
    have HSG : Hid (szF (.mk gop gv gx gss) ≤ 549755813888) := Lib.hid (by
      rw [← HRE.out]
      have h1 := HSZ.out
      by_cases hz : c1 = 0
      · rw [if_pos hz]
        have h2 := simp_sz vs _ (chk2_zero (hc1.out.trans hz)).2
        omega
      · rw [if_neg hz]
        simp [cst, szF, szL])
    have hC := twin_calls _ gop gv gx gss ga gn gc w8 (Nat.le_refl _) HG8.out.here (by have := HSG.out; omega)
    go_wp2_with fail
    refine hC.mono ?_
    rintro e w9 ⟨wa, wc, rfl, hFR, b⟩
    have HA9 := Lib.hid hFR
    have HB9 := Lib.hid (HB8.out.trans (b.mono HB8.out.size))
    have HK9 := Lib.hid (HK8.out.trans (b.mono HK8.out.size))
    have HQ9 := Lib.hid (HQ8.out.trans (b.mono HQ8.out.size))
    have HSA9 := Lib.hid b.size
    clear hC hFR b g0 g1 g2 g3
    have hab : Below w9.heap.size w9 (w9.alloc (.cells #[.int .i64 gop, .int .i64 gv, .int .i64 gx, .slice wa gn wc] 26)) := (Below.refl _ _).alloc (Nat.le_refl _) _
    have hax := heap_alloc_new w9 (.cells #[.int .i64 gop, .int .i64 gv, .int .i64 gx, .slice wa gn wc] 26)
    have hsz : (w9.alloc (.cells #[.int .i64 gop, .int .i64 gv, .int .i64 gx, .slice wa gn wc] 26)).heap.size = w9.heap.size + 1 := by simp
    go_upto_region 8 with fail
    obtain ⟨w10, hw10⟩ : ∃ w10, w9.alloc (.cells #[.int .i64 gop, .int .i64 gv, .int .i64 gx, .slice wa gn wc] 26) = w10 := ⟨_, rfl⟩
    obtain ⟨N, hN⟩ : ∃ N, Hid (w9.heap.size = N) := ⟨_, Lib.hid rfl⟩
    rw [hw10] at hab hax hsz ⊢
    rw [hN.out] at hax ⊢
    have HXN := Lib.hid hax
    have HS10 := Lib.hid hsz
    have HB10 := Lib.hid (HB9.out.trans (hab.mono HB9.out.size))
    have HK10 := Lib.hid (HK9.out.trans (hab.mono HK9.out.size))
    have HQ10 := Lib.hid (HQ9.out.trans (hab.mono HQ9.out.size))
    have HW10 := Lib.hid (HA9.out.keeps (Keeps.of_below hab HA9.out.top))
    have HR10 : Hid (Below w10.heap.size w10 w10) := Lib.hid (Below.refl _ _)
    clear hab hax hsz hw10
    obtain ⟨⟨m0, m1, m2, m3⟩, _⟩ := cells4_of ((HK10.out.block M (Array.getElem?_eq_some_iff.1 HMX.out).1).trans HMX.out)
    have hC := Simplify_calls op v x gs ta n tc vs la vn lc w10 (HM6.out.keeps (Keeps.of_below HK10.out HM6.out.top)).here (HL6.out.stays HK10.out).rd' (by have := HSZ.out; omega)
    unfold SimplW at hC
    rw [hc1.out] at hC
    have HC := Lib.hid hC
    clear hC
    go_wp2_with fail
    refine HC.out.mono ?_
    rintro e w11 ⟨gop2, gv2, gx2, gss2, ba, gn2, bc, rfl, hre, hFR, b⟩
    have hee := HRE.out.symm.trans hre
    clear hre
    cases hee
    obtain rfl : gn = gn2 := by
      have h1 := HG8.out.here.len
      have h2 := hFR.here.len
      omega
    have HR11 : Hid (Below w10.heap.size w10 w11) := Lib.hid b
    have HQ11 := Lib.hid (HQ10.out.trans (b.mono HQ10.out.size))
    have HA11 := Lib.hid hFR
    have HB11 := Lib.hid (HB10.out.trans (b.mono HB10.out.size))
    have HK11 := Lib.hid (HK10.out.trans (b.mono HK10.out.size))
    have HSA11 := Lib.hid b.size
    clear HC hFR b m0 m1 m2 m3
    have hab : Below w11.heap.size w11 (w11.alloc (.cells #[.int .i64 gop, .int .i64 gv, .int .i64 gx, .slice ba gn bc] 26)) := (Below.refl _ _).alloc (Nat.le_refl _) _
    have hax := heap_alloc_new w11 (.cells #[.int .i64 gop, .int .i64 gv, .int .i64 gx, .slice ba gn bc] 26)
    have hsz : (w11.alloc (.cells #[.int .i64 gop, .int .i64 gv, .int .i64 gx, .slice ba gn bc] 26)).heap.size = w11.heap.size + 1 := by simp
    go_upto_region 9 with fail
    obtain ⟨w12, hw12⟩ : ∃ w12, w11.alloc (.cells #[.int .i64 gop, .int .i64 gv, .int .i64 gx, .slice ba gn bc] 26) = w12 := ⟨_, rfl⟩
    obtain ⟨E, hE⟩ : ∃ E, Hid (w11.heap.size = E) := ⟨_, Lib.hid rfl⟩
    rw [hw12] at hab hax hsz ⊢
    rw [hE.out] at hax ⊢
    have HXE := Lib.hid hax
    have HS12 := Lib.hid hsz
    have HB12 := Lib.hid (HB11.out.trans (hab.mono HB11.out.size))
    have HK12 := Lib.hid (HK11.out.trans (hab.mono HK11.out.size))
    have HR12 := Lib.hid (HR11.out.trans (hab.mono HR11.out.size))
    have HQ12 := Lib.hid (HQ11.out.trans (hab.mono HQ11.out.size))
    have HE12 := Lib.hid (HA11.out.keeps (Keeps.of_below hab HA11.out.top))
    clear hab hax hsz hw12
    obtain ⟨⟨e0, e1, e2, e3⟩, _⟩ := cells4_of HXE.out
    obtain ⟨⟨q0, q1, q2, q3⟩, _⟩ := cells4_of ((HR12.out.block N (Array.getElem?_eq_some_iff.1 HXN.out).1).trans HXN.out)
    have hS := sameF_calls gop gv gx gss ba gn bc gop gv gx gss wa gn wc w12 HE12.out.here (HW10.out.keeps (Keeps.of_below HR12.out HW10.out.top)).here
    rw [sameB_self] at hS
    go_wp2_with fail
    refine hS.mono ?_
    rintro e w13 ⟨rfl, g⟩
    have b := g.below
    have HB13 := Lib.hid (HB12.out.trans (b.mono HB12.out.size))
    have HK13 := Lib.hid (HK12.out.trans (b.mono HK12.out.size))
    have HQ13 := Lib.hid (HQ12.out.trans (b.mono HQ12.out.size))
    have HR13 := Lib.hid (HR12.out.trans (b.mono HR12.out.size))
    have HE13 := Lib.hid (HE12.out.keeps (Keeps.of_below b HE12.out.top))
    have HXE13 := Lib.hid ((b.block E (Array.getElem?_eq_some_iff.1 HXE.out).1).trans HXE.out)
    have HS13 := Lib.hid b.size
    clear hS g b e0 e1 e2 e3 q0 q1 q2 q3
    have HG13 := Lib.hid (HG8.out.keeps (Keeps.of_below HQ13.out HG8.out.top))
    have HW13 := Lib.hid (HW10.out.keeps (Keeps.of_below HR13.out HW10.out.top))
    have hbx := (HQ13.out.block G (Array.getElem?_eq_some_iff.1 HXG.out).1).trans HXG.out
    have hP := spoil_calls _ gop gv gx gss ga gn gc 3 G 0 w6.heap.size w7.heap.size 26 _ w13 (Nat.le_refl _) HG13.out HSG.out (.inr (by have := hG.out; omega)) hbx (fun m u hm hu => by
      simp only [World.cell?, hbx, Nat.zero_add]
      simpa [cell4] using hu)
    clear hbx
    go_wp2_with fail
    refine hP.mono ?_
    rintro e w14 ⟨rfl, hSp, _⟩
    have z1 := hM.out
    have z2 := HS6.out
    have z3 := HSA7.out
    have z4 := hG.out
    have z5 := HS8.out
    have z6 := HSA9.out
    have z7 := hN.out
    have z8 := HS10.out
    have z9 := HSA11.out
    have z10 := hE.out
    have z11 := HS12.out
    have z12 := HS13.out
    have z13 := HS34.out
    have z14 := HS45.out
    have z15 := HB6.out.size
    have HSP := Lib.hid hSp
    clear hP hSp
    have HB14 := Lib.hid (HB13.out.trans ((HSP.out.below (by omega) (by omega) (by omega)).mono (Nat.le_refl _)))
    have HXM := Lib.hid ((HSP.out.out M (by omega) (.inl (by omega)) (by omega)).trans ((HK13.out.block M (by omega)).trans HMX.out))
    have HXN14 := Lib.hid ((HSP.out.out N (by omega) (.inr (by omega)) (by omega)).trans ((HR13.out.block N (by omega)).trans HXN.out))
    have HXE14 := Lib.hid ((HSP.out.out E (by omega) (.inr (by omega)) (by omega)).trans HXE13.out)
    have HM14 := Lib.hid ((HM6.out.keeps (Keeps.of_below HK13.out HM6.out.top)).keeps (HSP.out.keeps (by omega) (.inl (by omega)) (.inr (by omega))))
    have HW14 := Lib.hid (HW13.out.keeps (HSP.out.keeps (by omega) (.inr (by omega)) (.inl (by omega))))
    have HE14 := Lib.hid (HE13.out.keeps (HSP.out.keeps (by omega) (.inr (by omega)) (.inl (by omega))))
    have HL14 := Lib.hid ((HL6.out.stays HK13.out).same (fun g hg => by
      have h1 := HL5.out.lt g hg
      exact HSP.out.out g (by omega) (.inl (by omega)) (by omega)))
    have HZ14 : Hid (Below w14.heap.size w14 w14) := Lib.hid (Below.refl _ _)
    have HSZ14 := Lib.hid HSP.out.size
    clear z1 z2 z3 z4 z5 z6 z7 z8 z9 z10 z11 z12 z13 z14 z15
    obtain ⟨⟨m0, m1, m2, m3⟩, _⟩ := cells4_of HXM.out
    obtain ⟨⟨k0, k1, k2, k3⟩, _⟩ := cells4_of ((HB14.out.block B (Array.getElem?_eq_some_iff.1 HBX.out).1).trans HBX.out)
    have hS := sameF_calls op v x gs ta n tc op v x gs a n cap w14 HM14.out.here (HF1.out.below HB14.out)
    rw [sameB_self] at hS
    go_wp2_with fail
    refine hS.mono ?_
    rintro e w15 ⟨rfl, g⟩
    have HB15 := Lib.hid (HB14.out.trans (g.below.mono HB14.out.size))
    have HZ15 := Lib.hid g.below
    clear hS g m0 m1 m2 m3 k0 k1 k2 k3
    obtain ⟨⟨e0, e1, e2, e3⟩, _⟩ := cells4_of ((HZ15.out.block E (Array.getElem?_eq_some_iff.1 HXE14.out).1).trans HXE14.out)
    obtain ⟨⟨q0, q1, q2, q3⟩, _⟩ := cells4_of ((HZ15.out.block N (Array.getElem?_eq_some_iff.1 HXN14.out).1).trans HXN14.out)
    have hS := sameF_calls gop gv gx gss ba gn bc gop gv gx gss wa gn wc w15 (HE14.out.keeps (Keeps.of_below HZ15.out HE14.out.top)).here (HW14.out.keeps (Keeps.of_below HZ15.out HW14.out.top)).here
    rw [sameB_self] at hS
    go_wp2_with fail
    refine hS.mono ?_
    rintro e w16 ⟨rfl, g⟩
    have HB16 := Lib.hid (HB15.out.trans (g.below.mono HB15.out.size))
    have HZ16 := Lib.hid (HZ15.out.trans (g.below.mono HZ15.out.size))
    clear hS g e0 e1 e2 e3 q0 q1 q2 q3
    have hC := equal_calls la va vn lc vc vs w16 (HL14.out.stays HZ16.out).rd' (HV1.out.below HB16.out)
    go_wp2_with fail
    refine hC.mono ?_
    rintro e w17 ⟨rfl, dr⟩
    have HB17 := Lib.hid (HB16.out.trans ((dr.below _).mono HB16.out.size))
    have HZ17 := Lib.hid (HZ16.out.trans ((dr.below _).mono HZ16.out.size))
    clear hC dr
    obtain ⟨ce, hce⟩ : ∃ ce, Hid (chkE (.mk op v x gs) = ce) := ⟨_, Lib.hid rfl⟩
    obtain ⟨L, hL⟩ : ∃ L, Hid ((if isB (.mk op v x gs) = true then refVars (.mk op v x gs) else []) = L) := ⟨_, Lib.hid rfl⟩
    obtain ⟨nl, hnl⟩ : ∃ nl, Hid (L.length = nl) := ⟨_, Lib.hid rfl⟩
    have hns : nl ≤ 65536 := by
      have h1 := vars_few (.mk op v x gs)
      have h2 := HSZ.out
      rw [hL.out, hnl.out] at h1
      omega
    have hnb : nl ≤ 9223372036854775807 := by omega
    have HNS := Lib.hid hns
    have HPOS : Hid (∀ y ∈ L, 0 ≤ y) := Lib.hid (by rw [← hL.out]; exact vars_pos _)
    clear hns
    obtain ⟨⟨m0, m1, m2, m3⟩, _⟩ := cells4_of ((HZ17.out.block M (Array.getElem?_eq_some_iff.1 HXM.out).1).trans HXM.out)
    have hC := varsW op v x gs ta n tc w17 ce L nl (HM14.out.keeps (Keeps.of_below HZ17.out HM14.out.top)).here (by have := HSZ.out; omega) hce.out hL.out hnl.out
    have HC := Lib.hid hC
    clear hC
    go_wp2_with fail
    refine HC.out.mono ?_
    rintro e w18 ⟨xa, xc, rfl, hrow, b⟩
    have HX18 := Lib.hid hrow
    have HB18 := Lib.hid (HB17.out.trans (b.mono HB17.out.size))
    have HZ18 := Lib.hid (HZ17.out.trans (b.mono HZ17.out.size))
    have HT18 := Lib.hid b.size
    clear HC hrow b m0 m1 m2 m3
    obtain ⟨⟨m0, m1, m2, m3⟩, _⟩ := cells4_of ((HZ18.out.block M (Array.getElem?_eq_some_iff.1 HXM.out).1).trans HXM.out)
    have hC := varsW op v x gs ta n tc w18 ce L nl (HM14.out.keeps (Keeps.of_below HZ18.out HM14.out.top)).here (by have := HSZ.out; omega) hce.out hL.out hnl.out
    have HC := Lib.hid hC
    clear hC
    go_wp2_with fail
    refine HC.out.mono ?_
    rintro e w19 ⟨ya, yc, rfl, hrow, b⟩
    have HY19 := Lib.hid hrow
    have HX19 := Lib.hid (HX18.out.stays b)
    have HB19 := Lib.hid (HB18.out.trans (b.mono HB18.out.size))
    have HZ19 := Lib.hid (HZ18.out.trans (b.mono HZ18.out.size))
    have HT19 := Lib.hid b.size
    clear HC hrow b m0 m1 m2 m3
    obtain ⟨ox, hox⟩ : ∃ ox, Hid ((Value.slice xa nl xc).ownBlock = ox) := ⟨_, Lib.hid rfl⟩
    have HOX : Hid (∀ g, ox = some g → w17.heap.size ≤ g ∧ g < w18.heap.size) := Lib.hid (by rw [← hox.out]; exact HX18.out.lt)
    obtain ⟨oy, hoy⟩ : ∃ oy, Hid ((Value.slice ya nl yc).ownBlock = oy) := ⟨_, Lib.hid rfl⟩
    have HOY : Hid (∀ g, oy = some g → w18.heap.size ≤ g ∧ g < w19.heap.size) := Lib.hid (by rw [← hoy.out]; exact HY19.out.lt)
    go_wp2_with fail
    go_loopw [84] (fun i wr => ∃ (q : Nat), i = .int .i64 q ∧ q ≤ nl ∧ Hid (∃ xs, Row wr w17.heap.size 3 .i64 (.slice xa nl xc) xs ∧ w19.grownBy wr ox)) (fun i _ => nl - (RowKit.intOf i).toNat)
    case atStart => exact ⟨0, rfl, Nat.zero_le _, Lib.hid ⟨L, HX19.out, ⟨rfl, rfl, rfl, Nat.le_refl _, fun _ _ _ => rfl⟩⟩⟩
    case round =>
      obtain ⟨q, rfl, hq, HM⟩ := hrel
      obtain ⟨xs, hxr, hxg⟩ := HM.out
      by_cases hqn : q < nl
      · have hqn' : (q : Int) < nl := by omega
        have hq0 : (0 : Int) ≤ q := by omega
        obtain ⟨g, rfl⟩ := hxr.addr (by omega)
        have hl := hxr.length
        have k1 := hxr.cell (j := q) (by omega)
        have k2 := hxr.free q
        obtain ⟨t, ht⟩ : ∃ t, gt xs q = t := ⟨_, rfl⟩
        rw [ht] at k1
        have HXR := Lib.hid hxr
        have HXG := Lib.hid hxg
        clear hxr hxg ht hl
        go_wp2_with fail
        go_roundw
        case rel =>
          refine ⟨q + 1, by go_num, by omega, Lib.hid ⟨_, HXR.out.set' q (-1), World.grownBy.trans HXG.out ?_⟩⟩
          rw [← hox.out]
          exact grownBy_setAt _ _ _ _
        case measure => simp [RowKit.intOf]; omega
      · obtain rfl : q = nl := by omega
        obtain ⟨w20, hw20⟩ : ∃ w20, w20 = wr := ⟨_, rfl⟩
        subst hw20
        have HXR := Lib.hid hxr
        have HXG2 := Lib.hid hxg
        have HY20 := Lib.hid (HY19.out.same (fun g hg => by
          have hg : oy = some g := hoy.out.symm.trans hg
          have h1 := HOY.out g hg
          exact hxg.block g h1.2 (fun e => by have := HOX.out g e.symm; omega)))
        have HT20 := Lib.hid hxg.size
        have HZ20 := Lib.hid (HZ19.out.grown hxg HZ19.out.size (fun j e => by have h1 := HOX.out j e; have h2 := HZ17.out.size; omega))
        have HB20 := Lib.hid (HB19.out.grown hxg HB19.out.size (fun j e => by have h1 := HOX.out j e; have h2 := HB17.out.size; omega))
        clear hxr hxg HM
        go_upto_region 23 with (first
          | (at_builtin; refine append3 w20 rfl _ _ rfl w17.heap.size xa q xc xs rfl HXR.out 7 rfl (by have := HNS.out; omega) ?_; intro g1 p1 w21 ht1 _ hgr1 hat1;
             have HG1 := Lib.hid hgr1; have HA1 := Lib.hid hat1; have HP1 := Lib.hid ht1;
             have HY21 := Lib.hid (HY20.out.same (fun g hg => by
               have hg : oy = some g := hoy.out.symm.trans hg
               have h1 := HOY.out g hg
               have h2 := HT20.out
               exact hgr1.block g (by omega) (fun e => by
                 rw [hox.out] at e
                 have := HOX.out g e.symm
                 omega)));
             clear ht1 hgr1 hat1)
          | (at_builtin; refine append3 w21 rfl _ _ rfl w18.heap.size ya q yc L rfl HY21.out 8 rfl (by have := HNS.out; omega) ?_; intro g2 p2 w22 ht2 hrd2 hgr2 hat2;
             have HG2 := Lib.hid hgr2; have HA2 := Lib.hid hat2; have HP2 := Lib.hid ht2; have HD2 := Lib.hid hrd2;
             clear ht2 hgr2 hat2 hrd2))
        have ha1 : ox = some g1 ∨ w20.heap.size ≤ g1 := by have := HA1.out; rw [hox.out] at this; exact this
        have ha2 : oy = some g2 ∨ w21.heap.size ≤ g2 := by have := HA2.out; rw [hoy.out] at this; exact this
        have hg1 : w20.grownBy w21 ox := by have := HG1.out; rw [hox.out] at this; exact this
        have hg2 : w21.grownBy w22 oy := by have := HG2.out; rw [hoy.out] at this; exact this
        have t1 := HT18.out
        have t2 := HT19.out
        have t3 := HT20.out
        have t4 := hg1.size
        have t5 := hg2.size
        have t6 := HZ17.out.size
        have t7 := HB17.out.size
        have HX1 := Lib.hid (HP1.out.same t5 (hg2.block g1 HP1.out.lt (fun e => by
          have h1 := HOY.out g1 e.symm
          rcases ha1 with h2 | h2
          · have := HOX.out g1 h2; omega
          · omega)))
        have HZ21 := Lib.hid (HZ20.out.grown hg1 HZ20.out.size (fun j e => by have h1 := HOX.out j e; omega))
        have HZ22 := Lib.hid (HZ21.out.grown hg2 HZ21.out.size (fun j e => by have h1 := HOY.out j e; omega))
        have HB21 := Lib.hid (HB20.out.grown hg1 HB20.out.size (fun j e => by have h1 := HOX.out j e; omega))
        have HB22 := Lib.hid (HB21.out.grown hg2 HB21.out.size (fun j e => by have h1 := HOY.out j e; omega))
        clear ha1 ha2 hg1 hg2 t1 t2 t3 t4 t5 t6 t7
        obtain ⟨⟨m0, m1, m2, m3⟩, _⟩ := cells4_of ((HZ22.out.block M (Array.getElem?_eq_some_iff.1 HXM.out).1).trans HXM.out)
        have hC := varsW op v x gs ta n tc w22 ce L q (HM14.out.keeps (Keeps.of_below HZ22.out HM14.out.top)).here (by have := HSZ.out; omega) hce.out hL.out hnl.out
        have HC := Lib.hid hC
        clear hC
        go_wp2_with fail
        refine HC.out.mono ?_
        rintro e w23 ⟨za, zc, rfl, hrow, b⟩
        have HZR := Lib.hid hrow.rd'
        have HYR := Lib.hid (HD2.out.below b)
        have HB23 := Lib.hid (HB22.out.trans (b.mono HB22.out.size))
        have HX2 := Lib.hid (HX1.out.same b.size (b.block g1 HX1.out.lt))
        have HX3 := Lib.hid (HP2.out.same b.size (b.block g2 HP2.out.lt))
        clear HC hrow b m0 m1 m2 m3
        go_wp2_with fail
        go_loopw [124] (fun i wr => ∃ (r : Nat), i = .int .i64 r ∧ r ≤ q ∧ Drew w23 wr) (fun i _ => q - (RowKit.intOf i).toNat)
        case atStart => exact ⟨0, rfl, Nat.zero_le _, Drew.refl _⟩
        case round =>
          obtain ⟨r, rfl, hrq, hd⟩ := hrel
          by_cases hrn : r < q
          · have hrn' : (r : Int) < q := by omega
            have hr0 : (0 : Int) ≤ r := by omega
            obtain ⟨b1, o1, rfl, _, hc1⟩ := (HYR.out.below (hd.below _)).cell r hrn
            obtain ⟨b2, o2, rfl, _, hc2⟩ := (HZR.out.below (hd.below _)).cell r hrn
            have k1 := hc1 r hrn
            have k2 := hc2 r hrn
            have hp := HPOS.out (gt L r) (by
              unfold gt
              have hl : r < L.length := by rw [hnl.out]; exact hrn
              rw [List.getElem?_eq_getElem hl]
              exact List.getElem_mem hl)
            obtain ⟨t, ht⟩ : ∃ t, gt L r = t := ⟨_, rfl⟩
            rw [ht] at k1 k2 hp
            have hp2 : ¬ t < 0 := by omega
            have hp3 : decide (t < 0) = false := decide_eq_false hp2
            clear ht hc1 hc2
            go_upto_region 29 with fail
            go_quiet (fail)
            go_wp2_with fail
            go_roundw
            case rel => exact ⟨r + 1, by go_num, by omega, hd.drewN _⟩
            case measure => simp [RowKit.intOf]; omega
          · obtain rfl : r = q := by omega
            obtain ⟨m, hm⟩ : ∃ m, Hid (m = r + 2) := ⟨_, Lib.hid rfl⟩
            have hws : IntKind.i64.wrap ((r : Int) + 2) = m := by have := hm.out; have := HNS.out; simp [IntKind.wrap, IntKind.bits, IntKind.signed]; omega
            have hws2 : wrap64 ((r : Int) + 2) = m := by have := hm.out; have := HNS.out; unfold wrap64; omega
            have hr0 : (0 : Int) ≤ r := by omega
            have hra : (r : Int) < (r : Int) + 3 := by omega
            have hm0 : (0 : Int) ≤ m := by omega
            have hma : (m : Int) < (r : Int) + 3 := by have := hm.out; omega
            have hb := hd.below wr.heap.size
            have hl1 := HX2.out.same (hd.below 0).size ((hd.below w23.heap.size).block g1 HX2.out.lt)
            have hl2 := HX3.out.same (hd.below 0).size ((hd.below w23.heap.size).block g2 HX3.out.lt)
            have a1 := hl1.fst
            have a2 := hl1.lst
            have a3 := hl2.fst
            have a4 := hl2.lst
            rw [← hm.out] at a2 a4
            have HBF := Lib.hid (HB0.out.trans ((HB23.out.trans ((hd.below _).mono (Nat.le_refl _) |>.mono HB23.out.size)).mono HB0.out.size))
            clear hl1 hl2 hb hd
            go_wp2_with fail
            go_ret
            exact ⟨rfl, HBF.out⟩
end Go.Proofs.Ytmdanfeilgeoaaa
