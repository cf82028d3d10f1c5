/- The walk of gimletlaw02.CharsAll. -/
import Derived.Test.YtbbfifaojepjiaaDoorNames
import Derived.Test.YtbbfifaojepjiaaDoorCAll
import Derived.Deep.RegionHeld3
import Derived.Deep.LoopGhost
import Derived.Deep.CutRange
import Derived.Deep.CutBlock
import Derived.RangeFuncBox
namespace Gim
open Go Go.RowKit
/-- what is asked of each way out but a panic, and of a panic nothing can be -/
def NoP (Q : Exit → Act → World → Prop) : Exit → Act → World → Prop
  | .panic _, _, _ => False
  | e, a, w => Q e a w
theorem NoP.imp {Q : Exit → Act → World → Prop} : ∀ e a w, NoP Q e a w → Q e a w := by
  intro e a w h
  cases e <;> first | exact h | exact h.elim
theorem prefix_snoc {α : Type} {pre L : List α} {x : α} (h : pre <+: L) : pre ++ [x] <+: L ↔ L[pre.length]? = some x := by
  obtain ⟨t, rfl⟩ := h
  rw [List.prefix_append_right_inj]
  simp only [List.getElem?_append_right (Nat.le_refl _), Nat.sub_self]
  cases t with
  | nil => simp
  | cons a t => simp [List.cons_prefix_cons, eq_comm]
theorem others_of_below {A B : World} (h : Below A.heap.size A B) : KeepsOthers A B := ⟨h.size, fun j _ ho _ => (h.block j (Array.getElem?_eq_some_iff.1 ho).1).trans ho⟩
theorem ownFrom_imp {β : Type} {B : Nat} {p : β → Prop} {I : β → World → Prop} (h : OwnFrom B I) : OwnFrom B (fun s W => p s → I s W) := fun s X Y row hs hg hr hp => h s X Y row (hs hp) hg hr
theorem last_ge {l : List (Int × Int)} {pre : List Int} (hr : rising 0 l = true) (hp : pre <+: elems l) : -1 ≤ pre.getLastD (-1) := by
  rcases List.eq_nil_or_concat pre with rfl | ⟨q, y, rfl⟩
  · exact Int.le_refl _
  · have hy : y ∈ elems l := hp.subset (by simp)
    have := elems_mem hr hy
    rw [List.concat_eq_append, List.getLastD_concat]
    omega
theorem next_at {l pre : List Int} {c : List (Int × Int)} (hr : rising 0 c = true) (he : elems c = l) (hp : pre <+: l) (hlt : pre.length < l.length) : ∃ y, l[pre.length]? = some y ∧ nextC c (pre.getLastD (-1)) = (y, true) := by
  obtain ⟨t, ht⟩ := hp
  cases t with
  | nil => rw [List.append_nil] at ht; subst ht; omega
  | cons y t =>
    refine ⟨y, by rw [← ht]; simp, ?_⟩
    exact next_elems (l := c) (b := 0) (last0 := -1) (pre := pre) (post := t) hr (by omega) (by rw [he, ht])
theorem wrap_mod (st : Int) : ∃ m : Int, 0 ≤ m ∧ m < 2000 ∧ (IntKind.u64.wrap st).tmod 2000 = m := by
  have h : 0 ≤ IntKind.u64.wrap st := by
    unfold IntKind.wrap
    simp only [IntKind.signed, IntKind.bits, Bool.false_and, Bool.false_eq_true, if_false]
    exact Int.emod_nonneg _ (by decide)
  exact ⟨(IntKind.u64.wrap st).tmod 2000, by rw [Int.tmod_eq_emod_of_nonneg h]; omega, by rw [Int.tmod_eq_emod_of_nonneg h]; omega, rfl⟩
theorem k_pos {a k : Nat} (h : a + k = 2) (h2 : a < 2) : k - 1 < k ∧ a + 1 + (k - 1) = 2 := by omega
theorem wrap64_small {x : Int} (h : 0 ≤ x) (h2 : x ≤ 4000) : wrap64 x = x := by unfold wrap64; omega
end Gim
namespace Go.Proofs.YtbbfifaojepjiaaDoor
open Go.RowKit Go.Shelf Gim
attribute [local go_sem] Oper.semAt_some
set_option maxRecDepth 100000 in
set_option maxHeartbeats 8000000 in
theorem charsAll_walk (c st : Int) (w : World) (hT : Laid w) :
    Calls Tryd.prog 3 #[.int .i64 c, .int .i64 st] w fun e w' => e = .returned (.bool true) ∧ Below w.heap.size w w' := by
  refine (callsIn_wide (n := 6)).1 (callsIn_of_wp_marks Tryd.func3 rfl trivial ?_ rfl)
  refine wpIn_wide.2 (Code.wp_mono NoP.imp ?_)
  simp only [Tryd.ntmps3, List.size_toArray, List.length_cons, List.length_nil, Nat.reduceAdd, Nat.reduceSub, Array.replicate_succ, Array.replicate_zero, List.push_toArray, List.append_toArray, List.nil_append, List.cons_append]
  have b0 : Below w.heap.size w ((w.alloc (.cells #[.int .i64 st] 3)).alloc (.cells #[.bool false] 4)) := ((Below.refl w.heap.size w).alloc (Nat.le_refl _) _).alloc (by simp) _
  have HT := Lib.hid hT
  clear hT
  obtain ⟨m, m0, m1, hm⟩ := wrap_mod st
  have hm2 : wrap64 m = m := wrap64_small m0 (by omega)
  have hm3 : wrap64 (1 + m) = 1 + m := wrap64_small (by omega) (by omega)
  go_upto_region 1 with fail
  go_wp2_with fail
  refine (fixed_calls _ (HT.out.below b0)).mono ?_
  rintro E w1 ⟨rfl, b1⟩
  have sB : Boxed w1 w.heap.size 3 (.int .i64 st) := (b1.block w.heap.size (by simp; omega)).trans ((heap_alloc_old _ _ (by simp)).trans (heap_alloc_new _ _))
  have rB : Boxed w1 (w.heap.size + 1) 4 (.bool false) := (b1.block (w.heap.size + 1) (by simp)).trans (by have := heap_alloc_new (w.alloc (.cells #[.int .i64 st] 3)) (.cells #[.bool false] 4); rw [World.size_alloc] at this; exact this)
  have B1 := Lib.hid (b0.trans (b1.mono (by simp; omega)))
  have hsz := b1.size
  clear b0 b1
  have cS := sB.cell
  have fS := sB.frozen
  go_upto_region 4 with fail
  have sB2 := sB.set (.int .i64 (1 + m))
  have rB2 := rB.other (B' := w.heap.size) (by omega) (.int .i64 (1 + m))
  have b2 := B1.out.setCell (p := ⟨w.heap.size, 0, none⟩) (Nat.le_refl _) (.int .i64 (1 + m))
  obtain ⟨w2, hw2⟩ : ∃ w2, w1.setCell ⟨w.heap.size, 0, none⟩ (.int .i64 (1 + m)) = w2 := ⟨_, rfl⟩
  rw [hw2] at sB2 rB2 b2 ⊢
  clear hw2 sB rB B1 cS fS hsz
  have sB3 := sB2.alloc (.cells #[.int .i64 c] 24)
  have rB3 := rB2.alloc (.cells #[.int .i64 c] 24)
  have cB3 := Boxed.new w2 24 (.int .i64 c)
  have b3 := b2.alloc b2.size (.cells #[.int .i64 c] 24)
  have hsz2 : w2.heap.size + 1 = (w2.alloc (.cells #[.int .i64 c] 24)).heap.size := by simp
  go_upto_region 5 with fail
  obtain ⟨CB, hCB⟩ : ∃ CB, w2.heap.size = CB := ⟨_, rfl⟩
  obtain ⟨w3, hw3⟩ : ∃ w3, w2.alloc (.cells #[.int .i64 c] 24) = w3 := ⟨_, rfl⟩
  rw [hw3] at sB3 rB3 cB3 b3 hsz2 ⊢
  rw [hCB] at cB3 hsz2 ⊢
  clear hw3 hCB sB2 rB2 b2
  have HB3 := Lib.hid b3
  have HSZ2 := Lib.hid hsz2
  clear b3 hsz2
  go_wp2_with fail
  refine wp_loop_ghost_k (fun k a W => ∃ (ds : List Nat) (v6 v7 v20 v21 v22 v48 v49 v50 v51 v52 v53 v54 : Value), a = { tmps := #[.int .i64 c, .int .i64 st, undef, .pointer (some ⟨w.heap.size, 0, none⟩), .pointer (some ⟨w.heap.size + 1, 0, none⟩), .pointer (some ⟨CB, 0, none⟩), v6, v7, undef, undef, undef, .bool true, .bool false, .int .i64 st, .int .u64 (IntKind.u64.wrap st), .int .u64 m, .int .i64 m, .int .i64 (1 + m), .int .i64 c, .int .i64 (ds.length : Nat), v20, v21, v22, undef, undef, undef, undef, undef, undef, undef, undef, undef, undef, undef, undef, undef, undef, undef, undef, undef, undef, undef, undef, undef, undef, undef, undef, undef, v48, v49, v50, v51, v52, v53, v54], defers := ds.map fun D => { target := .collected D, args := #[] } } ∧ ds.length + k = 2 ∧ (∀ D ∈ ds, w3.heap.size ≤ D ∧ D < W.heap.size ∧ W.heap[D]? = some (.deferred (some []))) ∧ ds.Nodup ∧ Below w3.heap.size w3 W) 2 ⟨[], undef, undef, undef, undef, undef, undef, undef, undef, undef, undef, undef, undef, rfl, rfl, by simp, List.nodup_nil, Below.refl _ _⟩ ?_
  clear hm hm2 hm3
  rintro k a W ⟨ds, v6, v7, v20, v21, v22, v48, v49, v50, v51, v52, v53, v54, rfl, hk, hD, hnd, hb⟩ J K hJ hK
  have HJ := Lib.hid hJ
  have HK := Lib.hid hK
  have HD := Lib.hid hD
  have HND := Lib.hid hnd
  clear hJ hK hD hnd
  have sB := (hb.block _ sB3.lt).trans sB3
  have rB := (hb.block _ rB3.lt).trans rB3
  have cB := (hb.block _ cB3.lt).trans cB3
  by_cases hi : ds.length < 2
  · have hi' : (ds.length : Int) < 2 := by omega
    have nB := (Boxed.new W 3 (.int .i64 0)).alloc (.cells #[.int .i32 (-1)] 21)
    have lB := Boxed.new (W.alloc (.cells #[.int .i64 0] 3)) 21 (.int .i32 (-1))
    rw [World.size_alloc] at lB
    go_upto_region 9 with fail
    have cC : ((W.alloc (.cells #[.int .i64 0] 3)).alloc (.cells #[.int .i32 (-1)] 21)).cell? ⟨CB, 0, none⟩ = some (.int .i64 c) := (Boxed.alloc (Boxed.alloc (show Boxed W CB 24 (.int .i64 c) from cB) _) _).cell
    go_wp2_with fail
    refine ((callsIn_wide (n := 5)).1 (cAll_in 5 c _)).mono ?_
    rintro E wx ⟨rfl, rfl⟩
    have nB2 := nB.alloc (.cells #[.int .i64 c] 24)
    have lB2 := lB.alloc (.cells #[.int .i64 c] 24)
    have cB2 := Boxed.new ((W.alloc (.cells #[.int .i64 0] 3)).alloc (.cells #[.int .i32 (-1)] 21)) 24 (.int .i64 c)
    have bR : Below W.heap.size W (((W.alloc (.cells #[.int .i64 0] 3)).alloc (.cells #[.int .i32 (-1)] 21)).alloc (.cells #[.int .i64 c] 24)) := (((Below.refl _ _).alloc (Nat.le_refl _) _).alloc (by simp) _).alloc (by simp; omega) _
    have hsR : (((W.alloc (.cells #[.int .i64 0] 3)).alloc (.cells #[.int .i32 (-1)] 21)).alloc (.cells #[.int .i64 c] 24)).heap.size = W.heap.size + 3 := by simp
    have hs2 : ((W.alloc (.cells #[.int .i64 0] 3)).alloc (.cells #[.int .i32 (-1)] 21)).heap.size = W.heap.size + 2 := by simp
    clear nB lB cC
    go_wp2_with fail
    obtain ⟨NB, hNB⟩ : ∃ NB, W.heap.size = NB := ⟨_, rfl⟩
    obtain ⟨WR, hWR⟩ : ∃ WR, ((W.alloc (.cells #[.int .i64 0] 3)).alloc (.cells #[.int .i32 (-1)] 21)).alloc (.cells #[.int .i64 c] 24) = WR := ⟨_, rfl⟩
    rw [hWR] at nB2 lB2 cB2 bR hsR ⊢
    rw [hs2] at cB2
    simp only [hNB] at nB2 lB2 cB2 bR hsR hs2 ⊢
    have HBR := Lib.hid bR
    have HSR := Lib.hid hsR
    have HNB := Lib.hid hNB
    have hsW := hb.size
    have hrise := cls_rising c
    clear hWR hs2 bR hsR hNB
    refine (wpIn_wide (n := 6)).1 ?_
    apply wpIn_rangeFunc_ownF (encs := fun x : Int => #[.int .i32 x]) (Kp := KpC w.heap.size WR.heap.size) rfl (by omega) (gf := 21) (lb := #[.pointer (some ⟨NB + 2, 0, none⟩)]) rfl trivial (enters_of Tryd.func21 (by kernel_rfl) rfl)
      (cAll_stops 5 (by omega) (NB + 2) WR.heap.size c w WR HT.out.tab (HB3.out.trans ((hb.trans ((show Below W.heap.size W WR by have := HBR.out; rw [← HNB.out] at this; exact this).mono hb.size)).mono HB3.out.size)) (Nat.le_refl _) (by have := HSR.out; omega) cB2.cell) kpC_t (kpC_b (Nat.le_trans (Nat.le_trans HB3.out.size hb.size) (show W.heap.size ≤ WR.heap.size by have h1 := HSR.out; have h2 := HNB.out; omega))) (Below.refl _ _) (fun _ => rfl)
      (fun pre W' => ((Boxed W' NB 3 (.int .i64 (pre.length : Nat)) ∧ Boxed W' (NB + 1) 21 (.int .i32 (pre.getLastD (-1)))) ∧ ((pre.length : Int) < 1 + m ∧ pre <+: elems (cls c))) ∧ Below NB W W')
      (fun cde pre W' => pre <+: elems (cls c) → (cde = .exit 2 ∧ (pre.length : Int) = 1 + m) ∧ (Boxed W' NB 3 (.int .i64 (1 + m)) ∧ Below NB W W'))
      (OwnFrom.and (OwnFrom.and (OwnFrom.and (Own.from (boxed_own _ _ _) _) (Own.from (boxed_own _ _ _) _)) (ownFrom_pure _ _)) (ownFrom_below (by rw [HNB.out]; exact Nat.le_refl _) (by have := HSR.out; omega)))
      (fun cde => ownFrom_imp (OwnFrom.and (ownFrom_pure _ _) (OwnFrom.and (Own.from (boxed_own _ _ fun _ => _) _) (ownFrom_below (by rw [HNB.out]; exact Nat.le_refl _) (by have := HSR.out; omega)))))
      ?h0
    case hassign =>
      intro l x W K hK
      gi_wp2
      exact hK
    case h0 => exact ⟨⟨⟨nB2, lB2⟩, by simp; omega, List.nil_prefix⟩, HBR.out⟩
    case hbody =>
      rintro l pre x W' ⟨⟨⟨hN, hL⟩, hlt, hP⟩, hB⟩ hlen
      have hB' : Below W.heap.size W W' := by have := hB; rw [← HNB.out] at this; exact this
      have hb' := hb.trans (hB'.mono hb.size)
      obtain ⟨y, hy1, hy2⟩ := next_at hrise rfl hP hlen
      have hge := last_ge hrise hP
      obtain ⟨L, hL0⟩ : ∃ L, pre.getLastD (-1) = L := ⟨_, rfl⟩
      rw [hL0] at hL hy2 hge
      have hC := next_calls W' c L ((HT.out.below HB3.out).below hb').tab (by omega)
      rw [hy2] at hC
      have sE : Boxed W' w.heap.size 3 (.int .i64 (1 + m)) := (hb'.block _ sB3.lt).trans sB3
      have rE : Boxed W' (w.heap.size + 1) 4 (.bool false) := (hb'.block _ rB3.lt).trans rB3
      have cE : Boxed W' CB 24 (.int .i64 c) := (hb'.block _ cB3.lt).trans cB3
      have cL := hL.cell
      have cC := cE.cell
      have hsn := prefix_snoc (x := x) hP
      rw [hy1] at hsn
      have HP := Lib.hid hP
      have hlen2 : (pre ++ [x]).length = pre.length + 1 := by simp
      have hlast2 : (pre ++ [x]).getLastD (-1) = x := List.getLastD_concat
      obtain ⟨n, hn⟩ : ∃ n, Hid (n = pre.length) := ⟨_, Lib.hid rfl⟩
      have hnn : n = pre.length := hn
      rw [← hnn] at hN hlt hlen2
      have HLEN2 := Lib.hid hlen2
      have HLAST2 := Lib.hid hlast2
      have HB := Lib.hid hB
      have HNBLE := Lib.hid (show NB ≤ W'.heap.size from Nat.le_trans (by rw [HNB.out]; exact Nat.le_refl _) hB.size)
      have HSN := Lib.hid hsn
      have hn0 : (0 : Int) ≤ n := by omega
      have hw1 : wrap64 ((n : Int) + 1) = (n : Int) + 1 := wrap64_small (by omega) (by omega)
      clear hnn hlen2 hlast2 hB hsn hy1 hy2 hL0 hge hP hb hb' hlen sB rB cB hB'
      gi_wp2_with fail
      refine ⟨trivial, (CallsIn.inRound l ((callsIn_wide (n := 3)).2 hC)).mono ?_⟩
      rintro E w9 ⟨rfl, b9⟩
      have hN9 : Boxed w9 NB 3 (.int .i64 n) := (b9.block _ hN.lt).trans hN
      have hL9 : Boxed w9 (NB + 1) 21 (.int .i32 L) := (b9.block _ hL.lt).trans hL
      have sE9 : Boxed w9 w.heap.size 3 (.int .i64 (1 + m)) := (b9.block _ sE.lt).trans sE
      have rE9 : Boxed w9 (w.heap.size + 1) 4 (.bool false) := (b9.block _ rE.lt).trans rE
      have cN := hN9.cell
      have fN := hN9.frozen
      have cL9 := hL9.cell
      have fL := hL9.frozen
      have cS := sE9.cell
      have cR := rE9.cell
      have fR := rE9.frozen
      have HB9 := Lib.hid b9
      clear b9 hN hL sE rE cE cL cC hC
      have hnS : ¬ (1 + m ≤ (n : Int)) := by omega
      have hq0 : w.heap.size < NB := by rw [← HNB.out]; exact Nat.lt_of_lt_of_le sB3.lt hsW
      have hq1 : w.heap.size ≠ NB := by omega
      have hq2 : w.heap.size ≠ NB + 1 := by omega
      have HQ0 := Lib.hid hq0
      clear hq0
      by_cases hxy : x = y
      · subst hxy
        by_cases hS : 1 + m ≤ (n : Int) + 1
        · have hne1 : (n : Int) + 1 = 1 + m := by omega
          have HNE1 := Lib.hid hne1
          clear hne1
          gi_wp2
          all_goals
            clear hw1
            refine ⟨(others_of_below HB9.out).trans ((KeepsOthers.setCell _ _ _).trans (KeepsOthers.setCell _ _ _)), fun _ => ⟨⟨rfl, by rw [HLEN2.out]; have := HNE1.out; omega⟩, ?_, ?_⟩⟩
            · have := (hN9.other (B' := NB + 1) (by omega) (.int .i32 x)).set (.int .i64 ((n : Int) + 1))
              rw [HNE1.out] at this
              first | exact this | (rw [HNE1.out]; exact this)
            · exact ((HB.out.trans (HB9.out.mono HNBLE.out)).setCell (p := ⟨NB + 1, 0, none⟩) (by show NB ≤ NB + 1; omega) _).setCell (p := ⟨NB, 0, none⟩) (Nat.le_refl _) _
        · gi_wp2
          all_goals
            clear hw1
            refine ⟨(others_of_below HB9.out).trans ((KeepsOthers.setCell _ _ _).trans (KeepsOthers.setCell _ _ _)), ⟨((HB9.out.mono (Nat.le_trans (Nat.le_of_lt HQ0.out) HNBLE.out)).setCell (p := ⟨NB + 1, 0, none⟩) (by have := HQ0.out; show w.heap.size ≤ NB + 1; omega) _).setCell (p := ⟨NB, 0, none⟩) (by have := HQ0.out; show w.heap.size ≤ NB; omega) _, ((KeepsCells.of_below HB9.out).trans (KeepsCells.setCell w9 ⟨NB + 1, 0, none⟩ (by have := HSR.out; show NB + 1 < WR.heap.size; omega) _)).trans (KeepsCells.setCell _ ⟨NB, 0, none⟩ (by have := HSR.out; show NB < WR.heap.size; omega) _)⟩, ⟨⟨?_, ?_⟩, ?_, ?_⟩, ?_⟩
            · have := (hN9.other (B' := NB + 1) (by omega) (.int .i32 x)).set (.int .i64 ((n : Int) + 1))
              rw [HLEN2.out]
              exact this
            · rw [HLAST2.out]
              exact (hL9.set (.int .i32 x)).other (by omega) _
            · rw [HLEN2.out]; push_cast; omega
            · exact HSN.out.2 (by trivial)
            · exact ((HB.out.trans (HB9.out.mono HNBLE.out)).setCell (p := ⟨NB + 1, 0, none⟩) (by show NB ≤ NB + 1; omega) _).setCell (p := ⟨NB, 0, none⟩) (Nat.le_refl _) _
      · have hne : (x != y) = true := by simpa using hxy
        gi_wp2
        all_goals exact ⟨(others_of_below HB9.out).trans (KeepsOthers.setCell _ _ _), fun hp => absurd (by have := HSN.out.1 hp; simpa using this) (fun e : y = x => hxy e.symm)⟩
    case hdone =>
      rintro D ys W' hDs rfl ⟨⟨⟨hN, hL⟩, hlt, hP⟩, hB⟩ hDD
      have hmin : min (1 + m) ((elems (cls c)).length : Int) = ((elems (cls c)).length : Int) := by omega
      obtain ⟨Nn, hNn⟩ : ∃ Nn : Int, ((elems (cls c)).length : Int) = Nn := ⟨_, rfl⟩
      rw [hNn] at hN
      have hmin2 : min (1 + m) ((elems (cls c)).length : Int) = Nn := hmin.trans hNn
      clear hL hlt hP hmin hNn
      have hB' : Below W.heap.size W W' := by have := hB; rw [← HNB.out] at this; exact this
      have K1 : Below w3.heap.size w3 W' := hb.trans (hB'.mono hb.size)
      have sE : Boxed W' w.heap.size 3 (.int .i64 (1 + m)) := (K1.block _ sB3.lt).trans sB3
      have cE : Boxed W' CB 24 (.int .i64 c) := (K1.block _ cB3.lt).trans cB3
      have c1 := hN.cell
      have c2 := sE.cell
      have c3 := cE.cell
      have hcc := fun WW (hb : Below W'.heap.size W' WW) => count_calls WW c 2147483647 (((HT.out.below HB3.out).below K1).below hb).tab (by omega)
      rw [count_elems (cls_rising c) (by omega)] at hcc
      have hkeep : ∀ WW : World, Below W'.heap.size W' WW → WW.cell? ⟨NB, 0, none⟩ = some (.int .i64 Nn) ∧ WW.cell? ⟨w.heap.size, 0, none⟩ = some (.int .i64 (1 + m)) ∧ WW.cell? ⟨CB, 0, none⟩ = some (.int .i64 c) := fun WW b => ⟨(b.cell (p := ⟨NB, 0, none⟩) hN.lt).trans c1, (b.cell (p := ⟨w.heap.size, 0, none⟩) sE.lt).trans c2, (b.cell (p := ⟨CB, 0, none⟩) cE.lt).trans c3⟩
      have bd1 : Below W'.heap.size W' W'.drew := (Below.refl _ _).drew
      obtain ⟨Mn, hMn⟩ : ∃ Mn : Int, ((elems (cls c)).length : Int) = Mn := ⟨_, rfl⟩
      rw [hMn] at hcc hmin2
      have HK1 := Lib.hid K1
      have HB' := Lib.hid hB'
      have HDD := Lib.hid hDD
      have HB := Lib.hid hb
      clear sE cE hMn K1 hB' hDD hB hN sB rB cB hb
      go_upto_region 17 with fail
      go_region_held3 (fun WW => WW.cell? ⟨NB, 0, none⟩ = some (.int .i64 Nn) ∧ WW.cell? ⟨w.heap.size, 0, none⟩ = some (.int .i64 (1 + m)) ∧ WW.cell? ⟨CB, 0, none⟩ = some (.int .i64 c)) (first | exact hkeep _ (by assumption) | exact hkeep _ bd1 | go_keep) (first
        | (go_at_call 9; refine (hcc _ (by first | exact Below.refl _ _ | exact bd1)).mono ?_; rintro e wz ⟨rfl, bz0⟩; have bz : Below W'.heap.size W' wz := (by first | exact bz0 | exact bd1.trans bz0)))
      have hw1 : wrap64 ((ds.length : Int) + 1) = (ds.length : Int) + 1 := wrap64_small (by omega) (by omega)
      have HZ := Lib.hid bz
      clear bz bz0 c1 c2 c3 bd1 hmin2 hkeep hcc
      go_wp2_with fail
      have hdsz := (Array.getElem?_eq_some_iff.1 HDD.out).1
      have hn1 := HNB.out
      have hs1 := HSR.out
      have hs2 := HB'.out.size
      have hs3 := HZ.out.size
      refine HK.out _ _ (Handed.intro (k - 1) (k_pos hk hi).1 (HJ.out _ _ _ ⟨D :: ds, _, _, _, _, _, _, _, _, _, _, _, _, rfl, (k_pos hk hi).2, ?_, ?_, ?_⟩))
      · intro D0 hm0
        rcases List.mem_cons.1 hm0 with rfl | hm0
        · exact ⟨by omega, by omega, (HZ.out.block _ hdsz).trans HDD.out⟩
        · obtain ⟨q1, q2, q3⟩ := HD.out D0 hm0
          exact ⟨q1, by omega, (HZ.out.block _ (by omega)).trans ((HB'.out.block _ q2).trans q3)⟩
      · refine List.nodup_cons.2 ⟨fun hm0 => ?_, HND.out⟩
        have := (HD.out D hm0).2.1
        omega
      · exact HK1.out.trans (HZ.out.mono HK1.out.size)
    case hstop =>
      rintro D cde pre W' hDs hP hx hDD
      obtain ⟨⟨rfl, hlen⟩, hN, hB⟩ := hx hP
      obtain ⟨Nn, hNn⟩ : ∃ Nn : Int, 1 + m = Nn := ⟨_, rfl⟩
      have hmin2 : min (1 + m) ((elems (cls c)).length : Int) = Nn := by have := hP.length_le; omega
      have hN : Boxed W' NB 3 (.int .i64 Nn) := by rw [← hNn]; exact hN
      clear hlen hP hx hNn
      refine wpIn_wide.2 ?_
      have hB' : Below W.heap.size W W' := by have := hB; rw [← HNB.out] at this; exact this
      have K1 : Below w3.heap.size w3 W' := hb.trans (hB'.mono hb.size)
      have sE : Boxed W' w.heap.size 3 (.int .i64 (1 + m)) := (K1.block _ sB3.lt).trans sB3
      have cE : Boxed W' CB 24 (.int .i64 c) := (K1.block _ cB3.lt).trans cB3
      have c1 := hN.cell
      have c2 := sE.cell
      have c3 := cE.cell
      have hcc := fun WW (hb : Below W'.heap.size W' WW) => count_calls WW c 2147483647 (((HT.out.below HB3.out).below K1).below hb).tab (by omega)
      rw [count_elems (cls_rising c) (by omega)] at hcc
      have hkeep : ∀ WW : World, Below W'.heap.size W' WW → WW.cell? ⟨NB, 0, none⟩ = some (.int .i64 Nn) ∧ WW.cell? ⟨w.heap.size, 0, none⟩ = some (.int .i64 (1 + m)) ∧ WW.cell? ⟨CB, 0, none⟩ = some (.int .i64 c) := fun WW b => ⟨(b.cell (p := ⟨NB, 0, none⟩) hN.lt).trans c1, (b.cell (p := ⟨w.heap.size, 0, none⟩) sE.lt).trans c2, (b.cell (p := ⟨CB, 0, none⟩) cE.lt).trans c3⟩
      have bd1 : Below W'.heap.size W' W'.drew := (Below.refl _ _).drew
      obtain ⟨Mn, hMn⟩ : ∃ Mn : Int, ((elems (cls c)).length : Int) = Mn := ⟨_, rfl⟩
      rw [hMn] at hcc hmin2
      have HK1 := Lib.hid K1
      have HB' := Lib.hid hB'
      have HDD := Lib.hid hDD
      have HB := Lib.hid hb
      clear sE cE hMn K1 hB' hDD hB hN sB rB cB hb
      go_upto_region 17 with fail
      go_region_held3 (fun WW => WW.cell? ⟨NB, 0, none⟩ = some (.int .i64 Nn) ∧ WW.cell? ⟨w.heap.size, 0, none⟩ = some (.int .i64 (1 + m)) ∧ WW.cell? ⟨CB, 0, none⟩ = some (.int .i64 c)) (first | exact hkeep _ (by assumption) | exact hkeep _ bd1 | go_keep) (first
        | (go_at_call 9; refine (hcc _ (by first | exact Below.refl _ _ | exact bd1)).mono ?_; rintro e wz ⟨rfl, bz0⟩; have bz : Below W'.heap.size W' wz := (by first | exact bz0 | exact bd1.trans bz0)))
      have hw1 : wrap64 ((ds.length : Int) + 1) = (ds.length : Int) + 1 := wrap64_small (by omega) (by omega)
      have HZ := Lib.hid bz
      clear bz bz0 c1 c2 c3 bd1 hmin2 hkeep hcc
      go_wp2_with fail
      have hdsz := (Array.getElem?_eq_some_iff.1 HDD.out).1
      have hn1 := HNB.out
      have hs1 := HSR.out
      have hs2 := HB'.out.size
      have hs3 := HZ.out.size
      refine HK.out _ _ (Handed.intro (k - 1) (k_pos hk hi).1 (HJ.out _ _ _ ⟨D :: ds, _, _, _, _, _, _, _, _, _, _, _, _, rfl, (k_pos hk hi).2, ?_, ?_, ?_⟩))
      · intro D0 hm0
        rcases List.mem_cons.1 hm0 with rfl | hm0
        · exact ⟨by omega, by omega, (HZ.out.block _ hdsz).trans HDD.out⟩
        · obtain ⟨q1, q2, q3⟩ := HD.out D0 hm0
          exact ⟨q1, by omega, (HZ.out.block _ (by omega)).trans ((HB'.out.block _ q2).trans q3)⟩
      · refine List.nodup_cons.2 ⟨fun hm0 => ?_, HND.out⟩
        have := (HD.out D hm0).2.1
        omega
      · exact HK1.out.trans (HZ.out.mono HK1.out.size)
  · obtain ⟨D2, D1, rfl⟩ : ∃ D2 D1, ds = [D2, D1] := by
      match ds, hi, hk with
      | [a, b], _, _ => exact ⟨a, b, rfl⟩
      | [], h, _ => exact absurd (show 0 < 2 by omega) h
      | [_], h, _ => exact absurd (show 1 < 2 by omega) h
      | _ :: _ :: _ :: _, _, hk => simp at hk; omega
    have hD2 := HD.out D2 (by simp)
    have hD1 := HD.out D1 (by simp)
    have hne : D2 ≠ D1 := by have := HND.out; simp at this; exact this
    have rBx : Boxed W (w.heap.size + 1) 4 (.bool false) := rB
    have cR := rBx.cell
    have fR := rBx.frozen
    have hbW := HB3.out.trans (hb.mono HB3.out.size)
    have hws : w.heap.size ≤ w3.heap.size := HB3.out.size
    have HHD2 := Lib.hid hD2
    have HHD1 := Lib.hid hD1
    have HNE := Lib.hid hne
    have HRB := Lib.hid rBx
    clear hD2 hD1 hne rBx sB rB cB
    go_wp2_with fail
    have R8 := HRB.out.set (.bool true)
    have K2 := (KeepsOthers.setCell W ⟨w.heap.size + 1, 0, none⟩ (.bool true)).same D2 _ HHD2.out.2.2 rfl
    have K1 := (KeepsOthers.setCell W ⟨w.heap.size + 1, 0, none⟩ (.bool true)).same D1 _ HHD1.out.2.2 rfl
    have K1' : ((W.setCell ⟨w.heap.size + 1, 0, none⟩ (.bool true)).putObj D2 (.deferred none)).heap[D1]? = _ := (World.putObj_heap_other (fun e => HNE.out e.symm)).trans K1
    refine ⟨by simp, .inl ⟨_, _, rfl, run_takeDeferred K2, ?_⟩⟩
    refine ⟨by simp, .inl ⟨_, _, rfl, run_takeDeferred K1', ?_⟩⟩
    have k0 := cell_kept R8.cell (grownBy_putObj' _ D2 (.deferred none)) (fun r e => by cases e; exact ⟨_, K2, rfl⟩)
    have k1 := cell_kept k0 (grownBy_putObj' _ D1 (.deferred none)) (fun r e => by cases e; exact ⟨_, K1', rfl⟩)
    have hb1 := hbW.setCell (p := ⟨w.heap.size + 1, 0, none⟩) (by show w.heap.size ≤ w.heap.size + 1; omega) (.bool true)
    have hb2 := hb1.trans (belowK_b (w := w) (Nat.le_refl _) _ D2 _ (.deferred none) (by have := HHD2.out.1; omega) K2 rfl rfl)
    refine ⟨.bool true, ?_, rfl, hb2.trans (belowK_b (w := w) (Nat.le_refl _) _ D1 _ (.deferred none) (by have := HHD1.out.1; omega) K1' rfl rfl)⟩
    simp [results, Tryd.f3, go_sem, k1]
end Go.Proofs.YtbbfifaojepjiaaDoor
