/- kleene.Vars of any formula: the list lies in memory of the call's own. -/
import Derived.Test.YtmdanfeilgeoaaaKHelp
namespace Gim
open Go Go.RowKit Go.Sort Go.Proofs Go.Lib
theorem putRow_block {w : World} {g n : Nat} {cur : Array Value} {t : TypeId} {fr : Nat × Nat} (d : Array Int) (os : Array Obj) (enc : Int → Value) (h : w.heap[g]? = some (.cells cur t fr)) : (grow (putRow enc (Sort.ahead w n) g 0 d) os).heap[g]? = some (.cells (Sort.putCells enc 0 d cur) t fr) := by
  have hl := (Array.getElem?_eq_some_iff.1 h).1
  have hs : g < (putRow enc (Sort.ahead w n) g 0 d).heap.size := by simpa [putRow, mapBlock, Sort.ahead] using hl
  simp only [grow]
  rw [Array.getElem?_append_left hs]
  simp only [putRow, mapBlock, Sort.ahead, Array.getElem?_modify, if_true, h]
  rfl
theorem row_of_holds {w : World} {B g cap : Nat} {cur : Array Value} {t : TypeId} {C : List Int} {d : Array Int} (h : Holds (Value.int .i64) w g 0 d) (hb : w.heap[g]? = some (.cells cur t (0, 0))) (hs : cur.size = cap * 1) (hB : B ≤ g) (hn : C.length ≤ cap) (hc : cap ≤ maxLen) (hd : ∀ i, i < C.length → i < d.size ∧ d[i]! = gt C i) :
    Row w B t .i64 (.slice (some ⟨g, 0, none⟩) C.length cap) C := by
  refine ⟨by simp, .inr ⟨g, cap, cur, rfl, hB, hb, hn, hc, hs, ?_⟩⟩
  apply List.ext_getElem?
  intro j
  rw [List.getElem?_take, List.getElem?_map]
  by_cases hj : j < C.length
  · obtain ⟨h1, h2⟩ := hd j hj
    have h3 := (h j h1).1
    rw [h2] at h3
    simp only [World.cell?, hb, Nat.zero_add] at h3
    rw [if_pos (by omega), List.getElem?_eq_getElem hj]
    simp only [Option.map_some]
    rw [← gt_lt hj]
    simpa using h3
  · rw [if_neg (by omega), List.getElem?_eq_none (by omega)]
    rfl
end Gim
namespace Go.Proofs.Ytmdanfeilgeoaaa
open Go.RowKit Gim Go.Sort Go.Lib
set_option maxHeartbeats 4000000 in
theorem kVars2_calls (op v x : Int) (gs : List Fm) (a : Option Addr) (n cap : Nat) (w : World) (hF : FitS w gs a n cap) (hsz : szF (.mk op v x gs) ≤ 549755813888) :
    Calls Try.prog 24 #[.agg #[.int .i64 op, .int .i64 v, .int .i64 x, .slice a n cap]] w fun e w' => ∃ ao cp L, e = .returned (.tuple #[.slice ao (L : List Int).length cp, .int .i64 (chkE (.mk op v x gs))]) ∧ Row w' w.heap.size 3 .i64 (.slice ao L.length cp) L ∧ L = (if isB (.mk op v x gs) = true then refVars (.mk op v x gs) else []) ∧ Below w.heap.size w w' := by
  have hg : Grows w (w.alloc (.cells #[.int .i64 op, .int .i64 v, .int .i64 x, .slice a n cap] 26)) := (Grows.refl _).alloc _
  have hbx := heap_alloc_new w (.cells #[.int .i64 op, .int .i64 v, .int .i64 x, .slice a n cap] 26)
  have hC := check_calls _ op v x gs a n cap _ (Nat.le_refl _) (hF.below hg.below)
  have hV := fun W (h : Below w.heap.size w W) => vars_calls _ op v x gs a n cap W W (.slice none 0 0) [] (Nat.le_refl _) (hF.below h) (Below.refl _ _) (World.ownsRow_nil _ _ _ _) (by simpa using hsz)
  have HLAW := Lib.hid (vars_law (.mk op v x gs))
  have HVL := Lib.hid (Nat.le_trans (varsF_len (.mk op v x gs)) hsz)
  have HG := Lib.hid hg
  have HBX := Lib.hid hbx
  have HV := Lib.hid hV
  clear hF hg hbx hV hsz
  cases hb : isB (.mk op v x gs)
  · have he : chkE (.mk op v x gs) = 6 := by rw [chkE_of hb]; rfl
    rw [he] at hC ⊢
    clear hb he
    go_enter Try.func24, Try.ntmps24
    go_wp2_with fail
    refine hC.mono ?_
    rintro e w1 ⟨rfl, g1⟩
    have HG1 := Lib.hid (HG.out.trans g1)
    clear hC g1
    go_wp2_with fail
    (try simp only [Exit.inBlock, Exit.then]); refine bodyPost_ret (results_tmp2 rfl _ _ _) rfl ?_
    exact ⟨none, 0, [], rfl, World.ownsRow_nil _ _ _ _, rfl, HG1.out.below⟩
  · have he : chkE (.mk op v x gs) = 0 := by rw [chkE_of hb]; rfl
    have HL2 := Lib.hid (HLAW.out hb)
    rw [he] at hC ⊢
    simp only [if_true]
    rw [← HL2.out]
    clear hb he HLAW HL2
    obtain ⟨L, hL⟩ : ∃ L, varsF (.mk op v x gs) = L := ⟨_, rfl⟩
    rw [hL] at HV HVL ⊢
    clear hL
    obtain ⟨M, hM⟩ : ∃ M, L.mergeSort (fun x y => decide (x ≤ y)) = M := ⟨_, rfl⟩
    rw [hM]
    obtain ⟨C, hCC⟩ : ∃ C, compact M = C := ⟨_, rfl⟩
    rw [hCC]
    have HM := Lib.hid hM
    have HCC := Lib.hid hCC
    clear hM hCC
    go_enter Try.func24, Try.ntmps24
    go_wp2_with fail
    refine hC.mono ?_
    rintro e w1 ⟨rfl, g1⟩
    have hx := (g1.below.block _ (Array.getElem?_eq_some_iff.1 HBX.out).1).trans HBX.out
    have c0 : w1.cell? ⟨w.heap.size, 0, none⟩ = some (.int .i64 op) := by simp [World.cell?, hx]
    have c1 : w1.cell? ⟨w.heap.size, 1, none⟩ = some (.int .i64 v) := by simp [World.cell?, hx]
    have c2 : w1.cell? ⟨w.heap.size, 2, none⟩ = some (.int .i64 x) := by simp [World.cell?, hx]
    have c3 : w1.cell? ⟨w.heap.size, 3, none⟩ = some (.slice a n cap) := by simp [World.cell?, hx]
    have hV1 := HV.out w1 (HG.out.trans g1).below
    have HG1 := Lib.hid (HG.out.trans g1)
    clear hC g1 hx
    go_wp2_with fail
    refine hV1.mono ?_
    rintro e w2 ⟨v2, rfl, hr2, b2⟩
    rw [List.nil_append] at hr2
    clear hV1 c0 c1 c2 c3
    have HB2 := Lib.hid (HG1.out.below.trans (b2.mono HG1.out.below.size))
    have hsw := HG1.out.below.size
    rcases hr2.2 with ⟨rfl, h0⟩ | ⟨g, cp, cur, rfl, hgN, hgg, hn, hc, hs, ht⟩
    · have hz : L = [] := List.eq_nil_of_length_eq_zero h0
      subst hz
      have hS := Any.slices_Sort_int_none laysSortI none 0 w2
      change Calls Try.prog 41 _ _ _ at hS
      have hK := Any.slices_Compact_int_empty laysCompI none 0 w2
      change Calls Try.prog 42 _ _ _ at hK
      clear hr2 b2 h0
      go_wp2_with fail
      refine hS.mono ?_
      rintro e wz ⟨rfl, rfl⟩
      go_wp2_with fail
      refine hK.mono ?_
      rintro e wz ⟨rfl, rfl⟩
      go_wp2_with fail
      (try simp only [Exit.inBlock, Exit.then]); refine bodyPost_ret (results_tmp2 rfl _ _ _) rfl ?_
      exact ⟨none, 0, [], rfl, World.ownsRow_nil _ _ _ _, by rw [← HCC.out, ← HM.out]; simp [compact, compactUpTo], HB2.out⟩
    · have hglt := (Array.getElem?_eq_some_iff.1 hgg).1
      have hH : Holds (Value.int .i64) w2 g 0 L.toArray := holds_of_blockI hgg (by simpa using ht)
      have hLb : L.length < 4611686018427387904 := by have := HVL.out; omega
      have hS := Any.slices_Sort_int laysSortI g 0 cp L w2 hH hglt hLb
      change Calls Try.prog 41 _ _ _ at hS
      have hMl : M.length = L.length := by rw [← HM.out]; exact List.length_mergeSort _
      rw [HM.out] at hS
      have HGG := Lib.hid (show w.heap.size ≤ g by omega)
      have HBK := Lib.hid hgg
      have HCS := Lib.hid hs
      clear hr2 b2 hgN hgg hs ht
      go_wp2_with fail
      refine hS.mono ?_
      rintro e w3 ⟨rfl, n3, os3, hw3⟩
      have HBK3 := Lib.hid (show w3.heap[g]? = some (.cells (Sort.putCells (Value.int .i64) 0 M.toArray cur) 3 (0, 0)) by rw [hw3]; exact putRow_block _ _ _ HBK.out)
      have hg3 : w2.grownBy w3 (some g) := by rw [hw3]; exact putRow_grownBy _ _ _ _ _ _ _
      have hH3 : Holds (Value.int .i64) w3 g 0 M.toArray := by rw [hw3]; exact holds_after os3 hH hglt (by simp [hMl])
      have hglt3 : g < w3.heap.size := Nat.lt_of_lt_of_le hglt hg3.size
      have HB3 := Lib.hid (HB2.out.grown hg3 HB2.out.size (fun j e => by have := Option.some.inj e; have := HGG.out; omega))
      have hK := Any.slices_Compact_int laysCompI g 0 cp M w3 hH3 (by omega) (by omega)
      change Calls Try.prog 42 _ _ _ at hK
      rw [hMl] at hK
      have hcl := compact_length_le M
      rw [HCC.out] at hK hcl
      clear hS hw3 hg3 hH
      go_wp2_with fail
      refine hK.mono ?_
      rintro e w4 ⟨rfl, q4, hw4⟩
      have hw4' : w4 = grow (putRow (Value.int .i64) (Sort.ahead w3 q4) g 0 (C ++ List.replicate (L.length - C.length) 0).toArray) #[] := by rw [grow_empty]; exact hw4
      have hg4 : w3.grownBy w4 (some g) := by rw [hw4']; exact putRow_grownBy _ _ _ _ _ _ _
      have hH4 : Holds (Value.int .i64) w4 g 0 (C ++ List.replicate (L.length - C.length) 0).toArray := by rw [hw4']; exact holds_after #[] hH3 hglt3 (by simp; omega)
      have HBK4 : w4.heap[g]? = some (.cells (Sort.putCells (Value.int .i64) 0 (C ++ List.replicate (L.length - C.length) 0).toArray (Sort.putCells (Value.int .i64) 0 M.toArray cur)) 3 (0, 0)) := by rw [hw4']; exact putRow_block _ _ _ HBK3.out
      have hrd : Row w4 w.heap.size 3 .i64 (.slice (some ⟨g, 0, none⟩) C.length cp) C := row_of_holds hH4 HBK4 (by have := HCS.out; simp [Sort.putCells]; omega) HGG.out (by omega) hc (fun i hi => by
        refine ⟨by simp; omega, ?_⟩
        simp [gt, hi]
        rw [List.getElem?_append_left hi]
        simp [hi])
      have HB4 := Lib.hid (HB3.out.grown hg4 HB3.out.size (fun j e => by have := Option.some.inj e; have := HGG.out; omega))
      have HRD := Lib.hid hrd
      clear hK hw4 hw4' hg4 hH4 hrd HBK4
      go_wp2_with fail
      (try simp only [Exit.inBlock, Exit.then]); refine bodyPost_ret (results_tmp2 rfl _ _ _) rfl ?_
      exact ⟨_, _, C, rfl, HRD.out, rfl, HB4.out⟩
end Go.Proofs.Ytmdanfeilgeoaaa
