/- kleene.Vars, kleene.Size, the document's Great and Vars, of any formula. -/
import Derived.Test.YtmdanfeilgeoaaaKWalks
import Derived.Test.YtmdanfeilgeoaaaKVarsWalk
import Derived.Test.YtmdanfeilgeoaaaKVarsLaw
import Derived.Test.YtmdanfeilgeoaaaKCheck
import Derived.Test.YtmdanfeilgeoaaaKLayI
import Derived.Sort.OwnSortedInts
import Derived.Lib.RowBridge
namespace Gim
open Go Go.RowKit Go.Sort Go.Lib
theorem putRow_grownBy {α : Type} [Inhabited α] (enc : α → Value) (w : World) (blk off n : Nat) (d : Array α) (os : Array Obj) : w.grownBy (grow (putRow enc (Sort.ahead w n) blk off d) os) (some blk) := by
  have hs : (putRow enc (Sort.ahead w n) blk off d).heap.size = w.heap.size := by simp [putRow, mapBlock, Sort.ahead]
  refine ⟨rfl, rfl, rfl, ?_, fun j hj hne => ?_⟩
  · simp only [grow, Array.size_append]
    omega
  · have hne' : blk ≠ j := fun e => hne (by rw [e])
    simp only [grow]
    rw [Array.getElem?_append_left (by omega)]
    simp only [putRow, mapBlock, Sort.ahead, Array.getElem?_modify]
    rw [if_neg hne']
theorem holds_after {w : World} {blk n : Nat} {d0 d : Array Int} (os : Array Obj) (h : Holds (Value.int .i64) w blk 0 d0) (hblk : blk < w.heap.size) (hs : d.size = d0.size) : Holds (Value.int .i64) (grow (putRow (Value.int .i64) (Sort.ahead w n) blk 0 d) os) blk 0 d := by
  have h0 : Holds (Value.int .i64) (Sort.ahead w n) blk 0 d0 := h
  have h1 := holds_putRow (Value.int .i64) (Sort.ahead w n) blk 0 d0 d h0 hs
  intro j hj
  have hz : (putRow (Value.int .i64) (Sort.ahead w n) blk 0 d).heap.size = w.heap.size := by simp [putRow, mapBlock, Sort.ahead]
  have h2 := h1 j hj
  have hb : (grow (putRow (Value.int .i64) (Sort.ahead w n) blk 0 d) os).heap[blk]? = (putRow (Value.int .i64) (Sort.ahead w n) blk 0 d).heap[blk]? := by
    simp only [grow]
    rw [Array.getElem?_append_left (by omega)]
  simp only [World.cell?, World.frozen?, hb] at h2 ⊢
  exact h2
/-- what lies in a row reads as the first of its numbers -/
theorem rd_of_holds {w : World} {blk n cap : Nat} {l : List Int} {d : Array Int} (h : Holds (Value.int .i64) w blk 0 d) (hblk : blk < w.heap.size) (hl : l.length = n) (hn : n ≤ cap) (hc : cap ≤ maxLen) (hd : ∀ i, i < n → i < d.size ∧ d[i]! = gt l i) : Rd w .i64 (some ⟨blk, 0, none⟩) n cap l :=
  ⟨hl, hn, hc, fun j _ => ⟨blk, 0, rfl, hblk, fun i hi => by
    obtain ⟨h1, h2⟩ := hd i hi
    rw [← h2]
    exact (h i h1).1⟩⟩
theorem chkE_of {f : Fm} {b : Bool} (h : isB f = b) : chkE f = if b = true then 0 else 6 := by unfold chkE; rw [h]
end Gim
namespace Go.Proofs.Ytmdanfeilgeoaaa
open Go.RowKit Gim Go.Sort Go.Lib
theorem great_calls (op v x : Int) (gs : List Fm) (a : Option Addr) (n cap : Nat) (w : World) (hF : FitS w gs a n cap) :
    Calls Try.prog 8 #[.agg #[.int .i64 op, .int .i64 v, .int .i64 x, .slice a n cap]] w fun e w' => e = .returned (.bool (decide (restF (.mk op v x gs) 65536 < 0))) ∧ Grows w w' := by
  have hg : Grows w (w.alloc (.cells #[.int .i64 op, .int .i64 v, .int .i64 x, .slice a n cap] 26)) := (Grows.refl _).alloc _
  have hC := rest_calls _ op v x gs a n cap 65536 _ (Nat.le_refl _) (hF.below hg.below) (by omega) (by omega)
  obtain ⟨r, hr⟩ : ∃ r, restF (.mk op v x gs) 65536 = r := ⟨_, rfl⟩
  rw [hr] at hC ⊢
  have HG := Lib.hid hg
  clear hF hg hr
  go_enter Try.func8, Try.ntmps8
  go_wp2_with fail
  refine hC.mono ?_
  rintro e w1 ⟨rfl, g1⟩
  have HG1 := Lib.hid (HG.out.trans g1)
  clear hC g1
  go_wp2_with fail
  go_ret
  exact ⟨rfl, HG1.out⟩
theorem kSize_calls (op v x : Int) (gs : List Fm) (a : Option Addr) (n cap : Nat) (w : World) (hF : FitS w gs a n cap) (hsz : szF (.mk op v x gs) ≤ 1099511627776) :
    Calls Try.prog 26 #[.agg #[.int .i64 op, .int .i64 v, .int .i64 x, .slice a n cap]] w fun e w' => e = .returned (.tuple #[.int .i64 (if isB (.mk op v x gs) = true then (szF (.mk op v x gs) : Int) else 0), .int .i64 (chkE (.mk op v x gs))]) ∧ Grows w w' := by
  have hg : Grows w (w.alloc (.cells #[.int .i64 op, .int .i64 v, .int .i64 x, .slice a n cap] 26)) := (Grows.refl _).alloc _
  have hbx := heap_alloc_new w (.cells #[.int .i64 op, .int .i64 v, .int .i64 x, .slice a n cap] 26)
  have hC := check_calls _ op v x gs a n cap _ (Nat.le_refl _) (hF.below hg.below)
  have hS := fun W (h : Below w.heap.size w W) => size_calls _ op v x gs a n cap W (Nat.le_refl _) (hF.below h) hsz
  have HG := Lib.hid hg
  have HBX := Lib.hid hbx
  have HS := Lib.hid hS
  clear hF hg hbx hS hsz
  cases hb : isB (.mk op v x gs)
  · have he : chkE (.mk op v x gs) = 6 := by rw [chkE_of hb]; rfl
    rw [he] at hC ⊢
    clear hb he
    go_enter Try.func26, Try.ntmps26
    go_wp2_with fail
    refine hC.mono ?_
    rintro e w1 ⟨rfl, g1⟩
    have HG1 := Lib.hid (HG.out.trans g1)
    clear hC g1
    go_wp2_with fail
    (try simp only [Exit.inBlock, Exit.then]); refine bodyPost_ret (results_tmp2 rfl _ _ _) rfl ?_
    exact ⟨rfl, HG1.out⟩
  · have he : chkE (.mk op v x gs) = 0 := by rw [chkE_of hb]; rfl
    rw [he] at hC ⊢
    clear hb he
    obtain ⟨s, hs⟩ : ∃ s, szF (.mk op v x gs) = s := ⟨_, rfl⟩
    rw [hs] at HS ⊢
    clear hs
    go_enter Try.func26, Try.ntmps26
    go_wp2_with fail
    refine hC.mono ?_
    rintro e w1 ⟨rfl, g1⟩
    have hx := (g1.below.block _ (Array.getElem?_eq_some_iff.1 HBX.out).1).trans HBX.out
    have c0 : w1.cell? ⟨w.heap.size, 0, none⟩ = some (.int .i64 op) := by simp [World.cell?, hx]
    have c1 : w1.cell? ⟨w.heap.size, 1, none⟩ = some (.int .i64 v) := by simp [World.cell?, hx]
    have c2 : w1.cell? ⟨w.heap.size, 2, none⟩ = some (.int .i64 x) := by simp [World.cell?, hx]
    have c3 : w1.cell? ⟨w.heap.size, 3, none⟩ = some (.slice a n cap) := by simp [World.cell?, hx]
    have hS1 := HS.out w1 (HG.out.trans g1).below
    have HG1 := Lib.hid (HG.out.trans g1)
    clear hC g1 hx
    go_wp2_with fail
    refine hS1.mono ?_
    rintro e w2 ⟨rfl, g2⟩
    have HG2 := Lib.hid (HG1.out.trans g2)
    clear hS1 g2 c0 c1 c2 c3
    go_wp2_with fail
    (try simp only [Exit.inBlock, Exit.then]); refine bodyPost_ret (results_tmp2 rfl _ _ _) rfl ?_
    exact ⟨rfl, HG2.out⟩
set_option maxHeartbeats 4000000 in
theorem kVars_calls (op v x : Int) (gs : List Fm) (a : Option Addr) (n cap : Nat) (w : World) (hF : FitS w gs a n cap) (hsz : szF (.mk op v x gs) ≤ 549755813888) :
    Calls Try.prog 24 #[.agg #[.int .i64 op, .int .i64 v, .int .i64 x, .slice a n cap]] w fun e w' => ∃ ao cp L, e = .returned (.tuple #[.slice ao (L : List Int).length cp, .int .i64 (chkE (.mk op v x gs))]) ∧ Rd w' .i64 ao L.length cp L ∧ L = (if isB (.mk op v x gs) = true then refVars (.mk op v x gs) else []) ∧ Below w.heap.size w w' := by
  have hg : Grows w (w.alloc (.cells #[.int .i64 op, .int .i64 v, .int .i64 x, .slice a n cap] 26)) := (Grows.refl _).alloc _
  have hbx := heap_alloc_new w (.cells #[.int .i64 op, .int .i64 v, .int .i64 x, .slice a n cap] 26)
  have hC := check_calls _ op v x gs a n cap _ (Nat.le_refl _) (hF.below hg.below)
  have hV := fun W (h : Below w.heap.size w W) => vars_calls _ op v x gs a n cap W W (.slice none 0 0) [] (Nat.le_refl _) (hF.below h) (Below.refl _ _) (World.ownsRow_nil _ _ _ _) (by simpa using hsz)
  have HLAW := Lib.hid (vars_law (.mk op v x gs))
  have HVL := Lib.hid (Nat.le_trans (varsF_len (.mk op v x gs)) hsz)
  have HG := Lib.hid hg
  have HBX := Lib.hid hbx
  have HV := Lib.hid hV
  clear hF hg hbx hV hsz
  cases hb : isB (.mk op v x gs)
  · have he : chkE (.mk op v x gs) = 6 := by rw [chkE_of hb]; rfl
    rw [he] at hC ⊢
    clear hb he
    go_enter Try.func24, Try.ntmps24
    go_wp2_with fail
    refine hC.mono ?_
    rintro e w1 ⟨rfl, g1⟩
    have HG1 := Lib.hid (HG.out.trans g1)
    clear hC g1
    go_wp2_with fail
    (try simp only [Exit.inBlock, Exit.then]); refine bodyPost_ret (results_tmp2 rfl _ _ _) rfl ?_
    exact ⟨none, 0, [], rfl, ⟨rfl, Nat.le_refl _, Nat.zero_le _, fun j hj => absurd hj (Nat.not_lt_zero _)⟩, rfl, HG1.out.below⟩
  · have he : chkE (.mk op v x gs) = 0 := by rw [chkE_of hb]; rfl
    have HL2 := Lib.hid (HLAW.out hb)
    rw [he] at hC ⊢
    simp only [if_true]
    rw [← HL2.out]
    clear hb he HLAW HL2
    obtain ⟨L, hL⟩ : ∃ L, varsF (.mk op v x gs) = L := ⟨_, rfl⟩
    rw [hL] at HV HVL ⊢
    clear hL
    obtain ⟨M, hM⟩ : ∃ M, L.mergeSort (fun x y => decide (x ≤ y)) = M := ⟨_, rfl⟩
    rw [hM]
    obtain ⟨C, hCC⟩ : ∃ C, compact M = C := ⟨_, rfl⟩
    rw [hCC]
    have HM := Lib.hid hM
    have HCC := Lib.hid hCC
    clear hM hCC
    go_enter Try.func24, Try.ntmps24
    go_wp2_with fail
    refine hC.mono ?_
    rintro e w1 ⟨rfl, g1⟩
    have hx := (g1.below.block _ (Array.getElem?_eq_some_iff.1 HBX.out).1).trans HBX.out
    have c0 : w1.cell? ⟨w.heap.size, 0, none⟩ = some (.int .i64 op) := by simp [World.cell?, hx]
    have c1 : w1.cell? ⟨w.heap.size, 1, none⟩ = some (.int .i64 v) := by simp [World.cell?, hx]
    have c2 : w1.cell? ⟨w.heap.size, 2, none⟩ = some (.int .i64 x) := by simp [World.cell?, hx]
    have c3 : w1.cell? ⟨w.heap.size, 3, none⟩ = some (.slice a n cap) := by simp [World.cell?, hx]
    have hV1 := HV.out w1 (HG.out.trans g1).below
    have HG1 := Lib.hid (HG.out.trans g1)
    clear hC g1 hx
    go_wp2_with fail
    refine hV1.mono ?_
    rintro e w2 ⟨v2, rfl, hr2, b2⟩
    rw [List.nil_append] at hr2
    clear hV1 c0 c1 c2 c3
    have HB2 := Lib.hid (HG1.out.below.trans (b2.mono HG1.out.below.size))
    have hsw := HG1.out.below.size
    rcases hr2.2 with ⟨rfl, h0⟩ | ⟨g, cp, cur, rfl, hgN, hgg, hn, hc, hs, ht⟩
    · have hz : L = [] := List.eq_nil_of_length_eq_zero h0
      subst hz
      have hS := Any.slices_Sort_int_none laysSortI none 0 w2
      change Calls Try.prog 41 _ _ _ at hS
      have hK := Any.slices_Compact_int_empty laysCompI none 0 w2
      change Calls Try.prog 42 _ _ _ at hK
      clear hr2 b2 h0
      go_wp2_with fail
      refine hS.mono ?_
      rintro e wz ⟨rfl, rfl⟩
      go_wp2_with fail
      refine hK.mono ?_
      rintro e wz ⟨rfl, rfl⟩
      go_wp2_with fail
      (try simp only [Exit.inBlock, Exit.then]); refine bodyPost_ret (results_tmp2 rfl _ _ _) rfl ?_
      exact ⟨none, 0, [], rfl, ⟨rfl, Nat.le_refl _, Nat.zero_le _, fun j hj => absurd hj (Nat.not_lt_zero _)⟩, by rw [← HCC.out, ← HM.out]; simp [compact, compactUpTo], HB2.out⟩
    · have hglt := (Array.getElem?_eq_some_iff.1 hgg).1
      have hH : Holds (Value.int .i64) w2 g 0 L.toArray := holds_of_blockI hgg (by simpa using ht)
      have hLb : L.length < 4611686018427387904 := by have := HVL.out; omega
      have hS := Any.slices_Sort_int laysSortI g 0 cp L w2 hH hglt hLb
      change Calls Try.prog 41 _ _ _ at hS
      have hMl : M.length = L.length := by rw [← HM.out]; exact List.length_mergeSort _
      rw [HM.out] at hS
      have HGG := Lib.hid (show w.heap.size ≤ g by omega)
      clear hr2 b2 hgN hgg hs ht
      go_wp2_with fail
      refine hS.mono ?_
      rintro e w3 ⟨rfl, n3, os3, hw3⟩
      have hg3 : w2.grownBy w3 (some g) := by rw [hw3]; exact putRow_grownBy _ _ _ _ _ _ _
      have hH3 : Holds (Value.int .i64) w3 g 0 M.toArray := by rw [hw3]; exact holds_after os3 hH hglt (by simp [hMl])
      have hglt3 : g < w3.heap.size := Nat.lt_of_lt_of_le hglt hg3.size
      have HB3 := Lib.hid (HB2.out.grown hg3 HB2.out.size (fun j e => by have := Option.some.inj e; have := HGG.out; omega))
      have hK := Any.slices_Compact_int laysCompI g 0 cp M w3 hH3 (by omega) (by omega)
      change Calls Try.prog 42 _ _ _ at hK
      rw [hMl] at hK
      have hcl := compact_length_le M
      rw [HCC.out] at hK hcl
      clear hS hw3 hg3 hH
      go_wp2_with fail
      refine hK.mono ?_
      rintro e w4 ⟨rfl, q4, hw4⟩
      have hw4' : w4 = grow (putRow (Value.int .i64) (Sort.ahead w3 q4) g 0 (C ++ List.replicate (L.length - C.length) 0).toArray) #[] := by rw [grow_empty]; exact hw4
      have hg4 : w3.grownBy w4 (some g) := by rw [hw4']; exact putRow_grownBy _ _ _ _ _ _ _
      have hH4 : Holds (Value.int .i64) w4 g 0 (C ++ List.replicate (L.length - C.length) 0).toArray := by rw [hw4']; exact holds_after #[] hH3 hglt3 (by simp; omega)
      have hrd : Rd w4 .i64 (some ⟨g, 0, none⟩) C.length cp C := rd_of_holds hH4 (Nat.lt_of_lt_of_le hglt3 hg4.size) rfl (by omega) hc (fun i hi => by
        refine ⟨by simp; omega, ?_⟩
        simp [gt, hi]
        rw [List.getElem?_append_left hi]
        simp [hi])
      have HB4 := Lib.hid (HB3.out.grown hg4 HB3.out.size (fun j e => by have := Option.some.inj e; have := HGG.out; omega))
      have HRD := Lib.hid hrd
      clear hK hw4 hw4' hg4 hH4 hrd
      go_wp2_with fail
      (try simp only [Exit.inBlock, Exit.then]); refine bodyPost_ret (results_tmp2 rfl _ _ _) rfl ?_
      exact ⟨_, _, C, rfl, HRD.out, rfl, HB4.out⟩
end Go.Proofs.Ytmdanfeilgeoaaa
