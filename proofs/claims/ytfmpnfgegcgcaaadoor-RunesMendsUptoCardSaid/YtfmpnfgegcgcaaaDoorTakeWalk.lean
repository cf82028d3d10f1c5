/- The walks of runes.New, runes.Decoder.Take and Pending: of a Decoder that has met no wrong byte. -/
import Derived.Test.YtfmpnfgegcgcaaaDoorGoodWalk
namespace Gim
open Go Go.RowKit
theorem two_set {w : World} {D : Nat} {v b : Value} {t : TypeId} (h : w.heap[D]? = some (.cells #[v, b] t)) (u : Value) : (w.setCell ⟨D, 0, none⟩ u).heap[D]? = some (.cells #[u, b] t) := by
  have hz := (Array.getElem?_eq_some_iff.1 h).1
  have hg := (Array.getElem?_eq_some_iff.1 h).2
  have hz2 : D < (w.setCell ⟨D, 0, none⟩ u).heap.size := by simp [World.setCell, hz]
  rw [Array.getElem?_eq_getElem hz2]
  simp only [World.setCell, Array.getElem_modify, hg]
  simp
end Gim
namespace Go.Proofs.YtfmpnfgegcgcaaaDoor
open Go.RowKit Gim
/-- a Decoder in block D that has taken xs -/
structure Dec (w : World) (D : Nat) (xs : List Int) : Prop where
  row : ∃ v, w.heap[D]? = some (.cells #[v, .bool false] 110) ∧ Row w (D + 1) 5 .u8 v xs
  by_ : ∀ x ∈ xs, 0 ≤ x ∧ x ≤ 255
theorem Dec.stays {w w1 : World} {D : Nat} {xs : List Int} (h : Dec w D xs) (hb : Below w.heap.size w w1) : Dec w1 D xs := by
  obtain ⟨v, h1, h2⟩ := h.row
  exact ⟨⟨v, (hb.block D (Array.getElem?_eq_some_iff.1 h1).1).trans h1, h2.stays hb⟩, h.by_⟩
set_option maxHeartbeats 1000000 in
theorem new_calls (w : World) : Calls Tryd.prog 33 #[] w fun e w' => e = .returned (.pointer (some ⟨w.heap.size, 0, none⟩)) ∧ Dec w' w.heap.size [] ∧ Below w.heap.size w w' := by
  go_enter Tryd.func33, Tryd.ntmps33
  go_wp2
  go_ret
  exact ⟨rfl, ⟨⟨_, heap_alloc_new _ _, World.ownsRow_nil _ _ _ _⟩, fun x hx => by cases hx⟩, (Below.refl _ _).alloc (Nat.le_refl _) _⟩
set_option maxHeartbeats 1000000 in
theorem pending_calls (w : World) (D : Nat) (xs : List Int) (h : Dec w D xs) : Calls Tryd.prog 36 #[.pointer (some ⟨D, 0, none⟩)] w fun e w' => e = .returned (.int .i64 xs.length) ∧ w' = w := by
  obtain ⟨v, hD, hrow⟩ := h.row
  obtain ⟨ao, cp, rfl, rd⟩ := hrow.rd
  have c0 : w.cell? ⟨D, 0, none⟩ = some (.slice ao xs.length cp) := by simp [World.cell?, hD]
  go_enter Tryd.func36, Tryd.ntmps36
  go_wp2
  go_ret
  exact ⟨rfl, rfl⟩
set_option maxHeartbeats 2000000 in
theorem take_calls (w0 w : World) (D : Nat) (xs : List Int) (x : Int) (h : Dec w D xs) (hx : 0 ≤ x ∧ x ≤ 255) (hlen : xs.length < 1099511627776) (hb : beginsB (xs ++ [x]) = true) (hT0 : U8 w0) (h0 : Below w0.heap.size w0 w) (hD0 : w0.heap.size ≤ D) :
    Calls Tryd.prog 35 #[.pointer (some ⟨D, 0, none⟩), .int .u8 x] w fun e w' =>
      e = .returned (.tuple #[.int .i32 (if fullB (xs ++ [x]) then (decB (xs ++ [x])).1 else 0), .int .i64 (if fullB (xs ++ [x]) then 0 else 1)]) ∧ Dec w' D (if fullB (xs ++ [x]) then [] else xs ++ [x]) ∧ Below D w w' := by
  obtain ⟨v, hD, hrow⟩ := h.row
  have hDz := (Array.getElem?_eq_some_iff.1 hD).1
  have c0 : w.cell? ⟨D, 0, none⟩ = some v := by simp [World.cell?, hD]
  have c1 : w.cell? ⟨D, 1, none⟩ = some (.bool false) := by simp [World.cell?, hD]
  have hby : ∀ y ∈ xs ++ [x], 0 ≤ y ∧ y ≤ 255 := fun y hy => by
    rcases List.mem_append.1 hy with hy | hy
    · exact h.by_ y hy
    · rw [List.mem_singleton.1 hy]; exact hx
  obtain ⟨ys, hys⟩ : ∃ ys, ys = xs ++ [x] := ⟨_, rfl⟩
  rw [← hys] at hb hby ⊢
  have hly : ys.length = xs.length + 1 := by rw [hys]; simp
  have HY := Lib.hid hys
  have HLY := Lib.hid hly
  clear hys hly
  obtain ⟨q, hq⟩ : ∃ q, q = fullB ys := ⟨_, rfl⟩
  rw [← hq]
  have HQ := Lib.hid hq
  clear hq
  go_enter Tryd.func35, Tryd.ntmps35
  go_wp2_with (at_builtin; refine append1 _ rfl _ _ 34 rfl (D + 1) 5 .u8 1 info_u8 Tryd.underlying34 _ _ rfl hrow _ rfl hlen (by decide) (by omega) ?_; intro v' w3 hown' hgrow3)
  replace hgrow3 : w.grownBy w3 v.ownBlock := hgrow3
  have hD3 := (hgrow3.block D hDz (fun e => by have := (hrow.lt _ e.symm).1; omega)).trans hD
  have hb3 : Below D w w3 := (Below.refl _ _).grown hgrow3 (by omega) (fun j hj => by have := (hrow.lt _ hj).1; omega)
  have h03 := h0.trans (hb3.mono hD0)
  have hT3 := U8.below hT0 h03
  have hz3 := hb3.size
  rw [← HY.out] at hown'
  obtain ⟨ao, cp, rfl, rd3⟩ := hown'.rd
  have rb3 : Rb w3 ao ys.length cp ys := ⟨rd3, gt_all rfl hby⟩
  clear rd3 hgrow3 hrow hD c0 c1
  have cB := begins_calls _ _ _ _ _ rb3 hT3
  rw [hb] at cB
  refine cB.mono ?_
  rintro e w4 ⟨rfl, hb4⟩
  have hb4' : Below D w w4 := hb3.trans (hb4.mono (by omega))
  have hT4 := U8.below hT3 hb4
  have rb4 := rb3.below hb4
  have hD4 := (hb4.block D (by omega)).trans hD3
  have hown4 := hown'.stays hb4
  have cF := full_calls _ _ _ _ _ rb4 hT4
  clear cB hown' rb3 hD3 hb3 hT3
  rw [← HQ.out] at cF
  clear HQ
  cases q
  · go_wp2_with fail
    refine cF.mono ?_
    rintro e w5 ⟨rfl, hb5⟩
    have hD5 := (hb5.block D (Array.getElem?_eq_some_iff.1 hD4).1).trans hD4
    have hz5 := hb5.size
    have hz4 := (Array.getElem?_eq_some_iff.1 hD4).1
    have hb5' : Below D w w5 := hb4'.trans (hb5.mono (by omega))
    have hown5 := hown4.stays hb5
    have c0 : w5.cell? ⟨D, 0, none⟩ = some v := by simp [World.cell?, hD5]
    have f0 : w5.frozen? ⟨D, 0, none⟩ = false := by simp [World.frozen?, hD5]
    clear cF hb4 hb5 hb4' hD4 hown4 rb4 hT4 hz3 h03
    go_wp2
    (try simp only [Exit.inBlock, Exit.then]); refine bodyPost_ret (results_tmp2 rfl _ _ _) rfl ?_
    exact ⟨rfl, ⟨⟨_, two_set hD5 _, ownsRow_setCell_below hown5 (by simp) _⟩, hby⟩, hb5'.setCell (by simp) _⟩
  · go_wp2_with fail
    refine cF.mono ?_
    rintro e w5 ⟨rfl, hb5⟩
    have cD := decode_calls _ _ _ _ _ (rb4.below hb5) (U8.below hT4 hb5)
    go_wp2_with fail
    refine cD.mono ?_
    rintro e w6 ⟨rfl, hb6⟩
    have hD6 := (hb6.block D (Array.getElem?_eq_some_iff.1 ((hb5.block D (Array.getElem?_eq_some_iff.1 hD4).1).trans hD4)).1).trans ((hb5.block D (Array.getElem?_eq_some_iff.1 hD4).1).trans hD4)
    have hz4 := (Array.getElem?_eq_some_iff.1 hD4).1
    have hz5 := hb5.size
    have hb6' : Below D w w6 := (hb4'.trans (hb5.mono (by omega))).trans (hb6.mono (by omega))
    have c0 : w6.cell? ⟨D, 0, none⟩ = some v := by simp [World.cell?, hD6]
    have f0 : w6.frozen? ⟨D, 0, none⟩ = false := by simp [World.frozen?, hD6]
    clear cF cD hb4 hb5 hb6 hb4' hD4 hown4 rb4 hT4 hz3 h03
    go_wp2
    (try simp only [Exit.inBlock, Exit.then]); refine bodyPost_ret (results_tmp2 rfl _ _ _) rfl ?_
    exact ⟨rfl, ⟨⟨_, two_set hD6 _, World.ownsRow_nil _ _ _ _⟩, fun y hy => by cases hy⟩, hb6'.setCell (by simp) _⟩
end Go.Proofs.YtfmpnfgegcgcaaaDoor
