/- The walk of gimletlaw01.RunesBytes. -/
import Derived.Test.YtfmpnfgegcgcaaaDoorSameWalk
import Derived.Test.YtfmpnfgegcgcaaaDoorRefNextWalk
import Derived.Test.YtfmpnfgegcgcaaaDoorGoodWalk
import Derived.Test.YtfmpnfgegcgcaaaDoorAwakeA
namespace Gim
open Go Go.Lib
theorem nextB_bounds {xs : List Int} (hxs : ∀ x ∈ xs, 0 ≤ x ∧ x ≤ 255) (i : Int) : 0 ≤ (nextB xs i).1 ∧ (nextB xs i).1 ≤ 1114111 ∧ 0 ≤ (nextB xs i).2.1 ∧ (nextB xs i).2.1 ≤ xs.length ∧ 0 ≤ (nextB xs i).2.2.1 ∧ (nextB xs i).2.2.1 ≤ 3 ∧ 0 ≤ (nextB xs i).2.2.2 ∧ (nextB xs i).2.2.2 ≤ 2 := by
  unfold nextB
  by_cases h1 : i < 0 ∨ (xs.length : Int) < i
  · rw [if_pos h1]; dsimp only; omega
  rw [if_neg h1]
  by_cases h2 : i = xs.length
  · rw [if_pos h2]; dsimp only; omega
  rw [if_neg h2]
  by_cases h3 : fullB (xs.drop i.toNat) = false
  · rw [if_pos h3]; dsimp only; omega
  rw [if_neg h3]
  by_cases h4 : (decB (xs.drop i.toNat)).1 = 65533 ∧ (decB (xs.drop i.toNat)).2 = 1
  · rw [if_pos h4]; dsimp only; omega
  rw [if_neg h4]
  have hl : (xs.drop i.toNat).length = xs.length - i.toNat := List.length_drop
  have hs := (decB_shape (xs.drop i.toNat) (by omega) (bn_lt (fun x hx => hxs x (List.mem_of_mem_drop hx))))
  have hle := decB_le (xs := xs.drop i.toNat) (by omega)
  have hc := hs.1
  unfold Ch at hc
  dsimp only
  omega
theorem atB_err (xs : List Int) (i : Int) : 0 ≤ (atB xs i).2 ∧ (atB xs i).2 ≤ 2 := by
  unfold atB
  split <;> simp
end Gim
namespace Go.Proofs.YtfmpnfgegcgcaaaDoor
open Go.RowKit Gim
set_option maxRecDepth 100000 in
set_option maxHeartbeats 8000000 in
theorem runesBytes_walk (ao : Option Addr) (n cap : Nat) (xs : List Int) (i : Int) (w : World) (h : Rd w .u8 ao n cap xs) (hnone : ao = none → n = 0 ∧ cap = 0) (hwf : ∀ x ∈ xs, (Lit.int .u8 x).wf = true) (hn : n ≤ 1048576) (_ : (Lit.int .i64 i).wf = true) (hT : U8 w) :
    Calls Tryd.prog 5 #[.slice ao n cap, .int .i64 i] w fun e w' => e = .returned (.bool true) ∧ Below w.heap.size w w' := by
  have hxs : ∀ x ∈ xs, 0 ≤ x ∧ x ≤ 255 := fun x hx => wf_u8 (hwf x hx)
  have hl := h.len
  have htk : (xs ++ [71, 72, 73]).take n = xs := by rw [← hl]; exact List.take_left
  have hb := nextB_bounds hxs i
  have he := atB_err xs i
  rw [hl] at hb
  have HXS := Lib.hid hxs
  have HTK := Lib.hid htk
  have HG := gt_all hl hxs
  clear hwf hl htk hxs
  go_enter Tryd.func5, Tryd.ntmps5
  go_wp2_with fail
  refine (awake_calls _ hT).mono ?_
  rintro e w1 ⟨rfl, k1⟩
  go_wp2_with fail
  refine (laid_calls w1 _ _ _ _ (h.below k1) hnone (by omega)).mono ?_
  rintro e w2 ⟨a2, c2, rfl, rd2, k2, hn2⟩
  have b2 := k1.trans (k2.mono k1.size)
  have r2 := rd2.take (m := n) (by omega)
  rw [HTK.out] at r2
  clear k1 k2
  go_wp2_with fail
  refine (next_calls i w2 _ _ _ _ ⟨r2, HG⟩ (U8.below hT b2) (by omega)).mono ?_
  rintro e w3 ⟨rfl, k3⟩
  have b3 := b2.trans (k3.mono b2.size)
  have rd3 := rd2.below k3
  have r3 := r2.below k3
  clear k3 b2 r2 rd2
  go_wp2_with fail
  refine (refNext_calls i w3 _ _ _ _ ⟨h.below b3, HG⟩ HXS.out (by omega)).mono ?_
  rintro e w4 ⟨rfl, rfl⟩
  have cA := at_calls i w4 _ _ _ _ ⟨r3, HG⟩ (by omega)
  obtain ⟨⟨q1, q2, q3, q4⟩, hq⟩ : ∃ q, q = nextB xs i := ⟨_, rfl⟩
  rw [← hq] at hb ⊢
  dsimp only at hb ⊢
  obtain ⟨t1, t2, t3, t4, t5, t6, t7, t8⟩ := hb
  clear hq
  obtain ⟨⟨⟨p1, p2, p3, p4⟩, pe⟩, hp⟩ : ∃ p, p = atB xs i := ⟨_, rfl⟩
  have HP := Lib.hid hp
  rw [← hp] at he cA
  dsimp only at he cA
  clear hp
  obtain ⟨he0, he2⟩ := he
  go_wp2_with fail
  refine cA.mono ?_
  rintro e w5 ⟨rfl, k5⟩
  have b5 := b3.trans (k5.mono b3.size)
  have rd5 := rd3.below k5
  have r5 := r3.below k5
  clear k5 b3 rd3 r3 cA
  go_wp2_with fail
  have hp5 := heap_alloc_new w5 (.cells #[.int .i64 p1, .int .i64 p2, .int .i64 p3, .int .i64 p4] 43)
  obtain ⟨w5a, hw5⟩ : ∃ w5a, w5a = w5.alloc (.cells #[.int .i64 p1, .int .i64 p2, .int .i64 p3, .int .i64 p4] 43) := ⟨_, rfl⟩
  have k5 : Below w5.heap.size w5 w5a := by rw [hw5]; exact (Below.refl _ _).alloc (Nat.le_refl _) _
  rw [← hw5] at hp5 ⊢
  have b5a := b5.trans (k5.mono b5.size)
  have rd5a := rd5.below k5
  have r5a := r5.below k5
  obtain ⟨A1, hA1⟩ : ∃ A, A = w5.heap.size := ⟨_, rfl⟩
  rw [← hA1] at hp5 ⊢
  clear hw5 k5 b5 rd5 r5 hA1
  refine (refAt_calls i w5a _ _ _ _ ⟨h.below b5a, HG⟩ HXS.out (by omega)).mono ?_
  rintro e w6 ⟨rfl, k6⟩
  rw [← HP.out]
  dsimp only
  have hp6 := (k6.block A1 (Array.getElem?_eq_some_iff.1 hp5).1).trans hp5
  have b6 := b5a.trans (k6.mono b5a.size)
  have rd6 := rd5a.below k6
  have r6 := r5a.below k6
  clear k6 b5a rd5a r5a hp5
  have c0 : w6.cell? ⟨A1, 0, none⟩ = some (.int .i64 p1) := by simp [World.cell?, hp6]
  have c1 : w6.cell? ⟨A1, 1, none⟩ = some (.int .i64 p2) := by simp [World.cell?, hp6]
  have c2 : w6.cell? ⟨A1, 2, none⟩ = some (.int .i64 p3) := by simp [World.cell?, hp6]
  have c3 : w6.cell? ⟨A1, 3, none⟩ = some (.int .i64 p4) := by simp [World.cell?, hp6]
  have hA1 := (Array.getElem?_eq_some_iff.1 hp6).1
  have hAne : ¬ A1 = w6.heap.size := by omega
  go_wp2_with fail
  obtain ⟨w7, hw7⟩ : ∃ w7, w7 = w6.alloc (.cells #[.int .i64 p1, .int .i64 p2, .int .i64 p3, .int .i64 p4] 46) := ⟨_, rfl⟩
  have k7 : Below w6.heap.size w6 w7 := by rw [hw7]; exact (Below.refl _ _).alloc (Nat.le_refl _) _
  rw [← hw7]
  have b7 := b6.trans (k7.mono b6.size)
  have rd7 := rd6.below k7
  have r7 := r6.below k7
  clear hw7 k7 b6 rd6 r6 c0 c1 c2 c3 hp6 hA1 hAne
  refine (place_calls w7 p1 p2 p3 p4).mono ?_
  rintro e w8 ⟨rfl, k8⟩
  have b8 := b7.trans (k8.mono b7.size)
  have rd8 := rd7.below k8
  have r8 := r7.below k8
  clear k8 b7 rd7 r7
  go_wp2_with fail
  refine (good_calls w8 _ _ _ _ ⟨r8, HG⟩ (U8.below hT b8) (by omega)).mono ?_
  rintro e w9 ⟨rfl, k9⟩
  have b9 := b8.trans (k9.mono b8.size)
  have rd9 := rd8.below k9
  clear k9 b8 rd8 r8
  go_wp2_with fail
  refine (refGood_calls w9 _ _ _ _ ⟨h.below b9, HG⟩ HXS.out (by omega)).mono ?_
  rintro e wa ⟨rfl, rfl⟩
  go_wp2_with fail
  refine (kept_calls wa _ _ _ _ rd9 _ _ (h.below b9) (by omega)).mono ?_
  rintro e wb ⟨rfl, hd⟩
  go_wp2
  go_ret
  exact ⟨rfl, b9.trans (hd.below _)⟩
end Go.Proofs.YtfmpnfgegcgcaaaDoor
