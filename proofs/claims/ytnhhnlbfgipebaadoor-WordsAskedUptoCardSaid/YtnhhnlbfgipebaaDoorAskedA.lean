/- The walks of gimletref03.Length, Reverse, order, Compare, Units, CompareUnits. -/
import Derived.Test.YtnhhnlbfgipebaaDoorUnits
import Derived.Test.YtnhhnlbfgipebaaDoorRev
import Derived.Test.YtnhhnlbfgipebaaDoorOrdMath
import Derived.Test.YtnhhnlbfgipebaaDoorTr
import Derived.Test.YtnhhnlbfgipebaaDoorBord
namespace Gim
/-- the places from the end, so many of them written -/
def revP (l : List Int) (i : Nat) : List Int := (List.range l.length).map fun j => if l.length ≤ j + i then gt l (l.length - 1 - j) else 0
theorem revP_length (l : List Int) (i : Nat) : (revP l i).length = l.length := by simp [revP]
theorem revP_zero (l : List Int) : revP l 0 = List.replicate l.length 0 := by
  apply List.ext_getElem?
  intro j
  by_cases h : j < l.length
  · simp [revP, h]
    omega
  · rw [List.getElem?_eq_none (by simp [revP]; omega), List.getElem?_eq_none (by simp; omega)]
theorem revP_step {l : List Int} {i : Nat} (h : i < l.length) : (revP l i).set (l.length - 1 - i) (gt l i) = revP l (i + 1) := by
  apply List.ext_getElem?
  intro j
  by_cases hj : j < l.length
  · rw [List.getElem?_set]
    simp only [revP_length]
    by_cases h1 : l.length - 1 - i = j
    · rw [if_pos h1, if_pos (by omega)]
      simp only [revP, List.getElem?_map, List.getElem?_range hj, Option.map_some]
      rw [if_pos (by omega), show l.length - 1 - j = i by omega]
    · rw [if_neg h1]
      simp only [revP, List.getElem?_map, List.getElem?_range hj, Option.map_some]
      by_cases h2 : l.length ≤ j + i
      · rw [if_pos h2, if_pos (by omega)]
      · rw [if_neg h2, if_neg (by omega)]
  · rw [List.getElem?_eq_none (by simp [revP_length]; omega), List.getElem?_eq_none (by simp [revP_length]; omega)]
theorem revP_done (l : List Int) : revP l l.length = l.reverse := by
  refine gt_ext (by simp [revP_length]) fun j hj => ?_
  rw [revP_length] at hj
  unfold gt
  rw [List.getElem?_reverse hj]
  simp only [revP, List.getElem?_map, List.getElem?_range hj, Option.map_some]
  rw [if_pos (by omega)]
  simp [gt]
end Gim
namespace Go.Proofs.YtnhhnlbfgipebaaDoor
open Go.RowKit Gim
set_option maxHeartbeats 1000000 in
theorem refLength (s : ByteArray) (w : World) (hs : s.size ≤ 1099511627776) :
    Calls Tryd.prog 7 #[.string s] w fun e w' => e = .returned (.int .i64 (rs s).length) ∧ Below w.heap.size w w' := by
  go_enter Tryd.func7, Tryd.ntmps7
  go_wp2_with fail
  refine (refRunes _ _ hs).mono ?_
  rintro e w1 ⟨v1, rfl, hr1, hb1⟩
  obtain ⟨a1, c1, rfl, rd1⟩ := hr1.rd
  go_wp2
  go_ret
  exact ⟨rfl, hb1⟩
set_option maxHeartbeats 1000000 in
theorem order_calls (a b : Int) (w : World) : Calls Tryd.prog 28 #[.int .i64 a, .int .i64 b] w fun e w' => e = .returned (.int .i64 (if a < b then -1 else if b < a then 1 else 0)) ∧ w' = w := by
  by_cases h1 : a < b
  · rw [if_pos h1]
    go_enter Tryd.func28, Tryd.ntmps28
    go_wp2
    go_ret
    exact ⟨rfl, rfl⟩
  · rw [if_neg h1]
    by_cases h2 : b < a
    · rw [if_pos h2]
      go_enter Tryd.func28, Tryd.ntmps28
      go_wp2
      go_ret
      exact ⟨rfl, rfl⟩
    · rw [if_neg h2]
      go_enter Tryd.func28, Tryd.ntmps28
      go_wp2
      go_ret
      exact ⟨rfl, rfl⟩
set_option maxHeartbeats 2000000 in
theorem refCompare (s t : ByteArray) (w : World) (hs : s.size ≤ 1099511627776) (ht : t.size ≤ 1099511627776) :
    Calls Tryd.prog 15 #[.string s, .string t] w fun e w' => e = .returned (.int .i64 (ordI (rs s) (rs t))) ∧ Below w.heap.size w w' := by
  have ls := rs_length s
  have lt := rs_length t
  go_enter Tryd.func15, Tryd.ntmps15
  go_wp2_with fail
  refine (refRunes _ _ hs).mono ?_
  rintro e w1 ⟨v1, rfl, hr1, hb1⟩
  obtain ⟨a1, c1, rfl, rd1⟩ := hr1.rd
  go_wp2_with fail
  refine (refRunes _ _ ht).mono ?_
  rintro e w2 ⟨v2, rfl, hr2, hb2⟩
  obtain ⟨a2, c2, rfl, rd2⟩ := hr2.rd
  have rd1 := rd1.below hb2
  have hbw := hb1.trans (hb2.mono hb1.size)
  obtain ⟨l, hl⟩ : ∃ l, l = rs s := ⟨_, rfl⟩
  obtain ⟨t', ht'⟩ : ∃ l, l = rs t := ⟨_, rfl⟩
  rw [← hl] at rd1 ls ⊢
  rw [← ht'] at rd2 lt ⊢
  have HO := Lib.hid (show ordI (rs s) (rs t) = ordI l t' by rw [hl, ht'])
  obtain ⟨n, hn⟩ : ∃ n, n = l.length := ⟨_, rfl⟩
  obtain ⟨m, hm⟩ : ∃ m, m = t'.length := ⟨_, rfl⟩
  have HN := Lib.hid hn
  have HM := Lib.hid hm
  rw [← hn] at rd1 ls ⊢
  rw [← hm] at rd2 lt ⊢
  clear hl ht' hr1 hr2 hb1 hb2 hn hm
  go_wp2
  go_loopw [7] (fun y wr => ∃ i : Nat, y = .int .i64 i ∧ i ≤ n ∧ i ≤ m ∧ Drew w2 wr ∧ Hid (∀ j, j < i → gt l j = gt t' j)) (fun y _ => n - (intOf y).toNat)
  case atStart => exact ⟨0, rfl, by omega, by omega, Drew.refl _, Lib.hid (fun j hj => by omega)⟩
  case round =>
    obtain ⟨i, rfl, hin, him, hd, H⟩ := hrel
    by_cases h1 : i < n
    · by_cases h2 : i < m
      · obtain ⟨b, o, rfl, hb, hc⟩ := (rd1.below (hd.below _)).cell i h1
        obtain ⟨b2, o2, rfl, hb2, hc2⟩ := (rd2.below (hd.below _)).cell i h2
        have k1 := hc i h1
        have k2 := hc2 i h2
        obtain ⟨x, hx⟩ : ∃ x, x = gt l i := ⟨_, rfl⟩
        obtain ⟨y, hy⟩ : ∃ y, y = gt t' i := ⟨_, rfl⟩
        have HX := Lib.hid hx
        have HY := Lib.hid hy
        rw [← hx] at k1
        rw [← hy] at k2
        have K1 := Lib.hid (fun nq => show (wr.drewN nq).cell? ⟨b, o + i, none⟩ = some (.int .i32 x) from k1)
        have K2 := Lib.hid (fun nq => show (wr.drewN nq).cell? ⟨b2, o2 + i, none⟩ = some (.int .i32 y) from k2)
        clear hx hy hc hc2
        by_cases hlt : x < y
        · have HE := Lib.hid (HO.out.trans (ordI_less (by rw [← HN.out]; exact h1) (by rw [← HM.out]; exact h2) H.out (by rw [← HX.out, ← HY.out]; exact hlt)))
          go_wp2
          go_quiet (fail)
          go_wp2
          go_ret
          exact ⟨by rw [HE.out]; rfl, hbw.trans ((hd.drewN nq).below _)⟩
        · by_cases hgt : y < x
          · have HE := Lib.hid (HO.out.trans (ordI_greater (by rw [← HN.out]; exact h1) (by rw [← HM.out]; exact h2) H.out (by rw [← HX.out, ← HY.out]; exact hgt)))
            have d1 : decide (x < y) = false := by simp; omega
            have d2 : decide (y < x) = true := by simp; omega
            go_wp2
            go_quiet (fail)
            obtain ⟨wq, hq⟩ : ∃ wq, wq = wr.drewN nq := ⟨_, rfl⟩
            have k1 := K1.out nq
            have k2 := K2.out nq
            have hdq := hd.drewN nq
            rw [← hq] at k1 k2 hdq ⊢
            clear hq
            go_wp2
            go_quiet (fail)
            go_wp2
            go_ret
            exact ⟨by rw [HE.out]; rfl, hbw.trans ((hdq.drewN _).below _)⟩
          · have HQ := Lib.hid (fun j (hj : j < i + 1) => show gt l j = gt t' j by
              by_cases hji : j = i
              · rw [hji, ← HX.out, ← HY.out]; omega
              · exact H.out j (by omega))
            have d1 : decide (x < y) = false := by simp; omega
            have d2 : decide (y < x) = false := by simp; omega
            go_wp2
            go_quiet (fail)
            obtain ⟨wq, hq⟩ : ∃ wq, wq = wr.drewN nq := ⟨_, rfl⟩
            have k1 := K1.out nq
            have k2 := K2.out nq
            have hdq := hd.drewN nq
            rw [← hq] at k1 k2 hdq ⊢
            clear hq
            go_wp2
            go_quiet (fail)
            go_wp2
            go_roundw
            case rel => exact ⟨i + 1, by go_num, by omega, by omega, hdq.drewN _, HQ⟩
            case measure => simp [intOf]; omega
      · have hE : ordI l t' = if (n : Int) < m then -1 else if (m : Int) < n then 1 else 0 := by
          rw [if_neg (by omega), if_pos (by omega)]
          exact ordI_long (fun j hj => H.out j (by rw [← HM.out] at hj; omega)) (by rw [← HN.out, ← HM.out]; omega)
        have cO := order_calls n m wr
        obtain ⟨z, hz⟩ : ∃ z : Int, z = if (n : Int) < m then -1 else if (m : Int) < n then 1 else 0 := ⟨_, rfl⟩
        rw [← hz] at hE cO
        have HE := Lib.hid (HO.out.trans hE)
        clear hE H hz
        go_wp2_with fail
        refine cO.mono ?_
        rintro e w3 ⟨rfl, rfl⟩
        go_wp2
        go_ret
        exact ⟨by rw [HE.out]; rfl, hbw.trans (hd.below _)⟩
    · have hE : ordI l t' = if (n : Int) < m then -1 else if (m : Int) < n then 1 else 0 := by
        by_cases hnm : n < m
        · rw [if_pos (by omega)]
          exact ordI_short (fun j hj => H.out j (by rw [← HN.out] at hj; omega)) (by rw [← HN.out, ← HM.out]; omega)
        · rw [if_neg (by omega), if_neg (by omega)]
          have hlt : l = t' := gt_ext (by rw [← HN.out, ← HM.out]; omega) (fun j hj => H.out j (by rw [← HN.out] at hj; omega))
          rw [hlt]
          exact ordI_self _
      have cO := order_calls n m wr
      obtain ⟨z, hz⟩ : ∃ z : Int, z = if (n : Int) < m then -1 else if (m : Int) < n then 1 else 0 := ⟨_, rfl⟩
      rw [← hz] at hE cO
      have HE := Lib.hid (HO.out.trans hE)
      clear hE H hz
      go_wp2_with fail
      refine cO.mono ?_
      rintro e w3 ⟨rfl, rfl⟩
      go_wp2
      go_ret
      exact ⟨by rw [HE.out]; rfl, hbw.trans (hd.below _)⟩
set_option maxHeartbeats 2000000 in
theorem refReverse (s : ByteArray) (w : World) (hs : s.size ≤ 1099511627776) :
    Calls Tryd.prog 13 #[.string s] w fun e w' => e = .returned (.string (runesBytes (rs s).reverse)) ∧ Below w.heap.size w w' := by
  obtain ⟨i0, hi, hz0, hz1, hz2⟩ := info_parts info_rune
  have ls := rs_length s
  obtain ⟨l, hl⟩ : ∃ l, l = rs s := ⟨_, rfl⟩
  rw [← hl] at ls ⊢
  have HLS := Lib.hid hl
  obtain ⟨n, hn⟩ : ∃ n, n = l.length := ⟨_, rfl⟩
  have HN := Lib.hid hn
  rw [← hn] at ls
  clear hl hn
  go_enter Tryd.func13, Tryd.ntmps13
  go_wp2_with fail
  refine (refRunes _ _ hs).mono ?_
  rintro e w1 ⟨v1, rfl, hr1, hb1⟩
  rw [← HLS.out] at hr1
  obtain ⟨a1, c1, rfl, rd1⟩ := hr1.rd
  rw [← HN.out] at rd1 ⊢
  clear hr1
  have HRL := Lib.hid (fun i => revP_length l i)
  go_wp2_with (at_make; refine wpList_make_full _ rfl _ _ 33 rfl w.heap.size 21 i0 (.int .i32 0) 1 Tryd.underlying33 hi hz0 hz1 _ _ _ _ n rfl rfl rfl rfl (by rw [hz2]; omega) (by unfold maxLen; omega) hb1.size ?_; intro w2 hown2 hgrow2)
  have hb2 : Below w1.heap.size w1 w2 := (Below.refl _ _).grown hgrow2 (Nat.le_refl _) (fun k hk => by cases hk)
  rw [madeInts] at hown2
  have hrow2 : Row w2 w.heap.size 21 .i32 (.slice (some ⟨w1.heap.size, 0, none⟩) n n) (revP l 0) := by
    unfold Row; rw [revP_length, revP_zero, ← HN.out]; exact hown2
  have hB := hb1.size
  clear hown2 hgrow2
  go_loopw [5] (fun y wr => ∃ i : Nat, y = .int .i64 i ∧ i ≤ n ∧ Row wr w.heap.size 21 .i32 (.slice (some ⟨w1.heap.size, 0, none⟩) n n) (revP l i) ∧ Below w1.heap.size w1 wr) (fun y _ => n - (intOf y).toNat)
  case atStart => exact ⟨0, rfl, by omega, hrow2, hb2⟩
  case round =>
    clear hrow2 hb2
    obtain ⟨i, rfl, hin, hrow, hb⟩ := hrel
    by_cases hi2 : i < n
    · obtain ⟨b, o, rfl, hbz, hc⟩ := (rd1.below hb).cell i hi2
      have k1 := hc i hi2
      have hfr := hrow.free (n - 1 - i)
      have hold := hrow.cell (j := n - 1 - i) (by rw [HRL.out, ← HN.out]; omega)
      have hnew := hrow.set' (n - 1 - i) (gt l i)
      have hst : (revP l i).set (n - 1 - i) (gt l i) = revP l (i + 1) := by rw [HN.out]; exact revP_step (by rw [← HN.out]; exact hi2)
      rw [hst] at hnew
      have e1 : (n : Int) - 1 - (i : Int) = ((n - 1 - i : Nat) : Int) := by omega
      obtain ⟨x, hx⟩ : ∃ x, x = gt l i := ⟨_, rfl⟩
      rw [← hx] at k1 hnew
      obtain ⟨q, hq⟩ : ∃ q, q = n - 1 - i := ⟨_, rfl⟩
      rw [← hq] at e1 hfr hold hnew
      have hqn : q < n := by omega
      clear hst hx hc hrow hq
      go_wp2
      exact ⟨⟨i + 1, by go_num, by omega, hnew, hb.setCell (p := ⟨w1.heap.size, q, none⟩) (Nat.le_refl _) _⟩, by simp [intOf]; omega⟩
    · obtain rfl : i = n := by omega
      have hd : revP l i = l.reverse := by rw [HN.out]; exact revP_done l
      rw [hd] at hrow
      have cT := text _ _ _ wr hrow
      have HE := Lib.hid (show l.reverse = (rs s).reverse by rw [HLS.out])
      clear hd hrow
      go_wp2_with fail
      refine cT.mono ?_
      rintro e w3 ⟨rfl, rfl⟩
      go_wp2
      go_ret
      exact ⟨rfl, hb1.trans (hb.mono hB)⟩
set_option maxHeartbeats 1000000 in
theorem refUnits (s : ByteArray) (w : World) (hs : s.size < 68719476736) :
    Calls Tryd.prog 30 #[.string s] w (GivesRow w 3 .i64 (unI (rs s))) := by
  have ls := rs_length s
  go_enter Tryd.func30, Tryd.ntmps30
  go_wp2
  go_loopw [3] (fun v wr => ∃ (pos k : Nat), Row wr w.heap.size 3 .i64 v (unI ((rs s).take k)) ∧ wr.heap[w.heap.size]? = some (.stringIter s pos) ∧ Below w.heap.size w wr ∧ Hid ((rs s).drop k = rsAt s pos) ∧ k ≤ pos ∧ k ≤ s.size) (fun _ wr => s.size - wr.iterPos w.heap.size)
  case atStart => exact ⟨0, 0, World.ownsRow_nil _ _ _ _, World.iter_heap w s 0, (Below.refl _ _).alloc (Nat.le_refl _) _, rfl, by omega, by omega⟩
  case round =>
    obtain ⟨pos, k, hrow, hit, hb, HD, hlen, hks⟩ := hrel
    have hpos0 := iterPos_of hit
    by_cases hp : pos < s.size
    · obtain ⟨W1, hnx, hw1⟩ := next_some (P := Tryd.prog) hit hp
      have hwd := Lib.decode_width_pos s pos hp
      obtain ⟨r, hr⟩ : ∃ r : Int, r = ((Utf8.decode s pos).1 : Int) := ⟨_, rfl⟩
      have hst := rs_step hp HD.out
      rw [← hr] at hnx hst
      have hrr : 0 ≤ r ∧ r ≤ 1114111 := by have := decode_nonneg_lt s pos; omega
      obtain ⟨hr0, hr1⟩ := hrr
      obtain ⟨hnl, hgr, hdr⟩ := hst
      have HD2 := Lib.hid hdr
      have HG := Lib.hid hgr
      have HT := Lib.hid (show unI ((rs s).take (k + 1)) = unI ((rs s).take k) ++ un1 r by rw [take_step hnl, HG.out, unI_snoc])
      have hlen2 : (unI ((rs s).take k)).length ≤ 2 * k := by have := unI_length ((rs s).take k); simp at this; omega
      have hb1 := hw1.below _ _ hb (Nat.le_refl _)
      have hrow1 : Row W1 w.heap.size 3 .i64 _ _ := hw1.owns _ _ _ _ _ _ hrow
      have hit2 := hw1.it
      have hsz1 := hb1.size
      clear hr hgr hdr hit hb HD hrow
      obtain ⟨o, ho⟩ : ∃ o, o = unI ((rs s).take k) := ⟨_, rfl⟩
      rw [← ho] at HT hlen2 hrow1
      clear ho
      by_cases hbig : 65535 < r
      · have HT2 := Lib.hid (HT.out.trans (by rw [show un1 r = [55296 + (r - 65536) / 1024, 56320 + (r - 65536) % 1024] by simp [un1, hbig]]))
        clear HT
        have h0 : (0 : Int) ≤ r - 65536 := by omega
        go_wp2_with (at_builtin; refine append2 _ rfl _ _ 41 rfl w.heap.size 3 .i64 8 info_int Tryd.underlying41 _ _ rfl hrow1 _ _ rfl (by omega) (by decide) (by omega) ?_; intro v' w3 hown' hgrow3)
        have hit3 := iter_grown hrow1 hgrow3 hit2
        have hb3 := hb1.grown hgrow3 hsz1 (fun j hj => (hrow1.lt _ hj).1)
        go_roundw
        case rel => exact ⟨_, k + 1, by rw [HT2.out]; exact hown', hit3, hb3, HD2, by omega, by omega⟩
        case measure => rw [iterPos_of hit3, hpos0]; omega
      · have HT2 := Lib.hid (HT.out.trans (by rw [show un1 r = [r] by simp [un1, hbig]]))
        clear HT
        go_wp2_with (at_builtin; refine append1 _ rfl _ _ 41 rfl w.heap.size 3 .i64 8 info_int Tryd.underlying41 _ _ rfl hrow1 _ rfl (by omega) (by decide) (by omega) ?_; intro v' w3 hown' hgrow3)
        have hit3 := iter_grown hrow1 hgrow3 hit2
        have hb3 := hb1.grown hgrow3 hsz1 (fun j hj => (hrow1.lt _ hj).1)
        go_roundw
        case rel => exact ⟨_, k + 1, by rw [HT2.out]; exact hown', hit3, hb3, HD2, by omega, by omega⟩
        case measure => rw [iterPos_of hit3, hpos0]; omega
    · have hnx : ∀ ty, (Instr.next (.pointer (some ⟨w.heap.size, 0, none⟩)) true ty).run Tryd.prog wr = _ := fun ty => Lib.run_next_end_at wr w.heap.size s pos ty hit hp
      have hstop := rs_stop hp HD.out
      have HF := Lib.hid (show unI ((rs s).take k) = unI (rs s) by rw [List.take_of_length_le hstop])
      rw [HF.out] at hrow
      clear hstop HF
      go_wp2
      go_ret
      exact ⟨_, rfl, hrow, hb⟩
set_option maxHeartbeats 2000000 in
theorem refCompareUnits (s t : ByteArray) (w : World) (hs : s.size ≤ 1048576) (ht : t.size ≤ 1048576) :
    Calls Tryd.prog 17 #[.string s, .string t] w fun e w' => e = .returned (.int .i64 (ordI (unI (rs s)) (unI (rs t)))) ∧ Below w.heap.size w w' := by
  have ls := rs_length s
  have lt := rs_length t
  have lus := unI_length (rs s)
  have lut := unI_length (rs t)
  go_enter Tryd.func17, Tryd.ntmps17
  go_wp2_with fail
  refine (refUnits _ _ (by omega)).mono ?_
  rintro e w1 ⟨v1, rfl, hr1, hb1⟩
  obtain ⟨a1, c1, rfl, rd1⟩ := hr1.rd
  go_wp2_with fail
  refine (refUnits _ _ (by omega)).mono ?_
  rintro e w2 ⟨v2, rfl, hr2, hb2⟩
  obtain ⟨a2, c2, rfl, rd2⟩ := hr2.rd
  have rd1 := rd1.below hb2
  have hbw := hb1.trans (hb2.mono hb1.size)
  obtain ⟨l, hl⟩ : ∃ l, l = unI (rs s) := ⟨_, rfl⟩
  obtain ⟨t', ht'⟩ : ∃ l, l = unI (rs t) := ⟨_, rfl⟩
  rw [← hl] at rd1 lus ⊢
  rw [← ht'] at rd2 lut ⊢
  have HO := Lib.hid (show ordI (unI (rs s)) (unI (rs t)) = ordI l t' by rw [hl, ht'])
  obtain ⟨n, hn⟩ : ∃ n, n = l.length := ⟨_, rfl⟩
  obtain ⟨m, hm⟩ : ∃ m, m = t'.length := ⟨_, rfl⟩
  have HN := Lib.hid hn
  have HM := Lib.hid hm
  rw [← hn] at rd1 lus ⊢
  rw [← hm] at rd2 lut ⊢
  clear hl ht' hr1 hr2 hb1 hb2 hn hm
  go_wp2
  go_loopw [7] (fun y wr => ∃ i : Nat, y = .int .i64 i ∧ i ≤ n ∧ i ≤ m ∧ Drew w2 wr ∧ Hid (∀ j, j < i → gt l j = gt t' j)) (fun y _ => n - (intOf y).toNat)
  case atStart => exact ⟨0, rfl, by omega, by omega, Drew.refl _, Lib.hid (fun j hj => by omega)⟩
  case round =>
    obtain ⟨i, rfl, hin, him, hd, H⟩ := hrel
    by_cases h1 : i < n
    · by_cases h2 : i < m
      · obtain ⟨b, o, rfl, hb, hc⟩ := (rd1.below (hd.below _)).cell i h1
        obtain ⟨b2, o2, rfl, hb2, hc2⟩ := (rd2.below (hd.below _)).cell i h2
        have k1 := hc i h1
        have k2 := hc2 i h2
        obtain ⟨x, hx⟩ : ∃ x, x = gt l i := ⟨_, rfl⟩
        obtain ⟨y, hy⟩ : ∃ y, y = gt t' i := ⟨_, rfl⟩
        have HX := Lib.hid hx
        have HY := Lib.hid hy
        rw [← hx] at k1
        rw [← hy] at k2
        clear hx hy hc hc2
        by_cases hxy : x = y
        · have HQ := Lib.hid (fun j (hj : j < i + 1) => show gt l j = gt t' j by
            by_cases hji : j = i
            · rw [hji, ← HX.out, ← HY.out]; exact hxy
            · exact H.out j (by omega))
          subst hxy
          go_wp2
          go_quiet (fail)
          go_wp2
          go_roundw
          case rel => exact ⟨i + 1, by go_num, by omega, by omega, hd.drewN _, HQ⟩
          case measure => simp [intOf]; omega
        · have hE : ordI l t' = if x < y then -1 else if y < x then 1 else 0 := by
            by_cases hlt : x < y
            · rw [if_pos hlt]
              exact ordI_less (by rw [← HN.out]; exact h1) (by rw [← HM.out]; exact h2) H.out (by rw [← HX.out, ← HY.out]; exact hlt)
            · rw [if_neg hlt, if_pos (by omega)]
              exact ordI_greater (by rw [← HN.out]; exact h1) (by rw [← HM.out]; exact h2) H.out (by rw [← HX.out, ← HY.out]; omega)
          have hne : (x != y) = true := by simpa using hxy
          have K1 := Lib.hid (fun nq => show (wr.drewN nq).cell? ⟨b, o + i, none⟩ = some (.int .i64 x) from k1)
          have K2 := Lib.hid (fun nq => show (wr.drewN nq).cell? ⟨b2, o2 + i, none⟩ = some (.int .i64 y) from k2)
          obtain ⟨z, hz⟩ : ∃ z : Int, z = if x < y then -1 else if y < x then 1 else 0 := ⟨_, rfl⟩
          have HCO := Lib.hid (fun wx => order_calls x y wx)
          rw [← hz] at hE HCO
          have HE := Lib.hid (HO.out.trans hE)
          clear hE H hz hxy
          go_wp2
          go_quiet (fail)
          obtain ⟨wq, hq⟩ : ∃ wq, wq = wr.drewN nq := ⟨_, rfl⟩
          have k1 := K1.out nq
          have k2 := K2.out nq
          have hdq := hd.drewN nq
          rw [← hq] at k1 k2 hdq ⊢
          clear hq
          go_wp2
          go_quiet ((exact Calls.quiet_of_same (HCO.out _)))
          go_wp2
          go_ret
          exact ⟨by rw [HE.out]; rfl, hbw.trans ((hdq.drewN _).below _)⟩
      · have hE : ordI l t' = if (n : Int) < m then -1 else if (m : Int) < n then 1 else 0 := by
          rw [if_neg (by omega), if_pos (by omega)]
          exact ordI_long (fun j hj => H.out j (by rw [← HM.out] at hj; omega)) (by rw [← HN.out, ← HM.out]; omega)
        have cO := order_calls n m wr
        obtain ⟨z, hz⟩ : ∃ z : Int, z = if (n : Int) < m then -1 else if (m : Int) < n then 1 else 0 := ⟨_, rfl⟩
        rw [← hz] at hE cO
        have HE := Lib.hid (HO.out.trans hE)
        clear hE H hz
        go_wp2_with fail
        refine cO.mono ?_
        rintro e w3 ⟨rfl, rfl⟩
        go_wp2
        go_ret
        exact ⟨by rw [HE.out]; rfl, hbw.trans (hd.below _)⟩
    · have hE : ordI l t' = if (n : Int) < m then -1 else if (m : Int) < n then 1 else 0 := by
        by_cases hnm : n < m
        · rw [if_pos (by omega)]
          exact ordI_short (fun j hj => H.out j (by rw [← HN.out] at hj; omega)) (by rw [← HN.out, ← HM.out]; omega)
        · rw [if_neg (by omega), if_neg (by omega)]
          have hlt : l = t' := gt_ext (by rw [← HN.out, ← HM.out]; omega) (fun j hj => H.out j (by rw [← HN.out] at hj; omega))
          rw [hlt]
          exact ordI_self _
      have cO := order_calls n m wr
      obtain ⟨z, hz⟩ : ∃ z : Int, z = if (n : Int) < m then -1 else if (m : Int) < n then 1 else 0 := ⟨_, rfl⟩
      rw [← hz] at hE cO
      have HE := Lib.hid (HO.out.trans hE)
      clear hE H hz
      go_wp2_with fail
      refine cO.mono ?_
      rintro e w3 ⟨rfl, rfl⟩
      go_wp2
      go_ret
      exact ⟨by rw [HE.out]; rfl, hbw.trans (hd.below _)⟩
end Go.Proofs.YtnhhnlbfgipebaaDoor
