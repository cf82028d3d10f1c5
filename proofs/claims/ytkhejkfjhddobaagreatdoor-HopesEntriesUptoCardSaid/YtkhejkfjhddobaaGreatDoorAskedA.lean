/- The walks of gimletref03.Length, Reverse, order, Compare, Units, CompareUnits. -/
import Derived.Test.YtkhejkfjhddobaaGreatDoorUnitsM
import Derived.Test.YtkhejkfjhddobaaGreatDoorRevM
import Derived.Test.YtkhejkfjhddobaaGreatDoorKmpM
namespace Gim
/-- the places from the end, so many of them written -/
def revP (l : List Int) (i : Nat) : List Int := (List.range l.length).map fun j => if l.length ≤ j + i then gt l (l.length - 1 - j) else 0
theorem revP_length (l : List Int) (i : Nat) : (revP l i).length = l.length := by simp [revP]
theorem revP_zero (l : List Int) : revP l 0 = List.replicate l.length 0 := by
  apply List.ext_getElem?
  intro j
  by_cases h : j < l.length
  · simp [revP, h]
    omega
  · rw [List.getElem?_eq_none (by simp [revP]; omega), List.getElem?_eq_none (by simp; omega)]
theorem revP_step {l : List Int} {i : Nat} (h : i < l.length) : (revP l i).set (l.length - 1 - i) (gt l i) = revP l (i + 1) := by
  apply List.ext_getElem?
  intro j
  by_cases hj : j < l.length
  · rw [List.getElem?_set]
    simp only [revP_length]
    by_cases h1 : l.length - 1 - i = j
    · rw [if_pos h1, if_pos (by omega)]
      simp only [revP, List.getElem?_map, List.getElem?_range hj, Option.map_some]
      rw [if_pos (by omega), show l.length - 1 - j = i by omega]
    · rw [if_neg h1]
      simp only [revP, List.getElem?_map, List.getElem?_range hj, Option.map_some]
      by_cases h2 : l.length ≤ j + i
      · rw [if_pos h2, if_pos (by omega)]
      · rw [if_neg h2, if_neg (by omega)]
  · rw [List.getElem?_eq_none (by simp [revP_length]; omega), List.getElem?_eq_none (by simp [revP_length]; omega)]
theorem revP_done (l : List Int) : revP l l.length = l.reverse := by
  refine gt_ext (by simp [revP_length]) fun j hj => ?_
  rw [revP_length] at hj
  unfold gt
  rw [List.getElem?_reverse hj]
  simp only [revP, List.getElem?_map, List.getElem?_range hj, Option.map_some]
  rw [if_pos (by omega)]
  simp [gt]
end Gim
namespace Go.Proofs.YtkhejkfjhddobaaGreatDoor
open Go.RowKit Gim
set_option maxHeartbeats 1000000 in
theorem refLength (s : ByteArray) (w : World) (hs : s.size ≤ 1099511627776) :
    Calls Tryz.prog 114 #[.string s] w fun e w' => e = .returned (.int .i64 (rs s).length) ∧ Below w.heap.size w w' := by
  go_enter Tryz.func114, Tryz.ntmps114
  go_wp2_with fail
  refine (refRunes _ _ hs).mono ?_
  rintro e w1 ⟨v1, rfl, hr1, hb1⟩
  obtain ⟨a1, c1, rfl, rd1⟩ := hr1.rd
  go_wp2
  go_ret
  exact ⟨rfl, hb1⟩
set_option maxHeartbeats 1000000 in
theorem order_calls (a b : Int) (w : World) : Calls Tryz.prog 72 #[.int .i64 a, .int .i64 b] w fun e w' => e = .returned (.int .i64 (if a < b then -1 else if b < a then 1 else 0)) ∧ w' = w := by
  by_cases h1 : a < b
  · rw [if_pos h1]
    go_enter Tryz.func72, Tryz.ntmps72
    go_wp2
    go_ret
    exact ⟨rfl, rfl⟩
  · rw [if_neg h1]
    by_cases h2 : b < a
    · rw [if_pos h2]
      go_enter Tryz.func72, Tryz.ntmps72
      go_wp2
      go_ret
      exact ⟨rfl, rfl⟩
    · rw [if_neg h2]
      go_enter Tryz.func72, Tryz.ntmps72
      go_wp2
      go_ret
      exact ⟨rfl, rfl⟩
set_option maxHeartbeats 2000000 in
theorem refCompare (s t : ByteArray) (w : World) (hs : s.size ≤ 1099511627776) (ht : t.size ≤ 1099511627776) :
    Calls Tryz.prog 42 #[.string s, .string t] w fun e w' => e = .returned (.int .i64 (ordI (rs s) (rs t))) ∧ Below w.heap.size w w' := by
  have ls := rs_length s
  have lt := rs_length t
  go_enter Tryz.func42, Tryz.ntmps42
  go_wp2_with fail
  refine (refRunes _ _ hs).mono ?_
  rintro e w1 ⟨v1, rfl, hr1, hb1⟩
  obtain ⟨a1, c1, rfl, rd1⟩ := hr1.rd
  go_wp2_with fail
  refine (refRunes _ _ ht).mono ?_
  rintro e w2 ⟨v2, rfl, hr2, hb2⟩
  obtain ⟨a2, c2, rfl, rd2⟩ := hr2.rd
  have rd1 := rd1.below hb2
  have hbw := hb1.trans (hb2.mono hb1.size)
  obtain ⟨l, hl⟩ : ∃ l, l = rs s := ⟨_, rfl⟩
  obtain ⟨t', ht'⟩ : ∃ l, l = rs t := ⟨_, rfl⟩
  rw [← hl] at rd1 ls ⊢
  rw [← ht'] at rd2 lt ⊢
  have HO := Lib.hid (show ordI (rs s) (rs t) = ordI l t' by rw [hl, ht'])
  obtain ⟨n, hn⟩ : ∃ n, n = l.length := ⟨_, rfl⟩
  obtain ⟨m, hm⟩ : ∃ m, m = t'.length := ⟨_, rfl⟩
  have HN := Lib.hid hn
  have HM := Lib.hid hm
  rw [← hn] at rd1 ls ⊢
  rw [← hm] at rd2 lt ⊢
  clear hl ht' hr1 hr2 hb1 hb2 hn hm
  go_wp2
  go_loopw [7] (fun y wr => ∃ i : Nat, y = .int .i64 i ∧ i ≤ n ∧ i ≤ m ∧ Drew w2 wr ∧ Hid (∀ j, j < i → gt l j = gt t' j)) (fun y _ => n - (intOf y).toNat)
  case atStart => exact ⟨0, rfl, by omega, by omega, Drew.refl _, Lib.hid (fun j hj => by omega)⟩
  case round =>
    obtain ⟨i, rfl, hin, him, hd, H⟩ := hrel
    by_cases h1 : i < n
    · by_cases h2 : i < m
      · obtain ⟨b, o, rfl, hb, hc⟩ := (rd1.below (hd.below _)).cell i h1
        obtain ⟨b2, o2, rfl, hb2, hc2⟩ := (rd2.below (hd.below _)).cell i h2
        have k1 := hc i h1
        have k2 := hc2 i h2
        obtain ⟨x, hx⟩ : ∃ x, x = gt l i := ⟨_, rfl⟩
        obtain ⟨y, hy⟩ : ∃ y, y = gt t' i := ⟨_, rfl⟩
        have HX := Lib.hid hx
        have HY := Lib.hid hy
        rw [← hx] at k1
        rw [← hy] at k2
        have K1 := Lib.hid (fun nq => show (wr.drewN nq).cell? ⟨b, o + i, none⟩ = some (.int .i32 x) from k1)
        have K2 := Lib.hid (fun nq => show (wr.drewN nq).cell? ⟨b2, o2 + i, none⟩ = some (.int .i32 y) from k2)
        clear hx hy hc hc2
        by_cases hlt : x < y
        · have HE := Lib.hid (HO.out.trans (ordI_less (by rw [← HN.out]; exact h1) (by rw [← HM.out]; exact h2) H.out (by rw [← HX.out, ← HY.out]; exact hlt)))
          go_wp2
          go_quiet (fail)
          go_wp2
          go_ret
          exact ⟨by rw [HE.out]; rfl, hbw.trans ((hd.drewN nq).below _)⟩
        · by_cases hgt : y < x
          · have HE := Lib.hid (HO.out.trans (ordI_greater (by rw [← HN.out]; exact h1) (by rw [← HM.out]; exact h2) H.out (by rw [← HX.out, ← HY.out]; exact hgt)))
            have d1 : decide (x < y) = false := by simp; omega
            have d2 : decide (y < x) = true := by simp; omega
            go_wp2
            go_quiet (fail)
            obtain ⟨wq, hq⟩ : ∃ wq, wq = wr.drewN nq := ⟨_, rfl⟩
            have k1 := K1.out nq
            have k2 := K2.out nq
            have hdq := hd.drewN nq
            rw [← hq] at k1 k2 hdq ⊢
            clear hq
            go_wp2
            go_quiet (fail)
            go_wp2
            go_ret
            exact ⟨by rw [HE.out]; rfl, hbw.trans ((hdq.drewN _).below _)⟩
          · have HQ := Lib.hid (fun j (hj : j < i + 1) => show gt l j = gt t' j by
              by_cases hji : j = i
              · rw [hji, ← HX.out, ← HY.out]; omega
              · exact H.out j (by omega))
            have d1 : decide (x < y) = false := by simp; omega
            have d2 : decide (y < x) = false := by simp; omega
            go_wp2
            go_quiet (fail)
            obtain ⟨wq, hq⟩ : ∃ wq, wq = wr.drewN nq := ⟨_, rfl⟩
            have k1 := K1.out nq
            have k2 := K2.out nq
            have hdq := hd.drewN nq
            rw [← hq] at k1 k2 hdq ⊢
            clear hq
            go_wp2
            go_quiet (fail)
            go_wp2
            go_roundw
            case rel => exact ⟨i + 1, by go_num, by omega, by omega, hdq.drewN _, HQ⟩
            case measure => simp [intOf]; omega
      · have hE : ordI l t' = if (n : Int) < m then -1 else if (m : Int) < n then 1 else 0 := by
          rw [if_neg (by omega), if_pos (by omega)]
          exact ordI_long (fun j hj => H.out j (by rw [← HM.out] at hj; omega)) (by rw [← HN.out, ← HM.out]; omega)
        have cO := order_calls n m wr
        obtain ⟨z, hz⟩ : ∃ z : Int, z = if (n : Int) < m then -1 else if (m : Int) < n then 1 else 0 := ⟨_, rfl⟩
        rw [← hz] at hE cO
        have HE := Lib.hid (HO.out.trans hE)
        clear hE H hz
        go_wp2_with fail
        refine cO.mono ?_
        rintro e w3 ⟨rfl, rfl⟩
        go_wp2
        go_ret
        exact ⟨by rw [HE.out]; rfl, hbw.trans (hd.below _)⟩
    · have hE : ordI l t' = if (n : Int) < m then -1 else if (m : Int) < n then 1 else 0 := by
        by_cases hnm : n < m
        · rw [if_pos (by omega)]
          exact ordI_short (fun j hj => H.out j (by rw [← HN.out] at hj; omega)) (by rw [← HN.out, ← HM.out]; omega)
        · rw [if_neg (by omega), if_neg (by omega)]
          have hlt : l = t' := gt_ext (by rw [← HN.out, ← HM.out]; omega) (fun j hj => H.out j (by rw [← HN.out] at hj; omega))
          rw [hlt]
          exact ordI_self _
      have cO := order_calls n m wr
      obtain ⟨z, hz⟩ : ∃ z : Int, z = if (n : Int) < m then -1 else if (m : Int) < n then 1 else 0 := ⟨_, rfl⟩
      rw [← hz] at hE cO
      have HE := Lib.hid (HO.out.trans hE)
      clear hE H hz
      go_wp2_with fail
      refine cO.mono ?_
      rintro e w3 ⟨rfl, rfl⟩
      go_wp2
      go_ret
      exact ⟨by rw [HE.out]; rfl, hbw.trans (hd.below _)⟩
end Go.Proofs.YtkhejkfjhddobaaGreatDoor

