/- The walk of gimletlaw01.RunesPlaces. -/
import Derived.Test.YthhlaohfdahonaaDoorByteWalk
import Derived.Test.YthhlaohfdahonaaDoorRunesOrderWalk
namespace Gim
open Go
theorem atB_nat (xs : List Int) (m : Nat) (h : m ≤ xs.length) : atB xs m = (((m : Int), (placeB xs m).1, (placeB xs m).2.1, (placeB xs m).2.2), 0) := by
  rw [atB, if_neg (by omega), Int.toNat_natCast]
end Gim
namespace Go.Proofs.YthhlaohfdahonaaDoor
open Go.RowKit Gim
set_option maxRecDepth 100000 in
set_option maxHeartbeats 4000000 in
theorem runesPlaces_walk (s t : ByteArray) (w : World) (hs : s.size ≤ 140737488351232) (ht : t.size ≤ 140737488351232) (hT : U8 w) :
    Calls Tryd.prog 6 #[.string s, .string t] w fun e w' => e = .returned (.bool true) ∧ Below w.heap.size w w' := by
  have hms := mend_size s
  have hmt := mend_size t
  have hX := rs_ch s
  have hY := rs_ch t
  have hls := runesBytes_list (rs s)
  have hlt := runesBytes_list (rs t)
  obtain ⟨S, hS⟩ : ∃ S, S = runesBytes (rs s) := ⟨_, rfl⟩
  obtain ⟨T, hTT⟩ : ∃ T, T = runesBytes (rs t) := ⟨_, rfl⟩
  rw [← hS] at hms hls
  rw [← hTT] at hmt hlt
  have HS := Lib.hid hS
  have HTT := Lib.hid hTT
  clear hS hTT
  obtain ⟨X, hXX⟩ : ∃ X, X = rs s := ⟨_, rfl⟩
  obtain ⟨Y, hYY⟩ : ∃ Y, Y = rs t := ⟨_, rfl⟩
  rw [← hXX] at hX hls HS
  rw [← hYY] at hY hlt HTT
  obtain ⟨U, hU⟩ : ∃ U, U = S ++ T := ⟨_, rfl⟩
  have hul : U.data.toList = encs (X ++ Y) := by rw [hU, encs_append, ← hls, ← hlt]; simp [ByteArray.data_append]
  have husz : U.size = S.size + T.size := by rw [hU, ByteArray.size_append]
  have hsz : (encs X).length = S.size := by rw [← hls]; rfl
  have htz : (encs Y).length = T.size := by rw [← hlt]; rfl
  have huz : (encs (X ++ Y)).length = U.size := by rw [← hul]; rfl
  have had := adds X Y hX hY
  have hby := byteB_encs (U := U) X Y (fun x hx => (List.mem_append.1 hx).elim (hX x) (hY x)) hul
  rw [hsz, huz, htz, ← hul, ← hlt] at had
  rw [hsz] at hby
  have bP := placeB_bounds (bz U.data.toList) S.size
  have bQ := placeB_bounds (bz U.data.toList) U.size
  have bR := placeB_bounds (bz T.data.toList) T.size
  have lu : (bz U.data.toList).length = U.size := by rw [bz_length]; rfl
  have lt : (bz T.data.toList).length = T.size := by rw [bz_length]; rfl
  have aP := atB_nat (bz U.data.toList) S.size (by omega)
  have aQ := atB_nat (bz U.data.toList) U.size (by omega)
  have aR := atB_nat (bz T.data.toList) T.size (by omega)
  rw [lu] at bP bQ
  rw [lt] at bR
  obtain ⟨P, hP⟩ : ∃ P, P = placeB (bz U.data.toList) S.size := ⟨_, rfl⟩
  obtain ⟨Q, hQ⟩ : ∃ Q, Q = placeB (bz U.data.toList) U.size := ⟨_, rfl⟩
  obtain ⟨R, hR⟩ : ∃ R, R = placeB (bz T.data.toList) T.size := ⟨_, rfl⟩
  rw [← hP] at had bP aP
  rw [← hQ] at had bQ aQ
  rw [← hR] at had bR aR
  obtain ⟨p1, p2, p3⟩ := P
  obtain ⟨q1, q2, q3⟩ := Q
  obtain ⟨r1, r2, r3⟩ := R
  clear hP hQ hR lu lt hul hls hlt hsz htz huz hX hY
  obtain ⟨d1, d2, d3, d4, d5⟩ := had
  simp only [] at d1 d2 d3 d4 d5 bP bQ bR aP aQ aR
  rw [← d2] at hby
  have D1 := Lib.hid d1
  have D3 := Lib.hid d3
  have D4 := Lib.hid d4
  have D5 := Lib.hid d5
  have HU := Lib.hid hU
  have HXX := Lib.hid hXX
  have HYY := Lib.hid hYY
  have HZ := Lib.hid husz
  have hU8 : U.size ≤ 1125899906842624 := by omega
  clear hXX hYY hU d2 d1 d3 d4 d5 husz
  go_enter Tryd.func6, Tryd.ntmps6
  go_wp2_with fail
  refine (awake_calls _ hT).mono ?_
  rintro e w1 ⟨rfl, hb1⟩
  go_wp2_with fail
  refine (mend_calls s _ (by omega)).mono ?_
  rintro e w2 ⟨rfl, hb2⟩
  rw [← HXX.out, ← HS.out]
  go_wp2_with fail
  refine (mend_calls t _ (by omega)).mono ?_
  rintro e w3 ⟨rfl, hb3⟩
  rw [← HYY.out, ← HTT.out]
  have h2 := hb1.trans (hb2.mono hb1.size)
  have h3 := h2.trans (hb3.mono h2.size)
  clear h2 hb1 hb2 hb3
  have hcv := run_bytes_of_string (P := Tryd.prog) w3 9 34 5 (S ++ T) Tryd.underlying9 Tryd.underlying34 Tryd.underlying5
  obtain ⟨cap, hcap⟩ : ∃ cap, cap = grownCap w3 U.size 0 5 := ⟨_, rfl⟩
  have hge := grownCap_ge w3 U.size 0 5
  have hle := grownCap_le_maxLen w3 U.size 0 5 (by unfold maxLen; omega)
  rw [← hcap] at hge hle
  rw [← HU.out, ← hcap] at hcv
  rw [HU.out] at hcv
  clear hcap
  go_wp2_with fail
  rw [← HU.out]
  rw [← HZ.out]
  have hrb := rb_str w3 U 5 cap ((bytesRow U cap).size, (bytesRow U cap).size + 1) hge hle
  have h4 : Below w.heap.size w (w3.alloc (.cells (bytesRow U cap) 5 ((bytesRow U cap).size, (bytesRow U cap).size + 1))).drew := (h3.alloc h3.size _).trans (((Drew.refl _).drewN 1).below _)
  obtain ⟨w4, hw4⟩ : ∃ w4, w4 = (w3.alloc (.cells (bytesRow U cap) 5 ((bytesRow U cap).size, (bytesRow U cap).size + 1))).drew := ⟨_, rfl⟩
  rw [← hw4] at hrb h4 ⊢
  obtain ⟨b, hb⟩ : ∃ b, b = w3.heap.size := ⟨_, rfl⟩
  rw [← hb] at hrb ⊢
  clear hw4 hb hcv h3
  refine (at_calls _ _ _ _ _ _ hrb (by omega)).mono ?_
  rintro e w5 ⟨rfl, hb5⟩
  rw [aP]
  have hrb5 := hrb.below hb5
  have h5 := h4.trans (hb5.mono h4.size)
  clear hrb hb5 h4
  go_wp2_with fail
  have hP5 := heap_alloc_new w5 (.cells #[.int .i64 S.size, .int .i64 p1, .int .i64 p2, .int .i64 p3] 43)
  have h5a := h5.alloc h5.size (.cells #[.int .i64 S.size, .int .i64 p1, .int .i64 p2, .int .i64 p3] 43)
  have hrb5a := hrb5.below ((Below.refl w5.heap.size w5).alloc (Nat.le_refl _) (.cells #[.int .i64 S.size, .int .i64 p1, .int .i64 p2, .int .i64 p3] 43))
  obtain ⟨w5a, hw5⟩ : ∃ w5a, w5a = w5.alloc (.cells #[.int .i64 S.size, .int .i64 p1, .int .i64 p2, .int .i64 p3] 43) := ⟨_, rfl⟩
  rw [← hw5] at hP5 h5a hrb5a ⊢
  obtain ⟨A1, hA1⟩ : ∃ A, A = w5.heap.size := ⟨_, rfl⟩
  rw [← hA1] at hP5 ⊢
  clear hw5 hA1 h5 hrb5
  refine (at_calls _ _ _ _ _ _ hrb5a (by omega)).mono ?_
  rintro e w6 ⟨rfl, hb6⟩
  rw [aQ]
  have h6 := h5a.trans (hb6.mono h5a.size)
  have hP6 := (hb6.block A1 (Array.getElem?_eq_some_iff.1 hP5).1).trans hP5
  clear hP5 hb6 h5a hrb5a
  have hcv : ∀ wx : World, (convert 9 34 (.string T)).run Tryd.prog wx = _ := fun wx => run_bytes_of_string (P := Tryd.prog) wx 9 34 5 T Tryd.underlying9 Tryd.underlying34 Tryd.underlying5
  go_wp2_with fail
  clear hcv
  have hQ6 := heap_alloc_new w6 (.cells #[.int .i64 U.size, .int .i64 q1, .int .i64 q2, .int .i64 q3] 43)
  have hlt6 := (Array.getElem?_eq_some_iff.1 hP6).1
  have hP6a := (heap_alloc_old w6 (.cells #[.int .i64 U.size, .int .i64 q1, .int .i64 q2, .int .i64 q3] 43) hlt6).trans hP6
  have h6a := h6.alloc h6.size (.cells #[.int .i64 U.size, .int .i64 q1, .int .i64 q2, .int .i64 q3] 43)
  have hz6 : w6.heap.size + 1 = (w6.alloc (.cells #[.int .i64 U.size, .int .i64 q1, .int .i64 q2, .int .i64 q3] 43)).heap.size := by simp
  rw [hz6]
  clear hz6
  obtain ⟨w6a, hw6⟩ : ∃ w6a, w6a = w6.alloc (.cells #[.int .i64 U.size, .int .i64 q1, .int .i64 q2, .int .i64 q3] 43) := ⟨_, rfl⟩
  rw [← hw6] at hQ6 hP6a h6a ⊢
  obtain ⟨A2, hA2⟩ : ∃ A, A = w6.heap.size := ⟨_, rfl⟩
  rw [← hA2] at hQ6 hlt6 ⊢
  have hA12 : A1 < A2 := hlt6
  clear hw6 hA2 h6 hP6 hlt6
  obtain ⟨cp, hcp⟩ : ∃ cp, cp = grownCap w6a T.size 0 5 := ⟨_, rfl⟩
  have hge2 := grownCap_ge w6a T.size 0 5
  have hle2 := grownCap_le_maxLen w6a T.size 0 5 (by unfold maxLen; omega)
  rw [← hcp] at hge2 hle2 ⊢
  clear hcp
  have hrb7 := rb_str w6a T 5 cp ((bytesRow T cp).size, (bytesRow T cp).size + 1) hge2 hle2
  have hbl : Below w6a.heap.size w6a (w6a.alloc (.cells (bytesRow T cp) 5 ((bytesRow T cp).size, (bytesRow T cp).size + 1))).drew := ((Below.refl _ _).alloc (Nat.le_refl _) _).trans (((Drew.refl _).drewN 1).below _)
  have h7 := h6a.trans (hbl.mono h6a.size)
  have hP7 := (hbl.block A1 (Array.getElem?_eq_some_iff.1 hP6a).1).trans hP6a
  have hQ7 := (hbl.block A2 (Array.getElem?_eq_some_iff.1 hQ6).1).trans hQ6
  clear hbl h6a hP6a hQ6
  obtain ⟨w7, hw7⟩ : ∃ w7, w7 = (w6a.alloc (.cells (bytesRow T cp) 5 ((bytesRow T cp).size, (bytesRow T cp).size + 1))).drew := ⟨_, rfl⟩
  rw [← hw7] at hrb7 h7 hP7 hQ7 ⊢
  obtain ⟨b2, hb2⟩ : ∃ b, b = w6a.heap.size := ⟨_, rfl⟩
  rw [← hb2] at hrb7 ⊢
  clear hw7 hb2
  refine (at_calls _ _ _ _ _ _ hrb7 (by omega)).mono ?_
  rintro e w8 ⟨rfl, hb8⟩
  rw [aR]
  have h8 := h7.trans (hb8.mono h7.size)
  have hP8 := (hb8.block A1 (Array.getElem?_eq_some_iff.1 hP7).1).trans hP7
  have hQ8 := (hb8.block A2 (Array.getElem?_eq_some_iff.1 hQ7).1).trans hQ7
  clear hb8 h7 hP7 hQ7 hrb7
  have hP8a := (heap_alloc_old w8 (.cells #[.int .i64 T.size, .int .i64 r1, .int .i64 r2, .int .i64 r3] 43) (Array.getElem?_eq_some_iff.1 hP8).1).trans hP8
  have hPc : (w8.alloc (.cells #[.int .i64 T.size, .int .i64 r1, .int .i64 r2, .int .i64 r3] 43)).cell? ⟨A1, 1, none⟩ = some (.int .i64 p1) := by simp [World.cell?, hP8a]
  go_wp2_with fail
  rw [← HU.out]
  have hQ8a := (heap_alloc_old w8 (.cells #[.int .i64 T.size, .int .i64 r1, .int .i64 r2, .int .i64 r3] 43) (Array.getElem?_eq_some_iff.1 hQ8).1).trans hQ8
  have hR8a := heap_alloc_new w8 (.cells #[.int .i64 T.size, .int .i64 r1, .int .i64 r2, .int .i64 r3] 43)
  have h8a := h8.alloc h8.size (.cells #[.int .i64 T.size, .int .i64 r1, .int .i64 r2, .int .i64 r3] 43)
  obtain ⟨w8a, hw8⟩ : ∃ w8a, w8a = w8.alloc (.cells #[.int .i64 T.size, .int .i64 r1, .int .i64 r2, .int .i64 r3] 43) := ⟨_, rfl⟩
  rw [← hw8] at hP8a hQ8a hR8a h8a ⊢
  obtain ⟨A3, hA3⟩ : ∃ A, A = w8.heap.size := ⟨_, rfl⟩
  rw [← hA3] at hR8a ⊢
  clear hw8 hA3 h8 hP8 hQ8 hPc
  refine (byte_calls _ _ _ hU8).mono ?_
  rintro e w9 ⟨rfl, hb9⟩
  rw [hby]
  have h9 := h8a.trans (hb9.mono h8a.size)
  have hP9 := (hb9.block A1 (Array.getElem?_eq_some_iff.1 hP8a).1).trans hP8a
  have hQ9 := (hb9.block A2 (Array.getElem?_eq_some_iff.1 hQ8a).1).trans hQ8a
  have hR9 := (hb9.block A3 (Array.getElem?_eq_some_iff.1 hR8a).1).trans hR8a
  clear hb9 h8a hP8a hQ8a hR8a aP aQ aR hby
  obtain ⟨cP1, cP2, cP3⟩ : w9.cell? ⟨A1, 1, none⟩ = some (.int .i64 p1) ∧ w9.cell? ⟨A1, 2, none⟩ = some (.int .i64 p2) ∧ w9.cell? ⟨A1, 3, none⟩ = some (.int .i64 p3) := by simp [World.cell?, hP9]
  obtain ⟨cQ0, cQ1, cQ2, cQ3⟩ : w9.cell? ⟨A2, 0, none⟩ = some (.int .i64 U.size) ∧ w9.cell? ⟨A2, 1, none⟩ = some (.int .i64 q1) ∧ w9.cell? ⟨A2, 2, none⟩ = some (.int .i64 q2) ∧ w9.cell? ⟨A2, 3, none⟩ = some (.int .i64 q3) := by simp [World.cell?, hQ9]
  obtain ⟨cR1, cR2, cR3⟩ : w9.cell? ⟨A3, 1, none⟩ = some (.int .i64 r1) ∧ w9.cell? ⟨A3, 2, none⟩ = some (.int .i64 r2) ∧ w9.cell? ⟨A3, 3, none⟩ = some (.int .i64 r3) := by simp [World.cell?, hR9]
  clear hP9 hQ9 hR9
  obtain ⟨bP1, bP2, bP3, bP4, bP5, bP6⟩ := bP
  obtain ⟨bQ1, bQ2, bQ3, bQ4, bQ5, bQ6⟩ := bQ
  obtain ⟨bR1, bR2, bR3, bR4, bR5, bR6⟩ := bR
  have e1 := D1.out
  have e2 := D3.out
  subst e1 e2
  have hTU : T.size ≤ U.size := by have := HZ.out; omega
  clear D1 D3
  by_cases hr : r2 = 1
  · have e3 := D4.out hr
    subst e3
    subst hr
    clear D4 D5
    go_wp2
    all_goals
      go_ret
      exact ⟨rfl, h9⟩
  · have e3 := D5.out hr
    subst e3
    have hrd : (r2 == 1) = false := by simp; omega
    clear D4 D5
    go_wp2
    all_goals
      go_ret
      exact ⟨rfl, h9⟩
end Go.Proofs.YthhlaohfdahonaaDoor
