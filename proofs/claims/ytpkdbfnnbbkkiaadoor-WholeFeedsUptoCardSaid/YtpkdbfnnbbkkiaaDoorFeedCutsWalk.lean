/- The walk of gimletlaw04.FeedCuts: it answers true. -/
import Derived.Test.YtpkdbfnnbbkkiaaDoorFeedPieces
import Derived.Test.YtpkdbfnnbbkkiaaDoorFeedAwake
namespace Go.Proofs.YtpkdbfnnbbkkiaaDoor
open Go.RowKit Gim
theorem rd_nil (w : World) (k : IntKind) : Rd w k none 0 0 [] := ⟨rfl, Nat.le_refl _, by unfold maxLen; omega, fun j hj => by omega⟩
theorem Rd6.below {w w1 : World} {B : Nat} {ao : Option Addr} {n cap : Nat} {cs : List Ch6} (h : Rd6 w B ao n cap cs) (hb : Below w.heap.size w w1) : Rd6 w1 B ao n cap cs := h.fr (Fr.of (p := fun _ => False) hb) (fun _ _ x => x)
theorem Rd6.get {w : World} {B : Nat} {ao : Option Addr} {n cap : Nat} {cs : List Ch6} (h : Rd6 w B ao n cap cs) {i : Nat} (hi : i < n) : ∃ g c, ao = some ⟨g, 0, none⟩ ∧ cs[i]? = some c ∧ w.cell? ⟨g, i * 6, none⟩ = some (.int .i32 c.1) ∧ w.cell? ⟨g, i * 6 + 1, none⟩ = some (.int .i64 c.2.1.1) ∧
    w.cell? ⟨g, i * 6 + 2, none⟩ = some (.int .i64 c.2.1.2.1) ∧ w.cell? ⟨g, i * 6 + 3, none⟩ = some (.int .i64 c.2.1.2.2.1) ∧ w.cell? ⟨g, i * 6 + 4, none⟩ = some (.int .i64 c.2.1.2.2.2) ∧ w.cell? ⟨g, i * 6 + 5, none⟩ = some (.int .i64 c.2.2) := by
  obtain ⟨g, e, _, _, hc⟩ := h.cell (by omega)
  have hl : i < cs.length := by rw [h.len]; exact hi
  have h6 := hc i cs[i] (List.getElem?_eq_getElem hl)
  exact ⟨g, cs[i], e, List.getElem?_eq_getElem hl, h6 0 (by decide), h6 1 (by decide), h6 2 (by decide), h6 3 (by decide), h6 4 (by decide), h6 5 (by decide)⟩
set_option maxRecDepth 100000 in
set_option maxHeartbeats 4000000 in
theorem cuts_calls (w : World) (ao : Option Addr) (n cap : Nat) (b : List Int) (h : Rd w .u8 ao n cap b) (hby : ∀ x ∈ b, 0 ≤ x ∧ x ≤ 255) (hn : n ≤ 274877906944) (ao2 : Option Addr) (n2 cap2 : Nat) (cs : List Int) (h2 : Rd w .i64 ao2 n2 cap2 cs) (hn2 : n2 ≤ 274877906944)
    (ao3 : Option Addr) (n3 cap3 : Nat) (ds : List Int) (h3 : Rd w .i64 ao3 n3 cap3 ds) (hn3 : n3 ≤ 274877906944) (hT : U8 w) :
    Calls Tryd.prog 4 #[.slice ao n cap, .slice ao2 n2 cap2, .slice ao3 n3 cap3] w fun e w' => e = .returned (.bool true) ∧ Below w.heap.size w w' := by
  have HBY := Lib.hid hby
  have HT := Lib.hid hT
  have H := Lib.hid h
  have H2 := Lib.hid h2
  have H3 := Lib.hid h3
  have hlim := h.len
  have hA := feed_awake w hT
  have hDlen := drain_len true _ b (0, 0, 1, 1) (Nat.le_refl _)
  have hDend := drainB_end true _ b (0, 0, 1, 1) (Nat.le_refl _)
  obtain ⟨D, hD⟩ : ∃ D, Hid (D = drainB b (0, 0, 1, 1) true) := ⟨_, rfl⟩
  rw [← hD.out] at hDlen hDend
  have hDw := first_ended D.2.1
  have hDh := peek_how D.2.1 D.2.2 true
  obtain ⟨pk, hpk⟩ : ∃ pk, Hid (pk = peekB D.2.1 D.2.2 true) := ⟨_, rfl⟩
  rw [← hpk.out] at hDh
  rw [← hDh] at hDend hDw
  have hP : ∀ (w' : World) (b' : Below w.heap.size w w') (a : Option Addr) (m c : Nat) (es : List Int) (he : Rd w' .i64 a m c es) (hm : m ≤ 274877906944), Calls Tryd.prog 12 #[.slice ao n cap, .slice a m c] w' fun E w2 =>
      ∃ vs, E = .returned (.tuple #[vs, charV pk.1, .int .i64 pk.2]) ∧ Row6 w2 w'.heap.size vs D.1 ∧ Below w'.heap.size w' w2 := by
    intro w' b' a m c es he hm
    have := pieces_calls w' ao n cap b (H.out.below b') HBY.out hn a m c es he hm (HT.out.below b')
    unfold PiecesP at this
    rw [← hD.out, ← hpk.out] at this
    exact this
  have HP := Lib.hid hP
  obtain ⟨⟨c0, ⟨c1, c2, c3, c4⟩, c5⟩, fh⟩ := pk
  obtain ⟨cs6, D2⟩ := D
  simp only [] at hDlen hDend hDw HP
  have hf0 : (fh == 0) = false := beq_eq_false_iff_ne.2 hDend
  have hf1 : (fh == 1) = false := beq_eq_false_iff_ne.2 hDw
  unfold charV at HP
  clear hP h h2 h3 hby hT hDh hpk hD hDend hDw
  obtain ⟨L, hL⟩ : ∃ L, Hid (L = cs6.length) := ⟨_, rfl⟩
  rw [← hL.out] at hDlen
  go_enter Tryd.func4, Tryd.ntmps4
  go_wp2_with fail
  refine hA.mono ?_
  rintro e w1 ⟨rfl, b1⟩
  clear hA
  have HB1 := Lib.hid b1
  clear b1
  go_wp2_with fail
  refine (HP.out w1 HB1.out _ _ _ _ (H2.out.below HB1.out) hn2).mono ?_
  rintro e w2 ⟨v2, rfl, row2, b2⟩
  obtain ⟨ao5, cap5, rfl, rd5, hn5⟩ := row2.rd
  have b3 := b2.alloc b2.size (Obj.cells #[.int .i32 c0, .int .i64 c1, .int .i64 c2, .int .i64 c3, .int .i64 c4, .int .i64 c5] 32)
  have rd5' := rd5.below ((Below.refl w2.heap.size w2).alloc (Nat.le_refl _) (Obj.cells #[.int .i32 c0, .int .i64 c1, .int .i64 c2, .int .i64 c3, .int .i64 c4, .int .i64 c5] 32))
  have y3 := heap_alloc_new w2 (Obj.cells #[.int .i32 c0, .int .i64 c1, .int .i64 c2, .int .i64 c3, .int .i64 c4, .int .i64 c5] 32)
  have HB3 := Lib.hid (HB1.out.trans (b3.mono HB1.out.size))
  clear b2 b3 row2 rd5
  go_upto_region 4 with fail
  generalize w2.alloc (Obj.cells #[.int .i32 c0, .int .i64 c1, .int .i64 c2, .int .i64 c3, .int .i64 c4, .int .i64 c5] 32) = w3 at rd5' y3 HB3 ⊢
  generalize w2.heap.size = C1 at y3 ⊢
  go_wp2_with fail
  refine (HP.out w3 HB3.out _ _ _ _ (H3.out.below HB3.out) hn3).mono ?_
  rintro e w4 ⟨v4, rfl, row4, b4⟩
  obtain ⟨ao6, cap6, rfl, rd6, hn6⟩ := row4.rd
  have b5 := b4.alloc b4.size (Obj.cells #[.int .i32 c0, .int .i64 c1, .int .i64 c2, .int .i64 c3, .int .i64 c4, .int .i64 c5] 32)
  have rd6' := rd6.below ((Below.refl w4.heap.size w4).alloc (Nat.le_refl _) (Obj.cells #[.int .i32 c0, .int .i64 c1, .int .i64 c2, .int .i64 c3, .int .i64 c4, .int .i64 c5] 32))
  have rd5'' := rd5'.below b5
  have y5 := (b5.block _ (Array.getElem?_eq_some_iff.1 y3).1).trans y3
  have z5 := heap_alloc_new w4 (Obj.cells #[.int .i32 c0, .int .i64 c1, .int .i64 c2, .int .i64 c3, .int .i64 c4, .int .i64 c5] 32)
  have HB5 := Lib.hid (HB3.out.trans (b5.mono HB3.out.size))
  clear b4 b5 row4 rd6 rd5' y3
  go_upto_region 5 with fail
  generalize w4.alloc (Obj.cells #[.int .i32 c0, .int .i64 c1, .int .i64 c2, .int .i64 c3, .int .i64 c4, .int .i64 c5] 32) = w5 at rd5'' rd6' y5 z5 HB5 ⊢
  generalize w4.heap.size = C2 at z5 ⊢
  go_wp2_with fail
  refine (HP.out w5 HB5.out _ _ _ [] (rd_nil _ _) (by decide)).mono ?_
  rintro e w6 ⟨v6, rfl, row6, b6⟩
  obtain ⟨ao7, cap7, rfl, rd7, hn7⟩ := row6.rd
  have b7 := b6.alloc b6.size (Obj.cells #[.int .i32 c0, .int .i64 c1, .int .i64 c2, .int .i64 c3, .int .i64 c4, .int .i64 c5] 32)
  have rd7' := rd7.below ((Below.refl w6.heap.size w6).alloc (Nat.le_refl _) (Obj.cells #[.int .i32 c0, .int .i64 c1, .int .i64 c2, .int .i64 c3, .int .i64 c4, .int .i64 c5] 32))
  have s5 := rd5''.below b7
  have s6 := rd6'.below b7
  have y7 := (b7.block _ (Array.getElem?_eq_some_iff.1 y5).1).trans y5
  have z7 := (b7.block _ (Array.getElem?_eq_some_iff.1 z5).1).trans z5
  have x7 := heap_alloc_new w6 (Obj.cells #[.int .i32 c0, .int .i64 c1, .int .i64 c2, .int .i64 c3, .int .i64 c4, .int .i64 c5] 32)
  have HB7 := Lib.hid (HB5.out.trans (b7.mono HB5.out.size))
  clear b6 b7 row6 rd7 rd5'' rd6' y5 z5
  go_upto_region 6 with fail
  generalize w6.alloc (Obj.cells #[.int .i32 c0, .int .i64 c1, .int .i64 c2, .int .i64 c3, .int .i64 c4, .int .i64 c5] 32) = W at rd7' s5 s6 y7 z7 x7 HB7 ⊢
  generalize w6.heap.size = C3 at x7 ⊢
  rw [← hL.out] at rd7' s5 s6 ⊢
  have p0 : W.cell? ⟨C1, 0, none⟩ = some (.int .i32 c0) := by simp [World.cell?, y7]
  have p1 : W.cell? ⟨C1, 1, none⟩ = some (.int .i64 c1) := by simp [World.cell?, y7]
  have p2 : W.cell? ⟨C1, 2, none⟩ = some (.int .i64 c2) := by simp [World.cell?, y7]
  have p3 : W.cell? ⟨C1, 3, none⟩ = some (.int .i64 c3) := by simp [World.cell?, y7]
  have p4 : W.cell? ⟨C1, 4, none⟩ = some (.int .i64 c4) := by simp [World.cell?, y7]
  have p5 : W.cell? ⟨C1, 5, none⟩ = some (.int .i64 c5) := by simp [World.cell?, y7]
  have q0 : W.cell? ⟨C2, 0, none⟩ = some (.int .i32 c0) := by simp [World.cell?, z7]
  have q1 : W.cell? ⟨C2, 1, none⟩ = some (.int .i64 c1) := by simp [World.cell?, z7]
  have q2 : W.cell? ⟨C2, 2, none⟩ = some (.int .i64 c2) := by simp [World.cell?, z7]
  have q3 : W.cell? ⟨C2, 3, none⟩ = some (.int .i64 c3) := by simp [World.cell?, z7]
  have q4 : W.cell? ⟨C2, 4, none⟩ = some (.int .i64 c4) := by simp [World.cell?, z7]
  have q5 : W.cell? ⟨C2, 5, none⟩ = some (.int .i64 c5) := by simp [World.cell?, z7]
  have r0 : W.cell? ⟨C3, 0, none⟩ = some (.int .i32 c0) := by simp [World.cell?, x7]
  have r1 : W.cell? ⟨C3, 1, none⟩ = some (.int .i64 c1) := by simp [World.cell?, x7]
  have r2 : W.cell? ⟨C3, 2, none⟩ = some (.int .i64 c2) := by simp [World.cell?, x7]
  have r3 : W.cell? ⟨C3, 3, none⟩ = some (.int .i64 c3) := by simp [World.cell?, x7]
  have r4 : W.cell? ⟨C3, 4, none⟩ = some (.int .i64 c4) := by simp [World.cell?, x7]
  have r5 : W.cell? ⟨C3, 5, none⟩ = some (.int .i64 c5) := by simp [World.cell?, x7]
  go_wp2_with fail
  go_loopw [16] (fun v16 wr => ∃ i : Nat, v16 = .int .i64 i ∧ i ≤ L ∧ Drew W wr) (fun u16 wr => L - (intOf u16).toNat)
  case atStart => exact ⟨0, rfl, Nat.zero_le _, Drew.refl _⟩
  case round =>
    obtain ⟨i, rfl, hi, hd⟩ := hrel
    by_cases hil : i < L
    · have hil' : (i : Int) < L := by omega
      obtain ⟨g5, c, rfl, hc5, l0, l1, l2, l3, l4, l5⟩ := (s5.below (hd.below _)).get hil
      obtain ⟨g6, c', rfl, hc6, m0, m1, m2, m3, m4, m5⟩ := (s6.below (hd.below _)).get hil
      obtain ⟨g7, c'', rfl, hc7, n0, n1, n2, n3, n4, n5⟩ := (rd7'.below (hd.below _)).get hil
      obtain rfl : c = c' := by rw [hc5] at hc6; exact Option.some.inj hc6
      obtain rfl : c = c'' := by rw [hc5] at hc7; exact Option.some.inj hc7
      obtain ⟨d0, ⟨d1, d2, d3, d4⟩, d5⟩ := c
      simp only [] at l0 l1 l2 l3 l4 l5 m0 m1 m2 m3 m4 m5 n0 n1 n2 n3 n4 n5
      clear hc5 hc6 hc7
      go_wp2_with fail
      go_quiet (fail)
      go_wp2
      go_roundw
      case rel => exact ⟨i + 1, by go_num, hil, Drew.drewN hd _⟩
      case measure => simp [RowKit.intOf]; omega
    · have hil' : ¬ (i : Int) < L := by omega
      go_wp2
      go_ret
      exact ⟨rfl, HB7.out.trans ((hd.below _).mono HB7.out.size)⟩
theorem feedCuts_walk (ao : Option Addr) (n cap : Nat) (b : List Int) (ao2 : Option Addr) (n2 cap2 : Nat) (cs : List Int) (ao3 : Option Addr) (n3 cap3 : Nat) (ds : List Int) (w : World) (h : Rd w .u8 ao n cap b) (_ : ao = none → n = 0 ∧ cap = 0) (hwf : ∀ x ∈ b, (Lit.int .u8 x).wf = true) (hn : n ≤ 1048576)
    (h2 : Rd w .i64 ao2 n2 cap2 cs) (_ : ao2 = none → n2 = 0 ∧ cap2 = 0) (_ : ∀ x ∈ cs, (Lit.int .i64 x).wf = true) (hn2 : n2 ≤ 1048576) (h3 : Rd w .i64 ao3 n3 cap3 ds) (_ : ao3 = none → n3 = 0 ∧ cap3 = 0) (_ : ∀ x ∈ ds, (Lit.int .i64 x).wf = true) (hn3 : n3 ≤ 1048576) (hT : U8 w) :
    Calls Tryd.prog 4 #[.slice ao n cap, .slice ao2 n2 cap2, .slice ao3 n3 cap3] w fun e w' => e = .returned (.bool true) ∧ Below w.heap.size w w' :=
  cuts_calls w ao n cap b h (fun x hx => wf_u8 (hwf x hx)) (by omega) ao2 n2 cap2 cs h2 (by omega) ao3 n3 cap3 ds h3 (by omega) hT
end Go.Proofs.YtpkdbfnnbbkkiaaDoor
