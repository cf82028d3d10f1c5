/- The walk of gimletlaw24.GaugePeak. -/
import Derived.Test.YtmkkkkenhbcfhaaDoorPkWalk
namespace Go.Proofs.YtmkkkkenhbcfhaaDoor
open Go.RowKit Gim
theorem cd_two (w : World) : Cd (w.alloc (.cells #[.int .i64 1, .int .i64 2, .int .i64 3, .int .i64 3, .int .i64 0, .int .i64 1] 25)) (some ⟨w.heap.size, 0, none⟩) 2 2 [(1, 2, 3), (3, 0, 1)] :=
  ⟨rfl, Nat.le_refl _, by decide, fun _ _ => ⟨w.heap.size, 0, rfl, by simp, fun i y hy => by
    have h := heap_alloc_new w (.cells #[.int .i64 1, .int .i64 2, .int .i64 3, .int .i64 3, .int .i64 0, .int .i64 1] 25)
    have hi : i < 2 := (List.getElem?_eq_some_iff.1 hy).1
    match i, hi with
    | 0, _ => simp at hy; subst hy; refine ⟨?_, ?_, ?_⟩ <;> (unfold World.cell?; rw [h]; rfl)
    | 1, _ => simp at hy; subst hy; refine ⟨?_, ?_, ?_⟩ <;> (unfold World.cell?; rw [h]; rfl)⟩⟩
set_option maxHeartbeats 2000000 in
theorem awake_calls (w : World) (hT : Laid w) : Calls Tryd.prog 4 #[] w fun e w' => e = .returned (.bool true) ∧ Below w.heap.size w w' := by
  have b0 : Below w.heap.size w (w.alloc (.cells #[.int .i64 0, .int .i64 0, .string ⟨#[97]⟩, .slice none 0 0] 35)) := (Below.refl _ _).alloc (Nat.le_refl _) _
  have hN := bound_a w.heap.size _ (hT.below b0) (heap_alloc_new w (.cells #[.int .i64 0, .int .i64 0, .string ⟨#[97]⟩, .slice none 0 0] 35))
  have HB := Lib.hid b0
  have heq : ∀ W : World, (binOp .eql 25 (.agg #[.int .i64 3, .int .i64 2, .int .i64 3]) (.agg #[.int .i64 3, .int .i64 2, .int .i64 3])).run Tryd.prog W = .ok (.bool true) W := fun _ => by kernel_rfl
  clear b0 hT
  go_enter Tryd.func4, Tryd.ntmps4
  go_wp2_with fail
  refine hN.mono ?_
  rintro e w1 ⟨rfl, b1⟩
  have HB1 := Lib.hid (HB.out.trans (b1.mono HB.out.size))
  have hP := peak_calls _ _ _ _ _ (cd_two w1)
  rw [show pkF [(1, 2, 3), (3, 0, 1)] = (3, 2, 3) by decide] at hP
  clear hN b1
  go_wp2_with fail
  refine hP.mono ?_
  rintro e w2 ⟨rfl, b2⟩
  have b3 : Below w1.heap.size w1 (w1.alloc (.cells #[.int .i64 1, .int .i64 2, .int .i64 3, .int .i64 3, .int .i64 0, .int .i64 1] 25)) := (Below.refl _ _).alloc (Nat.le_refl _) _
  have HB2 := Lib.hid (HB1.out.trans ((b3.trans (b2.mono b3.size)).mono HB1.out.size))
  clear hP b2 b3
  go_wp2_with fail
  go_ret
  exact ⟨rfl, HB2.out⟩
set_option maxRecDepth 100000 in
set_option maxHeartbeats 8000000 in
theorem gaugePeak_walk (ao : Option Addr) (n cap : Nat) (zs : List (Int × Int × Int)) (w : World) (h : Cd w ao n cap zs) (hnone : ao = none → n = 0 ∧ cap = 0) (hn : n ≤ 1048576) (hT : Laid w) :
    Calls Tryd.prog 3 #[.slice ao n cap] w fun e w' => e = .returned (.bool true) ∧ Below w.heap.size w w' := by
  have HC := Lib.hid h
  have HL := Lib.hid h.len
  have hle := h.le
  have hcm := h.cap_le
  have hnb : n ≤ 9223372036854775807 := by omega
  have HNO := Lib.hid hnone
  have heq : ∀ W : World, (binOp .eql 25 (.agg #[.int .i64 0, .int .i64 0, .int .i64 0]) (.agg #[.int .i64 0, .int .i64 0, .int .i64 0])).run Tryd.prog W = .ok (.bool true) W := fun _ => by kernel_rfl
  have hA := awake_calls w hT
  clear h hnone hT
  go_enter Tryd.func3, Tryd.ntmps3
  go_wp2_with fail
  refine hA.mono ?_
  rintro e w1 ⟨rfl, b1⟩
  have HB1 := Lib.hid b1
  clear hA b1
  have hCd1 := (HC.out.below HB1.out).below ((Below.refl w1.heap.size w1).alloc (Nat.le_refl _) (.cells #[] 25))
  go_wp2_with (at_builtin; refine append_cd _ rfl _ _ rfl w1.heap.size _ [] rfl (row3_empty w1 _ (Nat.le_refl _)) ao n cap zs rfl hCd1 HNO.out (by simp; omega) (by simp) ?_; intro v2 w2 hrow hgrow)
  rw [List.nil_append] at hrow
  have hb2 : Below w1.heap.size w1 w2 := ((Below.refl _ _).alloc (Nat.le_refl _) _).grown hgrow (by simp) (fun j hj => ((row3_empty w1 w1.heap.size (Nat.le_refl _)).lt j hj).1)
  have HB2 := Lib.hid (HB1.out.trans (hb2.mono HB1.out.size))
  obtain ⟨a2, c2, rfl, rd2⟩ := hrow.rd
  rw [HL.out] at rd2
  rw [HL.out]
  clear hrow hgrow hb2 hCd1
  go_wp2_with fail
  refine (peak_calls _ _ _ _ _ rd2).mono ?_
  rintro e w3 ⟨rfl, b3⟩
  have HB3 := Lib.hid (HB2.out.trans (b3.mono HB2.out.size))
  clear rd2 b3
  have hp := B3.new 25 w3 (pkF zs)
  have HP := Lib.hid hp
  have HB4 := Lib.hid (HB3.out.alloc HB3.out.size (.cells #[.int .i64 (pkF zs).1, .int .i64 (pkF zs).2.1, .int .i64 (pkF zs).2.2] 25))
  clear hp
  by_cases hn0 : n = 0
  · subst hn0
    have hz : zs = [] := List.eq_nil_of_length_eq_zero HL.out
    subst hz
    go_wp2_with fail
    go_ret
    exact ⟨rfl, HB4.out⟩
  · have hn0' : ((n : Int) == 0) = false := beq_eq_false_iff_ne.2 (by omega)
    have hne : zs ≠ [] := fun e => by have := HL.out; rw [e] at this; simp at this; omega
    have L1 := pkF_law (fun y => y.1) (fun _ _ => rfl) hne
    have L2 := pkF_law (fun y => y.2.1) (fun _ _ => rfl) hne
    have L3 := pkF_law (fun y => y.2.2) (fun _ _ => rfl) hne
    obtain ⟨p, hp⟩ : ∃ p, pkF zs = p := ⟨_, rfl⟩
    simp only [hp] at L1 L2 L3 HP HB4 ⊢
    have HL1 := Lib.hid L1
    have HL2 := Lib.hid L2
    have HL3 := Lib.hid L3
    clear hp L1 L2 L3
    obtain ⟨p1, p2, p3⟩ := p
    go_upto_region 4 with fail
    obtain ⟨R, hR⟩ : ∃ R, w3.heap.size = R := ⟨_, rfl⟩
    obtain ⟨w4, hw4⟩ : ∃ w4, w3.alloc (.cells #[.int .i64 p1, .int .i64 p2, .int .i64 p3] 25) = w4 := ⟨_, rfl⟩
    (try dsimp only at HP HB4)
    rw [hw4] at HP HB4 ⊢
    rw [hR] at HP ⊢
    clear hw4 hR
    go_wp2_with fail
    go_loopw [4, 5, 6, 23] (fun fa fb fc i wr => ∃ (q : Nat) (a b c : Bool), i = .int .i64 q ∧ q ≤ n ∧ fa = .bool a ∧ fb = .bool b ∧ fc = .bool c ∧ Below w4.heap.size w4 wr ∧ Hid (a = (zs.take q).any fun y => y.1 == p1) ∧ Hid (b = (zs.take q).any fun y => y.2.1 == p2) ∧ Hid (c = (zs.take q).any fun y => y.2.2 == p3)) (fun _ _ _ i _ => n - (RowKit.intOf i).toNat)
    case atStart => exact ⟨0, false, false, false, rfl, Nat.zero_le _, rfl, rfl, rfl, Below.refl _ _, Lib.hid rfl, Lib.hid rfl, Lib.hid rfl⟩
    case round =>
      obtain ⟨q, a, b, c, rfl, hq, rfl, rfl, rfl, hb, HA, HBB, HCC⟩ := hrel
      by_cases hqn : q < n
      · have hqn' : (q : Int) < n := by omega
        obtain ⟨bk, o, rfl, hb1, hc⟩ := (HC.out.below (HB4.out.trans (hb.mono HB4.out.size))).cell q hqn
        have hqz : q < zs.length := by rw [HL.out]; exact hqn
        obtain ⟨y, hy⟩ : ∃ y, zs[q]? = some y := ⟨_, List.getElem?_eq_getElem hqz⟩
        obtain ⟨k0, k1, k2⟩ := hc q y hy
        rw [← Nat.add_assoc] at k1 k2
        have hmem : y ∈ zs := List.mem_of_getElem? hy
        have t1 := HL1.out.1 y hmem
        have t2 := HL2.out.1 y hmem
        have t3 := HL3.out.1 y hmem
        obtain ⟨na, hna⟩ : ∃ na, na = (zs.take (q + 1)).any fun y => y.1 == p1 := ⟨_, rfl⟩
        obtain ⟨nb, hnbb⟩ : ∃ nb, nb = (zs.take (q + 1)).any fun y => y.2.1 == p2 := ⟨_, rfl⟩
        obtain ⟨nc, hnc⟩ : ∃ nc, nc = (zs.take (q + 1)).any fun y => y.2.2 == p3 := ⟨_, rfl⟩
        have K1 := flag3 a y.1 p1 na (by rw [hna, any_take hy, HA.out])
        have K2 := flag3 b y.2.1 p2 nb (by rw [hnbb, any_take hy, HBB.out])
        have K3 := flag3 c y.2.2 p3 nc (by rw [hnc, any_take hy, HCC.out])
        have HNA := Lib.hid hna
        have HNB := Lib.hid hnbb
        have HNC := Lib.hid hnc
        have hn8 := B3.new 25 wr y
        have hpA := (HP.out.below hb).below ((Below.refl wr.heap.size wr).alloc (Nat.le_refl _) (.cells #[.int .i64 y.1, .int .i64 y.2.1, .int .i64 y.2.2] 25))
        have HBA := Lib.hid (hb.alloc hb.size (.cells #[.int .i64 y.1, .int .i64 y.2.1, .int .i64 y.2.2] 25))
        clear hna hnbb hnc hc hy hmem HA HBB HCC hb
        obtain ⟨y1, y2, y3⟩ := y
        go_upto_region 10 with fail
        obtain ⟨Y, hY⟩ : ∃ Y, wr.heap.size = Y := ⟨_, rfl⟩
        obtain ⟨w5, hw5⟩ : ∃ w5, wr.alloc (.cells #[.int .i64 y1, .int .i64 y2, .int .i64 y3] 25) = w5 := ⟨_, rfl⟩
        (try dsimp only at hn8 hpA HBA t1 t2 t3 K1 K2 K3)
        rw [hw5] at hn8 hpA HBA ⊢
        rw [hY] at hn8 ⊢
        clear hw5 hY k0 k1 k2
        obtain ⟨e0, e1, e2, _, _, _⟩ := hn8.cells
        obtain ⟨f0, f1, f2, _, _, _⟩ := hpA.cells
        (try dsimp only at e0 e1 e2 f0 f1 f2)
        clear hn8 hpA
        have u1 : ¬ p1 < y1 := by omega
        have u2 : ¬ p2 < y2 := by omega
        have u3 : ¬ p3 < y3 := by omega
        rcases K1 with ⟨rfl, rfl⟩ | ⟨rfl, h1, rfl⟩ | ⟨rfl, h1, rfl⟩
        all_goals rcases K2 with ⟨rfl, rfl⟩ | ⟨rfl, h2, rfl⟩ | ⟨rfl, h2, rfl⟩
        all_goals rcases K3 with ⟨rfl, rfl⟩ | ⟨rfl, h3, rfl⟩ | ⟨rfl, h3, rfl⟩
        all_goals
          (try subst h1)
          (try subst h2)
          (try subst h3)
          clear t1 t2 t3
          go_wp2_with fail
          go_roundw
          case rel => exact ⟨q + 1, _, _, _, by go_num, by omega, rfl, rfl, rfl, HBA.out, HNA, HNB, HNC⟩
          case measure => simp [RowKit.intOf]; omega
      · obtain rfl : q = n := by omega
        have ht : zs.take q = zs := List.take_of_length_le (by rw [HL.out]; exact Nat.le_refl _)
        rw [ht] at HA HBB HCC
        have ha : a = true := HA.out.trans HL1.out.2
        have hb' : b = true := HBB.out.trans HL2.out.2
        have hc' : c = true := HCC.out.trans HL3.out.2
        subst ha
        subst hb'
        subst hc'
        go_wp2_with fail
        go_ret
        exact ⟨rfl, HB4.out.trans (hb.mono HB4.out.size)⟩
end Go.Proofs.YtmkkkkenhbcfhaaDoor
