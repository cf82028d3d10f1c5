/- The walks of words.units, words.CompareUnits, words.Sub. -/
import Derived.Test.YtnhhnlbfgipebaaDoorOrd
namespace Gim
/-- the units of 16 bits of a character -/
def un1 (r : Int) : List Int := if 65535 < r then [55296 + (r - 65536) / 1024, 56320 + (r - 65536) % 1024] else [r]
def unI (l : List Int) : List Int := l.flatMap un1
theorem unI_snoc (l : List Int) (r : Int) : unI (l ++ [r]) = unI l ++ un1 r := by simp [unI]
theorem un1_length (r : Int) : (un1 r).length ≤ 2 := by unfold un1; split <;> simp
theorem unI_length : ∀ l : List Int, (unI l).length ≤ 2 * l.length
  | [] => by simp [unI]
  | a :: l => by
    have := un1_length a
    have ih := unI_length l
    simp only [unI, List.flatMap_cons, List.length_append, List.length_cons] at *
    omega
theorem take_step {l : List Int} {n : Nat} (h : n < l.length) : l.take (n + 1) = l.take n ++ [gt l n] := by
  rw [List.take_succ_eq_append_getElem h, gt_lt h]
/-- so many characters from that one on -/
def subI (l : List Int) (a c : Int) : List Int := if c ≤ 0 then [] else if a < 0 then l.take (a + c).toNat else (l.drop a.toNat).take c.toNat
end Gim
namespace Go.Proofs.YtnhhnlbfgipebaaDoor
open Go.RowKit Gim

set_option maxHeartbeats 1000000 in
theorem units (s : ByteArray) (w : World) (hs : s.size < 274877906944) :
    Calls Tryd.prog 29 #[.string s] w (GivesRow w 21 .i32 (unI (rs s))) := by
  have ls := rs_length s
  go_enter Tryd.func29, Tryd.ntmps29
  go_wp2
  go_loopw [3] (fun v wr => ∃ (pos k : Nat), Row wr w.heap.size 21 .i32 v (unI ((rs s).take k)) ∧ wr.heap[w.heap.size]? = some (.stringIter s pos) ∧ Below w.heap.size w wr ∧ Hid ((rs s).drop k = rsAt s pos) ∧ k ≤ pos ∧ k ≤ s.size) (fun _ wr => s.size - wr.iterPos w.heap.size)
  case atStart => exact ⟨0, 0, World.ownsRow_nil _ _ _ _, World.iter_heap w s 0, (Below.refl _ _).alloc (Nat.le_refl _) _, rfl, by omega, by omega⟩
  case round =>
    obtain ⟨pos, k, hrow, hit, hb, HD, hlen, hks⟩ := hrel
    have hpos0 := iterPos_of hit
    by_cases hp : pos < s.size
    · obtain ⟨W1, hnx, hw1⟩ := next_some (P := Tryd.prog) hit hp
      have hwd := Lib.decode_width_pos s pos hp
      obtain ⟨r, hr⟩ : ∃ r : Int, r = ((Utf8.decode s pos).1 : Int) := ⟨_, rfl⟩
      have hst := rs_step hp HD.out
      rw [← hr] at hnx hst
      have hrr : 0 ≤ r ∧ r ≤ 1114111 := by have := decode_nonneg_lt s pos; omega
      obtain ⟨hr0, hr1⟩ := hrr
      obtain ⟨hnl, hgr, hdr⟩ := hst
      have HD2 := Lib.hid hdr
      have HG := Lib.hid hgr
      have HT := Lib.hid (show unI ((rs s).take (k + 1)) = unI ((rs s).take k) ++ un1 r by rw [take_step hnl, HG.out, unI_snoc])
      have hlen2 : (unI ((rs s).take k)).length ≤ 2 * k := by have := unI_length ((rs s).take k); simp at this; omega
      have hb1 := hw1.below _ _ hb (Nat.le_refl _)
      have hrow1 : Row W1 w.heap.size 21 .i32 _ _ := hw1.owns _ _ _ _ _ _ hrow
      have hit2 := hw1.it
      have hsz1 := hb1.size
      clear hr hgr hdr hit hb HD hrow
      obtain ⟨o, ho⟩ : ∃ o, o = unI ((rs s).take k) := ⟨_, rfl⟩
      rw [← ho] at HT hlen2 hrow1
      clear ho
      by_cases hbig : 65535 < r
      · have HT2 := Lib.hid (HT.out.trans (by rw [show un1 r = [55296 + (r - 65536) / 1024, 56320 + (r - 65536) % 1024] by simp [un1, hbig]]))
        clear HT
        have h0 : (0 : Int) ≤ r - 65536 := by omega
        go_wp2_with (at_builtin; refine append2 _ rfl _ _ 33 rfl w.heap.size 21 .i32 4 info_rune Tryd.underlying33 _ _ rfl hrow1 _ _ rfl (by omega) (by decide) (by omega) ?_; intro v' w3 hown' hgrow3)
        have hit3 := iter_grown hrow1 hgrow3 hit2
        have hb3 := hb1.grown hgrow3 hsz1 (fun j hj => (hrow1.lt _ hj).1)
        go_roundw
        case rel => exact ⟨_, k + 1, by rw [HT2.out]; exact hown', hit3, hb3, HD2, by omega, by omega⟩
        case measure => rw [iterPos_of hit3, hpos0]; omega
      · have HT2 := Lib.hid (HT.out.trans (by rw [show un1 r = [r] by simp [un1, hbig]]))
        clear HT
        go_wp2_with (at_builtin; refine append1 _ rfl _ _ 33 rfl w.heap.size 21 .i32 4 info_rune Tryd.underlying33 _ _ rfl hrow1 _ rfl (by omega) (by decide) (by omega) ?_; intro v' w3 hown' hgrow3)
        have hit3 := iter_grown hrow1 hgrow3 hit2
        have hb3 := hb1.grown hgrow3 hsz1 (fun j hj => (hrow1.lt _ hj).1)
        go_roundw
        case rel => exact ⟨_, k + 1, by rw [HT2.out]; exact hown', hit3, hb3, HD2, by omega, by omega⟩
        case measure => rw [iterPos_of hit3, hpos0]; omega
    · have hnx : ∀ ty, (Instr.next (.pointer (some ⟨w.heap.size, 0, none⟩)) true ty).run Tryd.prog wr = _ := fun ty => Lib.run_next_end_at wr w.heap.size s pos ty hit hp
      have hstop := rs_stop hp HD.out
      have HF := Lib.hid (show unI ((rs s).take k) = unI (rs s) by rw [List.take_of_length_le hstop])
      rw [HF.out] at hrow
      clear hstop HF
      go_wp2
      go_ret
      exact ⟨_, rfl, hrow, hb⟩

set_option maxHeartbeats 400000 in
theorem compareUnits (s t : ByteArray) (w : World) (hs : s.size < 274877906944) (ht : t.size < 274877906944) :
    Calls Tryd.prog 16 #[.string s, .string t] w fun e w' => e = .returned (.int .i64 (ordI (unI (rs s)) (unI (rs t)))) ∧ Below w.heap.size w w' := by
  go_enter Tryd.func16, Tryd.ntmps16
  go_wp2_with fail
  refine (units _ _ hs).mono ?_
  rintro e w1 ⟨v1, rfl, hr1, hb1⟩
  obtain ⟨a1, c1, rfl, rd1⟩ := hr1.rd
  go_wp2_with fail
  refine (units _ _ ht).mono ?_
  rintro e w2 ⟨v2, rfl, hr2, hb2⟩
  obtain ⟨a2, c2, rfl, rd2⟩ := hr2.rd
  have hbw := hb1.trans (hb2.mono hb1.size)
  go_wp2_with fail
  refine (ordered _ _ _ _ _ _ _ _ _ (rd1.below hb2) rd2 (by have := rs_length s; have := unI_length (rs s); omega)).mono ?_
  rintro e w3 ⟨rfl, hb3⟩
  go_wp2
  go_ret
  exact ⟨rfl, hbw.trans (hb3.below _)⟩

set_option maxRecDepth 100000 in
set_option maxHeartbeats 1000000 in
theorem sub (s : ByteArray) (a c : Int) (w : World) (hs : s.size ≤ 1099511627776) (ha : -9223372036854775808 ≤ a) (ha2 : a ≤ 9223372036854775807) (hc : -9223372036854775808 ≤ c) (hc2 : c ≤ 9223372036854775807) :
    Calls Tryd.prog 8 #[.string s, .int .i64 a, .int .i64 c] w fun e w' => e = .returned (.string (runesBytes (subI (rs s) a c))) ∧ Below w.heap.size w w' := by
  have ls := rs_length s
  obtain ⟨n, hn⟩ : ∃ m, Hid (m = (rs s).length) := ⟨_, rfl⟩
  rw [← hn.out] at ls
  by_cases h1 : c ≤ 0
  · have HV := Lib.hid (show subI (rs s) a c = [] by simp [subI, h1])
    go_enter Tryd.func8, Tryd.ntmps8
    go_wp2_with fail
    refine (wordsRunes _ _ hs).mono ?_
    rintro e w1 ⟨v1, rfl, hr1, hb1⟩
    obtain ⟨a1, c1, rfl, rd1⟩ := hr1.rd
    go_wp2
    go_ret
    exact ⟨by rw [HV.out]; rfl, hb1⟩
  · by_cases h2 : (n : Int) ≤ a
    · have HV := Lib.hid (show subI (rs s) a c = [] by
        have : ¬ a < 0 := by omega
        simp only [subI, h1, this, if_false]
        rw [List.drop_eq_nil_of_le (by rw [← hn.out]; omega)]
        simp)
      go_enter Tryd.func8, Tryd.ntmps8
      go_wp2_with fail
      refine (wordsRunes _ _ hs).mono ?_
      rintro e w1 ⟨v1, rfl, hr1, hb1⟩
      obtain ⟨a1, c1, rfl, rd1⟩ := hr1.rd
      rw [← hn.out] at rd1 ⊢
      go_wp2
      go_ret
      exact ⟨by rw [HV.out]; rfl, hb1⟩
    · by_cases h3 : a < 0
      · have HV := Lib.hid (show subI (rs s) a c = (rs s).take (a + c).toNat by simp only [subI, h1, h3, if_false, if_true])
        rcases (show a + c < 0 ∨ (0 ≤ a + c ∧ a + c < n) ∨ (n : Int) ≤ a + c by omega) with h4 | ⟨h4, h5⟩ | h4
        all_goals
          go_enter Tryd.func8, Tryd.ntmps8
          go_wp2_with fail
          refine (wordsRunes _ _ hs).mono ?_
          rintro e w1 ⟨v1, rfl, hr1, hb1⟩
          obtain ⟨a1, c1, rfl, rd1⟩ := hr1.rd
          rw [← hn.out] at rd1 ⊢
          have hnc := rd1.le
          have hcv0 := (rd1.take (m := 0) (by omega)).conv (P := Tryd.prog) (src := 33) (dst := 9) (e := 21) rfl rfl rfl
          have hcvn := (rd1.take (m := n) (by omega)).conv (P := Tryd.prog) (src := 33) (dst := 9) (e := 21) rfl rfl rfl
          have HN := Lib.hid (show (rs s).take n = rs s from List.take_of_length_le (by rw [← hn.out]; omega))
          clear hr1
        · have HV2 := Lib.hid (HV.out.trans (show (rs s).take (a + c).toNat = [] by rw [show (a + c).toNat = 0 by omega]; rfl))
          have HE : Hid (n = 0 → (rs s).take n = []) := fun h => by rw [h]; rfl
          simp only [List.take_zero] at hcv0
          go_wp2
          all_goals go_ret
          all_goals first
            | exact ⟨by rw [HV2.out]; rfl, hb1⟩
            | exact ⟨by rw [HV2.out, ← HE.out (by omega)]; rfl, hb1⟩
        · have hcvT := (rd1.take (m := (a + c).toNat) (by omega)).conv (P := Tryd.prog) (src := 33) (dst := 9) (e := 21) rfl rfl rfl
          go_wp2
          go_ret
          exact ⟨by rw [HV.out]; rfl, hb1⟩
        · have HV2 := Lib.hid (HV.out.trans (show (rs s).take (a + c).toNat = (rs s).take n by rw [HN.out, List.take_of_length_le (by rw [← hn.out]; omega)]))
          go_wp2
          go_ret
          exact ⟨by rw [HV2.out]; rfl, hb1⟩
      · obtain ⟨m, rfl⟩ := Int.eq_ofNat_of_zero_le (show 0 ≤ a by omega)
        obtain ⟨q, rfl⟩ := Int.eq_ofNat_of_zero_le (show 0 ≤ c by omega)
        have HV := Lib.hid (show subI (rs s) m q = ((rs s).drop m).take q by simp only [subI, h1, h3, if_false, Int.toNat_natCast])
        by_cases h4 : (q : Int) < n - m
        all_goals
          go_enter Tryd.func8, Tryd.ntmps8
          go_wp2_with fail
          refine (wordsRunes _ _ hs).mono ?_
          rintro e w1 ⟨v1, rfl, hr1, hb1⟩
          obtain ⟨a1, c1, rfl, rd1⟩ := hr1.rd
          rw [← hn.out] at rd1 ⊢
          have hnc := rd1.le
          clear hr1
        · have hcv := ((rd1.drop (m := m) (by omega)).take (m := q) (by omega)).conv (P := Tryd.prog) (src := 33) (dst := 9) (e := 21) rfl rfl rfl
          have hne : ¬ c1 = m := by omega
          rw [if_neg hne] at hcv
          go_wp2
          go_ret
          exact ⟨by rw [HV.out]; rfl, hb1⟩
        · have hcv := (rd1.drop (m := m) (by omega)).conv (P := Tryd.prog) (src := 33) (dst := 9) (e := 21) rfl rfl rfl
          have hne : ¬ c1 = m := by omega
          rw [if_neg hne] at hcv
          have HV2 := Lib.hid (HV.out.trans (List.take_of_length_le (by rw [List.length_drop, ← hn.out]; omega)))
          go_wp2
          go_ret
          exact ⟨by rw [HV2.out]; rfl, hb1⟩
end Go.Proofs.YtnhhnlbfgipebaaDoor
