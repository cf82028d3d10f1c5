/- The walks of gimletref03.Sub, Blank, Squeeze, words.Squeeze. -/
import Derived.Test.YtnhhnlbfgipebaaDoorAskedA
import Derived.Test.YtnhhnlbfgipebaaDoorCtab
import Derived.Test.YtnhhnlbfgipebaaDoorTr
namespace Gim
theorem subI_snoc (P : List Int) (r a c : Int) (hc : 0 < c) : subI (P ++ [r]) a c = subI P a c ++ (if a ≤ P.length ∧ ((a < 0 ∧ (P.length : Int) < a + c) ∨ (0 ≤ a ∧ (P.length : Int) - a < c)) then [r] else []) := by
  unfold subI
  rw [if_neg (show ¬ c ≤ 0 by omega), if_neg (show ¬ c ≤ 0 by omega)]
  by_cases ha : a < 0
  · rw [if_pos ha, if_pos ha, List.take_append]
    congr 1
    by_cases h : (P.length : Int) < a + c
    · rw [if_pos (by omega), List.take_of_length_le (by simp; omega)]
    · rw [if_neg (by omega), show (a + c).toNat - P.length = 0 by omega]
      rfl
  · rw [if_neg ha, if_neg ha]
    by_cases h1 : a ≤ P.length
    · rw [List.drop_append_of_le_length (by omega), List.take_append, List.length_drop]
      congr 1
      by_cases h : (P.length : Int) - a < c
      · rw [if_pos (by omega), List.take_of_length_le (by simp; omega)]
      · rw [if_neg (by omega), show c.toNat - (P.length - a.toNat) = 0 by omega]
        rfl
    · rw [if_neg (by omega), List.drop_of_length_le (by simp; omega), List.drop_of_length_le (by omega)]
      simp
def blk (r : Int) : Bool := r == 32 || r == 9 || r == 10 || r == 13
theorem blk_cls (r : Int) : isF (cls 1) r = blk r := by
  have : cls 1 = [(9, 10), (13, 13), (32, 32)] := rfl
  rw [this]
  unfold blk
  simp only [isF]
  rw [Bool.eq_iff_iff]
  repeat' split
  all_goals simp only [decide_eq_true_eq, Bool.false_eq_true, false_iff, Bool.or_eq_true, beq_iff_eq]
  all_goals omega
/-- squeezed so far: is there a gap behind, and what is written -/
def sqS (s : Bool × List Int) (r : Int) : Bool × List Int :=
  if blk r then (true, s.2) else (false, s.2 ++ (if s.1 = true ∧ s.2 ≠ [] then [32, r] else [r]))
def sq (l : List Int) : Bool × List Int := l.foldl sqS (false, [])
theorem sq_snoc (l : List Int) (r : Int) : sq (l ++ [r]) = sqS (sq l) r := by unfold sq; rw [List.foldl_append]; rfl
theorem sq_length : ∀ (l : List Int) (s : Bool × List Int), (l.foldl sqS s).2.length ≤ s.2.length + 2 * l.length
  | [], s => by simp
  | r :: l, s => by
    have h1 := sq_length l (sqS s r)
    have h2 : (sqS s r).2.length ≤ s.2.length + 2 := by
      unfold sqS
      split
      · simp
      · simp only [List.length_append]
        split <;> simp
    simp only [List.foldl_cons, List.length_cons]
    omega
theorem sq_len (l : List Int) : (sq l).2.length ≤ 2 * l.length := by
  have := sq_length l (false, [])
  simpa [sq] using this
theorem sq_gap (l : List Int) (r : Int) : (sq (l ++ [r])).1 = blk r := by
  rw [sq_snoc]
  unfold sqS
  cases blk r <;> simp
end Gim
namespace Gim
open Go Go.RowKit
theorem Row.stays' {w w1 : World} {B : Nat} {e : TypeId} {k : IntKind} {v : Value} {xs : List Int} (h : Row w B e k v xs) (hb : Below w.heap.size w w1) : Row w1 B e k v xs := by
  refine ⟨h.1, ?_⟩
  rcases h.2 with h2 | ⟨g, cap, cur, a, b, c, rest⟩
  · exact .inl h2
  · exact .inr ⟨g, cap, cur, a, b, (hb.block g (Array.getElem?_eq_some_iff.1 c).1).trans c, rest⟩
end Gim
namespace Go.Proofs.YtnhhnlbfgipebaaDoor
open Go.RowKit Gim
set_option maxHeartbeats 1000000 in
theorem blank_calls (r : Int) (w : World) : Calls Tryd.prog 26 #[.int .i32 r] w fun e w' => e = .returned (.bool (blk r)) ∧ w' = w := by
  go_enter Tryd.func26, Tryd.ntmps26
  go_wp2
  all_goals
    go_ret
    refine ⟨?_, rfl⟩
    show Ending.returned (.bool _) = .returned (.bool (blk r))
    congr 2
    try first
      | rfl
      | simp_all [blk]
set_option maxHeartbeats 2000000 in
theorem refSub (s : ByteArray) (a c : Int) (w : World) (hs : s.size < 1099511627776) (ha : -9223372036854775808 ≤ a) (ha2 : a ≤ 9223372036854775807) (hc : -9223372036854775808 ≤ c) (hc2 : c ≤ 9223372036854775807) :
    Calls Tryd.prog 9 #[.string s, .int .i64 a, .int .i64 c] w fun e w' => e = .returned (.string (runesBytes (subI (rs s) a c))) ∧ Below w.heap.size w w' := by
  have ls := rs_length s
  obtain ⟨l, hl⟩ : ∃ l, l = rs s := ⟨_, rfl⟩
  rw [← hl] at ls ⊢
  have HLS := Lib.hid hl
  obtain ⟨n, hn⟩ : ∃ n, n = l.length := ⟨_, rfl⟩
  have HN := Lib.hid hn
  rw [← hn] at ls
  clear hl hn
  go_enter Tryd.func9, Tryd.ntmps9
  go_wp2_with fail
  refine (refRunes _ _ (by omega)).mono ?_
  rintro e w1 ⟨v1, rfl, hr1, hb1⟩
  rw [← HLS.out] at hr1
  obtain ⟨a1, c1, rfl, rd1⟩ := hr1.rd
  rw [← HN.out] at rd1 ⊢
  have hB := hb1.size
  clear hr1
  by_cases hcp : 0 < c
  · go_wp2
    go_loopw [8, 9] (fun v y wr => ∃ i : Nat, y = .int .i64 i ∧ i ≤ n ∧ Row wr w1.heap.size 21 .i32 v (subI (l.take i) a c) ∧ Below w1.heap.size w1 wr) (fun _ y _ => n - (intOf y).toNat)
    case atStart => exact ⟨0, rfl, by omega, by rw [show subI (l.take 0) a c = [] by unfold subI; simp]; exact World.ownsRow_nil _ _ _ _, Below.refl _ _⟩
    case round =>
      obtain ⟨i, rfl, hin, hrow, hb⟩ := hrel
      by_cases hi : i < n
      · have HS := Lib.hid (show subI (l.take (i + 1)) a c = subI (l.take i) a c ++ (if a ≤ i ∧ ((a < 0 ∧ (i : Int) < a + c) ∨ (0 ≤ a ∧ (i : Int) - a < c)) then [gt l i] else []) by
          have hlt : (l.take i).length = i := by rw [List.length_take, ← HN.out]; omega
          rw [take_step (by rw [← HN.out]; exact hi), subI_snoc _ _ _ _ hcp, hlt])
        have hol : (subI (l.take i) a c).length ≤ n := by
          unfold subI
          repeat' split
          all_goals simp only [List.length_nil, List.length_take, List.length_drop]
          all_goals omega
        obtain ⟨b, o, rfl, hbz, hc'⟩ := (rd1.below hb).cell i hi
        have k1 := hc' i hi
        by_cases hneg : a < 0
        · by_cases hlt : (i : Int) < a + c
          · obtain ⟨x, hx⟩ : ∃ x, x = gt l i := ⟨_, rfl⟩
            rw [← hx] at k1 HS
            have HS2 := Lib.hid (HS.out.trans (by rw [if_pos ⟨by omega, .inl ⟨hneg, hlt⟩⟩]) : subI (l.take (i + 1)) a c = subI (l.take i) a c ++ [x])
            obtain ⟨o', ho⟩ : ∃ o', o' = subI (l.take i) a c := ⟨_, rfl⟩
            rw [← ho] at HS2 hrow hol
            clear HS hx ho hc'
            go_wp2_with (at_builtin; refine append1 _ rfl _ _ 33 rfl w1.heap.size 21 .i32 4 info_rune Tryd.underlying33 _ _ rfl hrow _ rfl (by omega) (by decide) hb.size ?_; intro v' w3 hown' hgrow3)
            have hb3 := hb.grown hgrow3 hb.size (fun j hj => (hrow.lt _ hj).1)
            go_roundw
            case rel => exact ⟨i + 1, by go_num, by omega, by rw [HS2.out]; exact hown', hb3⟩
            case measure => simp [intOf]; omega
          · have HS2 := Lib.hid (HS.out.trans (by rw [if_neg (by omega), List.append_nil]) : subI (l.take (i + 1)) a c = subI (l.take i) a c)
            clear HS hc'
            go_wp2
            go_roundw
            case rel => exact ⟨i + 1, by go_num, by omega, by rw [HS2.out]; exact hrow, hb⟩
            case measure => simp [intOf]; omega
        · by_cases hge : a ≤ (i : Int)
          · by_cases hlt : (i : Int) - a < c
            · obtain ⟨x, hx⟩ : ∃ x, x = gt l i := ⟨_, rfl⟩
              rw [← hx] at k1 HS
              have HS2 := Lib.hid (HS.out.trans (by rw [if_pos ⟨by omega, .inr ⟨by omega, hlt⟩⟩]) : subI (l.take (i + 1)) a c = subI (l.take i) a c ++ [x])
              obtain ⟨o', ho⟩ : ∃ o', o' = subI (l.take i) a c := ⟨_, rfl⟩
              rw [← ho] at HS2 hrow hol
              clear HS hx ho hc'
              go_wp2_with (at_builtin; refine append1 _ rfl _ _ 33 rfl w1.heap.size 21 .i32 4 info_rune Tryd.underlying33 _ _ rfl hrow _ rfl (by omega) (by decide) hb.size ?_; intro v' w3 hown' hgrow3)
              have hb3 := hb.grown hgrow3 hb.size (fun j hj => (hrow.lt _ hj).1)
              go_roundw
              case rel => exact ⟨i + 1, by go_num, by omega, by rw [HS2.out]; exact hown', hb3⟩
              case measure => simp [intOf]; omega
            · have HS2 := Lib.hid (HS.out.trans (by rw [if_neg (by omega), List.append_nil]) : subI (l.take (i + 1)) a c = subI (l.take i) a c)
              clear HS hc'
              go_wp2
              go_roundw
              case rel => exact ⟨i + 1, by go_num, by omega, by rw [HS2.out]; exact hrow, hb⟩
              case measure => simp [intOf]; omega
          · have HS2 := Lib.hid (HS.out.trans (by rw [if_neg (by omega), List.append_nil]) : subI (l.take (i + 1)) a c = subI (l.take i) a c)
            clear HS hc'
            go_wp2
            go_roundw
            case rel => exact ⟨i + 1, by go_num, by omega, by rw [HS2.out]; exact hrow, hb⟩
            case measure => simp [intOf]; omega
      · obtain rfl : i = n := by omega
        have hd : subI (l.take i) a c = subI l a c := by rw [List.take_of_length_le (by rw [← HN.out]; exact Nat.le_refl _)]
        rw [hd] at hrow
        have cT := text _ _ _ wr hrow
        clear hd hrow
        go_wp2_with fail
        refine cT.mono ?_
        rintro e w3 ⟨rfl, rfl⟩
        go_wp2
        go_ret
        exact ⟨rfl, hb1.trans (hb.mono hB)⟩
  · have HE := Lib.hid (show subI l a c = [] by unfold subI; rw [if_pos (by omega)])
    have cT := fun wx => text (.slice none 0 0) [] w1.heap.size wx (World.ownsRow_nil _ _ _ _)
    have hcd : decide (0 < c) = false := by simp; omega
    go_wp2
    go_loopw [8, 9] (fun v y wr => v = .slice none 0 0 ∧ y = .int .i64 0 ∧ wr = w1) (fun _ _ _ => 0)
    case atStart => exact ⟨rfl, rfl, rfl⟩
    case round =>
      obtain ⟨rfl, rfl, rfl⟩ := hrel
      rcases Nat.eq_zero_or_pos n with hn0 | hn0
      · subst hn0
        go_wp2_with fail
        refine (cT _).mono ?_
        rintro e w3 ⟨rfl, rfl⟩
        go_wp2
        go_ret
        exact ⟨by rw [HE.out]; rfl, hb1⟩
      · go_wp2_with fail
        refine (cT _).mono ?_
        rintro e w3 ⟨rfl, rfl⟩
        go_wp2
        go_ret
        exact ⟨by rw [HE.out]; rfl, hb1⟩
theorem gapB (l : List Int) (i : Nat) (h : 0 < i) (hi : i ≤ l.length) : (sq (l.take i)).1 = blk (gt l (i - 1)) := by
  obtain ⟨j, rfl⟩ : ∃ j, i = j + 1 := ⟨i - 1, by omega⟩
  rw [take_step (by omega), sq_gap]
  rfl
set_option maxHeartbeats 4000000 in
theorem refSqueeze (s : ByteArray) (w : World) (hs : s.size < 274877906944) :
    Calls Tryd.prog 11 #[.string s] w fun e w' => e = .returned (.string (runesBytes (sq (rs s)).2)) ∧ Below w.heap.size w w' := by
  have ls := rs_length s
  obtain ⟨l, hl⟩ : ∃ l, l = rs s := ⟨_, rfl⟩
  rw [← hl] at ls ⊢
  have HLS := Lib.hid hl
  obtain ⟨n, hn⟩ : ∃ n, n = l.length := ⟨_, rfl⟩
  have HN := Lib.hid hn
  rw [← hn] at ls
  clear hl hn
  go_enter Tryd.func11, Tryd.ntmps11
  go_wp2_with fail
  refine (refRunes _ _ (by omega)).mono ?_
  rintro e w1 ⟨v1, rfl, hr1, hb1⟩
  rw [← HLS.out] at hr1
  obtain ⟨a1, c1, rfl, rd1⟩ := hr1.rd
  rw [← HN.out] at rd1 ⊢
  have hB := hb1.size
  clear hr1
  go_wp2
  go_loopw [4, 5] (fun v y wr => ∃ i : Nat, y = .int .i64 i ∧ i ≤ n ∧ Row wr w1.heap.size 21 .i32 v (sq (l.take i)).2 ∧ Below w1.heap.size w1 wr) (fun _ y _ => n - (intOf y).toNat)
  case atStart => exact ⟨0, rfl, by omega, World.ownsRow_nil _ _ _ _, Below.refl _ _⟩
  case round =>
    obtain ⟨i, rfl, hin, hrow, hb⟩ := hrel
    by_cases hi : i < n
    · have hst : sq (l.take (i + 1)) = sqS (sq (l.take i)) (gt l i) := by rw [take_step (by rw [← HN.out]; exact hi), sq_snoc]
      have hol : (sq (l.take i)).2.length ≤ 2 * i := by have := sq_len (l.take i); rw [List.length_take] at this; omega
      have hgp := fun h0 => gapB l i h0 (by rw [← HN.out]; omega)
      obtain ⟨b, o, rfl, hbz, hc'⟩ := (rd1.below hb).cell i hi
      have k1 := hc' i hi
      have k2 := fun (h0 : 0 < i) => hc' (i - 1) (by omega)
      obtain ⟨x, hx⟩ : ∃ x, x = gt l i := ⟨_, rfl⟩
      rw [← hx] at k1 hst
      obtain ⟨q, hq⟩ : ∃ q, q = sq (l.take i) := ⟨_, rfl⟩
      rw [← hq] at hst hol hrow hgp
      have HQ := Lib.hid hq
      obtain ⟨ap, out⟩ := q
      dsimp only at hol hrow hgp
      have HST := Lib.hid hst
      have cB := fun wx => blank_calls x wx
      clear hq hst
      obtain ⟨bx, hbx⟩ : ∃ bx, bx = blk x := ⟨_, rfl⟩
      rw [← hbx] at cB
      have hc4 := Lib.hid (fun (wx : World) (hw : Below w1.heap.size w1 wx) => And.intro (show wx.cell? ⟨b, o + i, none⟩ = some (.int .i32 x) from by
        obtain ⟨b', o', e', _, h'⟩ := (rd1.below hw).cell i hi
        simp only [Option.some.injEq, Addr.mk.injEq, and_true] at e'
        obtain ⟨rfl, rfl⟩ := e'
        rw [h' i hi, hx]) trivial)
      clear hx
      cases bx
      · obtain ⟨ao, cp, rfl, _⟩ := hrow.rd
        obtain ⟨z, hz⟩ : ∃ z, z = out.length := ⟨_, rfl⟩
        have HZ := Lib.hid hz
        rw [← hz] at hol hrow ⊢
        by_cases hz0 : z = 0
        · have ho : out = [] := List.eq_nil_of_length_eq_zero (by omega)
          have HS2 := Lib.hid (show (sq (l.take (i + 1))).2 = out ++ [x] by rw [HST.out]; unfold sqS; rw [← hbx, ho]; simp)
          have hlz : out.length < 1099511627776 := by omega
          subst hz0
          clear hbx HST hgp k2 hc' hz ho
          go_wp2_with fail
          refine (cB _).mono ?_
          rintro e w2 ⟨rfl, rfl⟩
          go_wp2_with (at_builtin; refine append1 _ rfl _ _ 33 rfl w1.heap.size 21 .i32 4 info_rune Tryd.underlying33 _ _ rfl hrow _ rfl hlz (by decide) hb.size ?_; intro v' w3 hown' hgrow3)
          have hb3 := hb.grown hgrow3 hb.size (fun j hj => (hrow.lt _ hj).1)
          go_roundw
          case rel => exact ⟨i + 1, by go_num, by omega, by rw [HS2.out]; exact hown', hb3⟩
          case measure => simp [intOf]; omega
        · have hi0 : 0 < i := by omega
          have hg := hgp hi0
          have k3 := k2 hi0
          have cY := fun wx => blank_calls (gt l (i - 1)) wx
          have ei : (i : Int) - 1 = ((i - 1 : Nat) : Int) := by omega
          rw [← hg] at cY
          obtain ⟨y, hy⟩ : ∃ y, y = gt l (i - 1) := ⟨_, rfl⟩
          rw [← hy] at k3 cY
          obtain ⟨i', hi'⟩ : ∃ i', i' = i - 1 := ⟨_, rfl⟩
          rw [← hi'] at k3 ei
          have hi'n : i' < n := by omega
          have hlz : out.length < 1099511627770 := by omega
          have hzd : decide (0 < (z : Int)) = true := by simp; omega
          cases ap
          · have HS2 := Lib.hid (show (sq (l.take (i + 1))).2 = out ++ [x] by rw [HST.out]; unfold sqS; rw [← hbx]; simp)
            clear hbx HST hgp k2 hc' hg hy hz hi'
            go_wp2_with fail
            refine (cB _).mono ?_
            rintro e w2 ⟨rfl, rfl⟩
            go_wp2_with fail
            refine (cY _).mono ?_
            rintro e w3 ⟨rfl, rfl⟩
            go_wp2_with (at_builtin; refine append1 _ rfl _ _ 33 rfl w1.heap.size 21 .i32 4 info_rune Tryd.underlying33 _ _ rfl hrow _ rfl (by omega) (by decide) hb.size ?_; intro v' w4 hown' hgrow3)
            have hb3 := hb.grown hgrow3 hb.size (fun j hj => (hrow.lt _ hj).1)
            go_roundw
            case rel => exact ⟨i + 1, by go_num, by omega, by rw [HS2.out]; exact hown', hb3⟩
            case measure => simp [intOf]; omega
          · have hne : out ≠ [] := fun h => hz0 (by rw [hz, h]; rfl)
            have HS2 := Lib.hid (show (sq (l.take (i + 1))).2 = out ++ [32] ++ [x] by rw [HST.out]; unfold sqS; rw [← hbx]; simp [hne])
            clear hbx HST hgp k2 hc' hg hy hz hi' hne
            go_wp2_with fail
            refine (cB _).mono ?_
            rintro e w2 ⟨rfl, rfl⟩
            go_wp2_with fail
            refine (cY _).mono ?_
            rintro e w3 ⟨rfl, rfl⟩
            go_wp2_with (first
              | (at_builtin; refine append1 _ rfl _ _ 33 rfl w1.heap.size 21 .i32 4 info_rune Tryd.underlying33 _ _ rfl hrow _ rfl (by omega) (by decide) hb.size ?_; intro v' w4 hown' hgrow3
                 have hb3 := hb.grown hgrow3 hb.size (fun j hj => (hrow.lt _ hj).1)
                 have k4 := (hc4.out w4 hb3).1
                 clear k1)
              | (at_builtin; refine append1 _ rfl _ _ 33 rfl w1.heap.size 21 .i32 4 info_rune Tryd.underlying33 _ _ rfl hown' _ rfl (by simp; omega) (by decide) hb3.size ?_; intro v'' w5 hown'' hgrow5))
            have hb5 := hb3.grown hgrow5 hb3.size (fun j hj => (hown'.lt _ hj).1)
            go_roundw
            case rel => exact ⟨i + 1, by go_num, by omega, by rw [HS2.out]; exact hown'', hb5⟩
            case measure => simp [intOf]; omega
      · have HS2 := Lib.hid (show (sq (l.take (i + 1))).2 = out by rw [HST.out]; unfold sqS; rw [← hbx]; rfl)
        clear hbx HST hgp k2 hc'
        go_wp2_with fail
        refine (cB _).mono ?_
        rintro e w2 ⟨rfl, rfl⟩
        go_wp2
        go_roundw
        case rel => exact ⟨i + 1, by go_num, by omega, by rw [HS2.out]; exact hrow, hb⟩
        case measure => simp [intOf]; omega
    · obtain rfl : i = n := by omega
      have hd : sq (l.take i) = sq l := by rw [List.take_of_length_le (by rw [← HN.out]; exact Nat.le_refl _)]
      rw [hd] at hrow
      have cT := text _ _ _ wr hrow
      clear hd hrow
      go_wp2_with fail
      refine cT.mono ?_
      rintro e w3 ⟨rfl, rfl⟩
      go_wp2
      go_ret
      exact ⟨rfl, hb1.trans (hb.mono hB)⟩
set_option maxHeartbeats 4000000 in
theorem squeeze (s : ByteArray) (w : World) (hs : s.size < 274877906944) (hT : Tab 2 w) :
    Calls Tryd.prog 10 #[.string s] w fun e w' => e = .returned (.string (runesBytes (sq (rs s)).2)) ∧ Below w.heap.size w w' := by
  have ls := rs_length s
  go_enter Tryd.func10, Tryd.ntmps10
  go_wp2
  go_loopw [3, 4] (fun v g wr => ∃ (pos k : Nat) (gap : Bool) (out : List Int), g = .bool gap ∧ Row wr w.heap.size 21 .i32 v out ∧ wr.heap[w.heap.size]? = some (.stringIter s pos) ∧ Below w.heap.size w wr ∧ Hid ((rs s).drop k = rsAt s pos) ∧ Hid ((gap, out) = sq ((rs s).take k)) ∧ k ≤ pos ∧ k ≤ s.size ∧ out.length ≤ 2 * k) (fun _ _ wr => s.size - wr.iterPos w.heap.size)
  case atStart => exact ⟨0, 0, false, [], rfl, World.ownsRow_nil _ _ _ _, World.iter_heap w s 0, (Below.refl _ _).alloc (Nat.le_refl _) _, rfl, Lib.hid rfl, by omega, by omega, by simp⟩
  case round =>
    obtain ⟨pos, k, gap, out, rfl, hrow, hit, hb, HD, HQ, hlen, hks, hol⟩ := hrel
    have hpos0 := iterPos_of hit
    by_cases hp : pos < s.size
    · obtain ⟨W1, hnx, hw1⟩ := next_some (P := Tryd.prog) hit hp
      have hwd := Lib.decode_width_pos s pos hp
      obtain ⟨r, hr⟩ : ∃ r : Int, r = ((Utf8.decode s pos).1 : Int) := ⟨_, rfl⟩
      have hst := rs_step hp HD.out
      rw [← hr] at hnx hst
      have hrr : 0 ≤ r ∧ r ≤ 1114111 := by have := decode_nonneg_lt s pos; omega
      obtain ⟨hr0, hr1⟩ := hrr
      obtain ⟨hnl, hgr, hdr⟩ := hst
      have HD2 := Lib.hid hdr
      have HT := Lib.hid (show sq ((rs s).take (k + 1)) = sqS (gap, out) r by rw [take_step hnl, hgr, sq_snoc, ← HQ.out])
      have hb1 := hw1.below _ _ hb (Nat.le_refl _)
      have hrow1 : Row W1 w.heap.size 21 .i32 _ _ := hw1.owns _ _ _ _ _ _ hrow
      have hit2 := hw1.it
      have hsz1 := hb1.size
      have hsize1 := hw1.size
      have hit0 := lt_of_block hit
      have cI := is_calls W1 1 r (hT.below hb1)
      rw [blk_cls] at cI
      obtain ⟨bx, hbx⟩ : ∃ bx, bx = blk r := ⟨_, rfl⟩
      rw [← hbx] at cI
      clear hr hgr hdr hit hb HD hrow HQ
      cases bx
      · cases gap
        · have HQ2 := Lib.hid (show (false, out ++ [r]) = sq ((rs s).take (k + 1)) by rw [HT.out]; unfold sqS; rw [← hbx]; simp)
          clear hbx HT
          go_wp2_with fail
          refine cI.mono ?_
          rintro e w2 ⟨rfl, k2⟩
          have hit3 := (k2.block _ (lt_of_block hit2)).trans hit2
          have hb2 := hb1.trans (k2.mono hsz1)
          have hrow2 := Row.stays' hrow1 k2
          have hsz2 := hb2.size
          clear cI k2 hrow1 hit2 hb1
          go_wp2_with (at_builtin; refine append1 _ rfl _ _ 33 rfl w.heap.size 21 .i32 4 info_rune Tryd.underlying33 _ _ rfl hrow2 _ rfl (by omega) (by decide) hsz2 ?_; intro v' w4 hown' hgrow3)
          have hit4 := iter_grown hrow2 hgrow3 hit3
          have hb3 := hb2.grown hgrow3 hsz2 (fun j hj => (hrow2.lt _ hj).1)
          go_roundw
          case rel => exact ⟨_, k + 1, false, _, rfl, hown', hit4, hb3, HD2, HQ2, by omega, by omega, by simp; omega⟩
          case measure => rw [iterPos_of hit4, hpos0]; omega
        · obtain ⟨ao, cp, rfl, _⟩ := hrow1.rd
          obtain ⟨z, hz⟩ : ∃ z, z = out.length := ⟨_, rfl⟩
          have HZ := Lib.hid hz
          rw [← hz] at hrow1 hol ⊢
          by_cases hz0 : z = 0
          · have ho : out = [] := List.eq_nil_of_length_eq_zero (by omega)
            have hlz : out.length < 1099511627770 := by omega
            subst hz0
            have HQ2 := Lib.hid (show (false, out ++ [r]) = sq ((rs s).take (k + 1)) by rw [HT.out]; unfold sqS; rw [← hbx]; simp [ho])
            clear hbx HT ho hz
            go_wp2_with fail
            refine cI.mono ?_
            rintro e w2 ⟨rfl, k2⟩
            have hit3 := (k2.block _ (lt_of_block hit2)).trans hit2
            have hb2 := hb1.trans (k2.mono hsz1)
            have hrow2 := Row.stays' hrow1 k2
            have hsz2 := hb2.size
            clear cI k2 hrow1 hit2 hb1
            go_wp2_with (at_builtin; refine append1 _ rfl _ _ 33 rfl w.heap.size 21 .i32 4 info_rune Tryd.underlying33 _ _ rfl hrow2 _ rfl (by omega) (by decide) hsz2 ?_; intro v' w4 hown' hgrow3)
            have hit4 := iter_grown hrow2 hgrow3 hit3
            have hb3 := hb2.grown hgrow3 hsz2 (fun j hj => (hrow2.lt _ hj).1)
            go_roundw
            case rel => exact ⟨_, k + 1, false, _, rfl, hown', hit4, hb3, HD2, HQ2, by omega, by omega, by rw [List.length_append, ← HZ.out]; simp; omega⟩
            case measure => rw [iterPos_of hit4, hpos0]; omega
          · have hne : out ≠ [] := fun h => hz0 (by rw [hz, h]; rfl)
            have HQ2 := Lib.hid (show (false, out ++ [32] ++ [r]) = sq ((rs s).take (k + 1)) by rw [HT.out]; unfold sqS; rw [← hbx]; simp [hne])
            have hzd : decide (0 < (z : Int)) = true := by simp; omega
            have hlz : out.length < 1099511627770 := by omega
            clear hbx HT hne hz
            go_wp2_with fail
            refine cI.mono ?_
            rintro e w2 ⟨rfl, k2⟩
            have hit3 := (k2.block _ (lt_of_block hit2)).trans hit2
            have hb2 := hb1.trans (k2.mono hsz1)
            have hrow2 := Row.stays' hrow1 k2
            have hsz2 := hb2.size
            clear cI k2 hrow1 hit2 hb1
            go_wp2_with (first
              | (at_builtin; refine append1 _ rfl _ _ 33 rfl w.heap.size 21 .i32 4 info_rune Tryd.underlying33 _ _ rfl hrow2 _ rfl (by omega) (by decide) hsz2 ?_; intro v' w4 hown' hgrow3
                 have hit4 := iter_grown hrow2 hgrow3 hit3
                 have hb3 := hb2.grown hgrow3 hsz2 (fun j hj => (hrow2.lt _ hj).1))
              | (at_builtin; refine append1 _ rfl _ _ 33 rfl w.heap.size 21 .i32 4 info_rune Tryd.underlying33 _ _ rfl hown' _ rfl (by simp; omega) (by decide) hb3.size ?_; intro v'' w5 hown'' hgrow5))
            have hit5 := iter_grown hown' hgrow5 hit4
            have hb5 := hb3.grown hgrow5 hb3.size (fun j hj => (hown'.lt _ hj).1)
            go_roundw
            case rel => exact ⟨_, k + 1, false, _, rfl, hown'', hit5, hb5, HD2, HQ2, by omega, by omega, by rw [List.length_append, List.length_append, ← HZ.out]; simp; omega⟩
            case measure => rw [iterPos_of hit5, hpos0]; omega
      · have HQ2 := Lib.hid (show (true, out) = sq ((rs s).take (k + 1)) by rw [HT.out]; unfold sqS; rw [← hbx]; rfl)
        clear hbx HT
        go_wp2_with fail
        refine cI.mono ?_
        rintro e w2 ⟨rfl, k2⟩
        have hit3 := (k2.block _ (lt_of_block hit2)).trans hit2
        have hb2 := hb1.trans (k2.mono hsz1)
        have hrow2 := Row.stays' hrow1 k2
        clear cI k2 hrow1 hit2 hb1
        go_wp2
        go_roundw
        case rel => exact ⟨_, k + 1, true, out, rfl, hrow2, hit3, hb2, HD2, HQ2, by omega, by omega, by omega⟩
        case measure => rw [iterPos_of hit3, hpos0]; omega
    · have hnx : ∀ ty, (Instr.next (.pointer (some ⟨w.heap.size, 0, none⟩)) true ty).run Tryd.prog wr = _ := fun ty => Lib.run_next_end_at wr w.heap.size s pos ty hit hp
      have hstop := rs_stop hp HD.out
      have HF := Lib.hid (show out = (sq (rs s)).2 by rw [← List.take_of_length_le hstop, ← HQ.out])
      obtain ⟨ao, cp, rfl, rdo⟩ := hrow.rd
      have hcv := rdo.conv (P := Tryd.prog) (src := 33) (dst := 9) (e := 21) Tryd.underlying33 Tryd.underlying21 Tryd.underlying9
      clear hstop hrow
      go_wp2
      go_ret
      exact ⟨by rw [← HF.out]; rfl, hb⟩
end Go.Proofs.YtnhhnlbfgipebaaDoor
