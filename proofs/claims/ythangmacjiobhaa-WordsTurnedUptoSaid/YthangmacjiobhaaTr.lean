/- The walks of words.Translate, gimletref03.text, gimletref03.Translate. -/
import Derived.Test.YthangmacjiobhaaTrMath
import Derived.Test.YthangmacjiobhaaRunes
namespace Go.Proofs.Ythangmacjiobhaa
open Go.RowKit Gim Go.Maps

theorem keyLaw : Keyed Try.prog 21 := int_keyed Try.underlying21
theorem zeroInt (w : World) : (zeroValue 3).run Try.prog w = .ok (.int .i64 0) w := by kernel_rfl

set_option maxHeartbeats 400000 in
theorem text (v : Value) (xs : List Int) (B : Nat) (w : World) (h : Row w B 21 .i32 v xs) :
    Calls Try.prog 47 #[v] w fun e w' => e = .returned (.string (runesBytes xs)) ∧ w = w' := by
  obtain ⟨a, c, rfl, rd⟩ := h.rd
  have hcv := rd.conv (P := Try.prog) (src := 33) (dst := 9) (e := 21) rfl rfl rfl
  go_enter Try.func47, Try.ntmps47
  go_wp2
  go_ret
  exact ⟨rfl, rfl⟩

set_option maxHeartbeats 2000000 in
theorem translate (s f t : ByteArray) (w : World) (hs : s.size < 1099511627776) (hf : f.size < 1099511627776) (ht : t.size ≤ 1099511627776) :
    Calls Try.prog 22 #[.string s, .string f, .string t] w fun e w' => e = .returned (.string (runesBytes (trI (rs s) (rs f) (rs t)))) ∧ Below w.heap.size w w' := by
  have lf := rs_length f
  have lt := rs_length t
  have ls := rs_length s
  have hmm := @run_makeMap Try.prog
  go_enter Try.func22, Try.ntmps22
  go_wp2
  go_loopw [8] (fun v wr => ∃ (pos n : Nat) (D : DataW Unit), v = .int .i64 n ∧ wr.heap[w.heap.size + 1]? = some (.stringIter f pos) ∧ Below w.heap.size w wr ∧ Hid ((rs f).drop n = rsAt f pos) ∧ n ≤ pos ∧ n ≤ f.size ∧ wr.ownsMap Try.prog 21 (plainElem Try.prog 3) w.heap.size n D ∧ MapIs D ((rs f).take n)) (fun _ wr => f.size - wr.iterPos (w.heap.size + 1))
  case atStart =>
    refine ⟨0, 0, .map [], rfl, ?_, ?_, rfl, by omega, by omega, ?_, mapIs_nil⟩
    · have := World.iter_heap (w.alloc (.map #[] 0)) f 0
      simpa using this
    · exact ((Below.refl _ _).alloc (Nat.le_refl _) _).alloc (by simp) _
    · exact (World.ownsMap_made _ _ _ _).alloc _
  case round =>
    obtain ⟨pos, n, D, rfl, hit, hbw, HD, hlen, hnf, hmap, hM⟩ := hrel
    have hpos0 := iterPos_of hit
    have HM := Lib.hid hM
    clear hM
    by_cases hp : pos < f.size
    · obtain ⟨W1, hnx, hw1⟩ := next_some (P := Try.prog) hit hp
      have hwd := Lib.decode_width_pos f pos hp
      obtain ⟨r, hr⟩ : ∃ r : Int, r = ((Utf8.decode f pos).1 : Int) := ⟨_, rfl⟩
      have hst := rs_step hp HD.out
      rw [← hr] at hnx hst
      have hrr : 0 ≤ r ∧ r ≤ 1114111 := by have := decode_nonneg_lt f pos; omega
      obtain ⟨hnl, hgr, hdr⟩ := hst
      have HD2 := Lib.hid hdr
      have HG := Lib.hid hgr
      have hb2 := hw1.below _ _ hbw (by omega)
      have hmap1 : W1.ownsMap Try.prog 21 (plainElem Try.prog 3) w.heap.size n D := by
        obtain ⟨es, clock, hb, F, hs, hD⟩ := hmap
        exact ⟨es, clock, (hw1.other _ (by omega)).trans hb, F, hs, hD⟩
      have hit2 := hw1.it
      have hat := hw1.at_
      have hkl := iter_lt hit2
      clear hr hgr hdr hit hbw hmap HD
      by_cases hin : r ∈ (rs f).take n
      · have hh : Maps.has D (.int .i32 r) = true := by rw [(HM.out.2 r).1]; simpa using hin
        have HM2 := Lib.hid (show MapIs D ((rs f).take (n + 1)) by rw [take_snoc hnl, HG.out]; exact mapIs_old HM.out hin)
        clear hin
        go_wp2_with (at_lookup; refine wpList_lookup_own_ok_int _ rfl _ _ 71 rfl 21 3 .i64 keyLaw Try.underlying71 Try.underlying3 (zeroInt _) w.heap.size n D rfl hmap1 _ _ rfl (keyOf_int_mk Try.underlying21 (rune_wf hrr.1 hrr.2)) ?_; intro c hatc hwc; clear hatc hwc)
        go_roundw
        case rel => exact ⟨_, n + 1, D, by go_num, hit2, hb2, HD2, by omega, by omega, hmap1.mono (by omega), HM2.out⟩
        case measure => rw [iterPos_of hit2, hpos0]; omega
      · have hh : Maps.has D (.int .i32 r) = false := by rw [(HM.out.2 r).1]; simpa using hin
        have HM2 := Lib.hid (show MapIs (D.put (.int .i32 r) (.lit (.int .i64 (n : Nat)))) ((rs f).take (n + 1)) by
          rw [take_snoc hnl, HG.out]
          have := mapIs_new HM.out hin
          rwa [show ((rs f).take n).length = n by simp; omega] at this)
        clear hin
        go_wp2_with (first
          | (at_lookup; refine wpList_lookup_own_ok_int _ rfl _ _ 71 rfl 21 3 .i64 keyLaw Try.underlying71 Try.underlying3 (zeroInt _) w.heap.size n D rfl hmap1 _ _ rfl (keyOf_int_mk Try.underlying21 (rune_wf hrr.1 hrr.2)) ?_; intro c hatc hwc; clear hatc hwc)
          | (at_mapUpdate; refine wpList_mapUpdate_own _ rfl _ _ _ 71 rfl 21 3 keyLaw Try.underlying71 _ w.heap.size n D rfl hmap1 (by unfold maxLen; omega) _ _ _ rfl rfl (keyOf_int_mk Try.underlying21 (rune_wf hrr.1 hrr.2)) _ [] (plainElem_int Try.underlying3 (WalkArith.wf_i64 (by omega))) ?_; intro w3 hmap3 hgrow3))
        have hit3 : w3.heap[w.heap.size + 1]? = some (.stringIter f (pos + (Utf8.decode f pos).2)) := by
          rw [hgrow3.block _ hkl (by simp)]; exact hit2
        have hb3 := hb2.grown hgrow3 hb2.size (fun k hk => by cases hk; exact Nat.le_refl _)
        go_wp2
        go_roundw
        case rel => exact ⟨_, n + 1, _, by go_num, hit3, hb3, HD2, by omega, by omega, hmap3, HM2.out⟩
        case measure => rw [iterPos_of hit3, hpos0]; omega
    · have hnx : ∀ ty, (Instr.next (.pointer (some ⟨w.heap.size + 1, 0, none⟩)) true ty).run Try.prog wr = _ := fun ty => Lib.run_next_end_at wr (w.heap.size + 1) f pos ty hit hp
      have hstop := rs_stop hp HD.out
      have HM2 : Hid (MapIs D (rs f)) := by have := HM.out; rwa [List.take_of_length_le hstop] at this
      have hmlt := hmap.lt
      clear HM hstop HD hit
      go_wp2_with fail
      refine (wordsRunes _ _ ht).mono ?_
      rintro e w2 ⟨v2, rfl, hr2, hb2⟩
      obtain ⟨at_, ct, rfl, rdt⟩ := hr2.rd
      obtain ⟨nt, hnt⟩ : ∃ m, Hid (m = (rs t).length) := ⟨_, rfl⟩
      rw [← hnt.out] at rdt lt ⊢
      have hbw2 := hbw.trans (hb2.mono hbw.size)
      have hmap2 : w2.ownsMap Try.prog 21 (plainElem Try.prog 3) w.heap.size n D := by
        obtain ⟨es, clock, hb, F, hs, hD⟩ := hmap
        exact ⟨es, clock, (hb2.block _ hmlt).trans hb, F, hs, hD⟩
      have hmlt2 := hmap2.lt
      clear hr2 hb2 hmap hbw
      go_wp2
      go_loopw [14] (fun v wx => ∃ (pos n : Nat), Row wx w2.heap.size 21 .i32 v (trI ((rs s).take n) (rs f) (rs t)) ∧ wx.heap[w2.heap.size]? = some (.stringIter s pos) ∧ Below w2.heap.size w2 wx ∧ Hid ((rs s).drop n = rsAt s pos) ∧ n ≤ pos ∧ n ≤ s.size) (fun _ wx => s.size - wx.iterPos w2.heap.size)
      case atStart => exact ⟨0, 0, World.ownsRow_nil _ _ _ _, World.iter_heap w2 s 0, (Below.refl _ _).alloc (Nat.le_refl _) _, rfl, by omega, by omega⟩
      case round =>
        obtain ⟨pos, k, hrow, hit, hb, HD, hlen, hks⟩ := hrel
        have hpos0 := iterPos_of hit
        by_cases hp : pos < s.size
        · obtain ⟨W1, hnx, hw1⟩ := next_some (P := Try.prog) hit hp
          have hwd := Lib.decode_width_pos s pos hp
          obtain ⟨r, hr⟩ : ∃ r : Int, r = ((Utf8.decode s pos).1 : Int) := ⟨_, rfl⟩
          have hst := rs_step hp HD.out
          rw [← hr] at hnx hst
          have hrr : 0 ≤ r ∧ r ≤ 1114111 := by have := decode_nonneg_lt s pos; omega
          obtain ⟨hnl, hgr, hdr⟩ := hst
          have HD2 := Lib.hid hdr
          have HG := Lib.hid hgr
          have HT := Lib.hid (show trI ((rs s).take (k + 1)) (rs f) (rs t) = trI ((rs s).take k) (rs f) (rs t) ++ tr1 (rs f) (rs t) r by rw [take_snoc hnl, HG.out, trI_snoc])
          have hlen2 : (trI ((rs s).take k) (rs f) (rs t)).length ≤ k := by have := trI_length (rs f) (rs t) ((rs s).take k); simp at this; omega
          have hb1 := hw1.below _ _ hb (Nat.le_refl _)
          have hrow1 : Row W1 w2.heap.size 21 .i32 _ _ := hw1.owns _ _ _ _ _ _ hrow
          have hmap1 : W1.ownsMap Try.prog 21 (plainElem Try.prog 3) w.heap.size n D := by
            obtain ⟨es, clock, hbb, F, hs, hD⟩ := hmap2
            exact ⟨es, clock, (hb1.block _ hmlt2).trans hbb, F, hs, hD⟩
          have hit2 := hw1.it
          have hsz1 := hb1.size
          clear hr hgr hdr hit hb HD hrow
          obtain ⟨o, ho⟩ : ∃ o, o = trI ((rs s).take k) (rs f) (rs t) := ⟨_, rfl⟩
          rw [← ho] at HT hlen2 hrow1
          clear ho
          by_cases hin : r ∈ rs f
          · have hh : Maps.has D (.int .i32 r) = true := by rw [(HM2.out.2 r).1]; simpa using hin
            have hix := (HM2.out.2 r).2 hin (.lit (.int .i64 0))
            obtain ⟨x, hx⟩ : ∃ x, Hid (x = (rs f).idxOf r) := ⟨_, rfl⟩
            rw [← hx.out] at hix
            by_cases hxl : x < nt
            · have hxl' : (x : Int) < (nt : Int) := by omega
              have HT2 := Lib.hid (HT.out.trans (by rw [tr1_in hin (by rw [← hx.out, ← hnt.out]; exact hxl), ← hx.out]))
              obtain ⟨bt, ot, rfl, hbt, hct⟩ := (rdt.below hb1).cell 0 (by omega)
              have hc := hct x hxl
              clear hin hct HT
              have HIX := Lib.hid hix
              clear hix
              go_wp2_with (first
                | (at_lookup; refine wpList_lookup_own_ok_int _ rfl _ _ 71 rfl 21 3 .i64 keyLaw Try.underlying71 Try.underlying3 (zeroInt _) w.heap.size n D rfl hmap1 _ _ rfl (keyOf_int_mk Try.underlying21 (rune_wf hrr.1 hrr.2)) ?_; intro c hatc hwc; obtain rfl : c = (x : Int) := by (have e1 := hatc.symm.trans HIX.out; simpa using e1)
                   clear hatc hwc)
                | (at_builtin; refine append1 _ rfl _ _ 33 rfl w2.heap.size 21 .i32 4 info_rune Try.underlying33 _ _ rfl hrow1 _ rfl (by omega) (by decide) (by omega) ?_; intro v' w3 hown' hgrow3))
              have hit3 := iter_grown hrow1 hgrow3 hit2
              have hb3 := hb1.grown hgrow3 hsz1 (fun j hj => (hrow1.lt _ hj).1)
              go_roundw
              case rel => exact ⟨_, k + 1, by rw [HT2.out]; exact hown', hit3, hb3, HD2, by omega, by omega⟩
              case measure => rw [iterPos_of hit3, hpos0]; omega
            · have hxl' : ¬ (x : Int) < (nt : Int) := by omega
              have HT2 := Lib.hid (HT.out.trans (by rw [tr1_gone hin (by rw [← hx.out, ← hnt.out]; exact hxl), List.append_nil]))
              clear hin HT
              have HIX := Lib.hid hix
              clear hix
              go_wp2_with (at_lookup; refine wpList_lookup_own_ok_int _ rfl _ _ 71 rfl 21 3 .i64 keyLaw Try.underlying71 Try.underlying3 (zeroInt _) w.heap.size n D rfl hmap1 _ _ rfl (keyOf_int_mk Try.underlying21 (rune_wf hrr.1 hrr.2)) ?_; intro c hatc hwc; (obtain rfl : c = (x : Int) := by (have e1 := hatc.symm.trans HIX.out; simpa using e1)); clear hatc hwc)
              go_roundw
              case rel => exact ⟨_, k + 1, by rw [HT2.out]; exact hrow1, hit2, hb1, HD2, by omega, by omega⟩
              case measure => rw [iterPos_of hit2, hpos0]; omega
          · have hh : Maps.has D (.int .i32 r) = false := by rw [(HM2.out.2 r).1]; simpa using hin
            have HT2 := Lib.hid (HT.out.trans (by rw [tr1_out hin]))
            clear hin HT
            go_wp2_with (first
              | (at_lookup; refine wpList_lookup_own_ok_int _ rfl _ _ 71 rfl 21 3 .i64 keyLaw Try.underlying71 Try.underlying3 (zeroInt _) w.heap.size n D rfl hmap1 _ _ rfl (keyOf_int_mk Try.underlying21 (rune_wf hrr.1 hrr.2)) ?_; intro c hatc hwc; clear hatc hwc)
              | (at_builtin; refine append1 _ rfl _ _ 33 rfl w2.heap.size 21 .i32 4 info_rune Try.underlying33 _ _ rfl hrow1 _ rfl (by omega) (by decide) (by omega) ?_; intro v' w3 hown' hgrow3))
            have hit3 := iter_grown hrow1 hgrow3 hit2
            have hb3 := hb1.grown hgrow3 hsz1 (fun j hj => (hrow1.lt _ hj).1)
            go_roundw
            case rel => exact ⟨_, k + 1, by rw [HT2.out]; exact hown', hit3, hb3, HD2, by omega, by omega⟩
            case measure => rw [iterPos_of hit3, hpos0]; omega
        · have hnx : ∀ ty, (Instr.next (.pointer (some ⟨w2.heap.size, 0, none⟩)) true ty).run Try.prog wr = _ := fun ty => Lib.run_next_end_at wr w2.heap.size s pos ty hit hp
          have hstop := rs_stop hp HD.out
          have HF := Lib.hid (show trI ((rs s).take k) (rs f) (rs t) = trI (rs s) (rs f) (rs t) by rw [List.take_of_length_le hstop])
          obtain ⟨ao, co, rfl, rdo⟩ := hrow.rd
          obtain ⟨no, hno⟩ : ∃ m, Hid (m = (trI ((rs s).take k) (rs f) (rs t)).length) := ⟨_, rfl⟩
          rw [← hno.out] at rdo ⊢
          have hcv := rdo.conv (P := Try.prog) (src := 33) (dst := 9) (e := 21) rfl rfl rfl
          rw [HF.out] at hcv
          clear hstop hrow
          go_wp2
          go_ret
          exact ⟨rfl, hbw2.trans (hb.mono hbw2.size)⟩

/-- the last places, from m on, have been looked through for r: at is the first of them where it stands, or -1 -/
def Sought (f : List Int) (r : Int) (m : Nat) (at' : Int) : Prop :=
  (at' = -1 ∧ ∀ j, m ≤ j → j < f.length → gt f j ≠ r) ∨ ∃ p : Nat, at' = p ∧ m ≤ p ∧ p < f.length ∧ gt f p = r ∧ ∀ j, m ≤ j → j < p → gt f j ≠ r

set_option maxHeartbeats 2000000 in
theorem refTranslate (s f t : ByteArray) (w : World) (hs : s.size < 1099511627776) (hf : f.size < 1099511627776) (ht : t.size ≤ 1099511627776) :
    Calls Try.prog 23 #[.string s, .string f, .string t] w fun e w' => e = .returned (.string (runesBytes (trI (rs s) (rs f) (rs t)))) ∧ Below w.heap.size w w' := by
  have lf := rs_length f
  have lt := rs_length t
  have ls := rs_length s
  obtain ⟨nf, hnf⟩ : ∃ m, Hid (m = (rs f).length) := ⟨_, rfl⟩
  obtain ⟨nt, hnt⟩ : ∃ m, Hid (m = (rs t).length) := ⟨_, rfl⟩
  rw [← hnf.out] at lf
  rw [← hnt.out] at lt
  go_enter Try.func23, Try.ntmps23
  go_wp2_with fail
  refine (refRunes _ _ (by omega)).mono ?_
  rintro e w1 ⟨v1, rfl, hr1, hb1⟩
  obtain ⟨a1, c1, rfl, rd1⟩ := hr1.rd
  rw [← hnf.out] at rd1 ⊢
  clear hr1
  go_wp2_with fail
  refine (refRunes _ _ ht).mono ?_
  rintro e w2 ⟨v2, rfl, hr2, hb2⟩
  obtain ⟨a2, c2, rfl, rdt⟩ := hr2.rd
  rw [← hnt.out] at rdt ⊢
  have rdf := rd1.below hb2
  have hbw := hb1.trans (hb2.mono hb1.size)
  clear hr2 rd1 hb1 hb2
  go_wp2
  go_loopw [9] (fun v wr => ∃ (pos k : Nat), Row wr w2.heap.size 21 .i32 v (trI ((rs s).take k) (rs f) (rs t)) ∧ wr.heap[w2.heap.size]? = some (.stringIter s pos) ∧ Below w2.heap.size w2 wr ∧ Hid ((rs s).drop k = rsAt s pos) ∧ k ≤ pos ∧ k ≤ s.size) (fun _ wr => s.size - wr.iterPos w2.heap.size)
  case atStart => exact ⟨0, 0, World.ownsRow_nil _ _ _ _, World.iter_heap w2 s 0, (Below.refl _ _).alloc (Nat.le_refl _) _, rfl, by omega, by omega⟩
  case round =>
    obtain ⟨pos, k, hrow, hit, hb, HD, hlen, hks⟩ := hrel
    have hpos0 := iterPos_of hit
    by_cases hp : pos < s.size
    · obtain ⟨W1, hnx, hw1⟩ := next_some (P := Try.prog) hit hp
      have hwd := Lib.decode_width_pos s pos hp
      obtain ⟨r, hr⟩ : ∃ r : Int, r = ((Utf8.decode s pos).1 : Int) := ⟨_, rfl⟩
      have hst := rs_step hp HD.out
      rw [← hr] at hnx hst
      obtain ⟨hnl, hgr, hdr⟩ := hst
      have HD2 := Lib.hid hdr
      have HG := Lib.hid hgr
      have HT := Lib.hid (show trI ((rs s).take (k + 1)) (rs f) (rs t) = trI ((rs s).take k) (rs f) (rs t) ++ tr1 (rs f) (rs t) r by rw [take_snoc hnl, HG.out, trI_snoc])
      have hlen2 : (trI ((rs s).take k) (rs f) (rs t)).length ≤ k := by have := trI_length (rs f) (rs t) ((rs s).take k); simp at this; omega
      have hb1 := hw1.below _ _ hb (Nat.le_refl _)
      have hrow1 : Row W1 w2.heap.size 21 .i32 _ _ := hw1.owns _ _ _ _ _ _ hrow
      have hit2 := hw1.it
      have hsz1 := hb1.size
      clear hr hgr hdr hit hb HD hrow
      obtain ⟨o, ho⟩ : ∃ o, o = trI ((rs s).take k) (rs f) (rs t) := ⟨_, rfl⟩
      rw [← ho] at HT hlen2 hrow1
      clear ho
      have rdf1 := rdf.below hb1
      have rdt1 := rdt.below hb1
      go_wp2
      go_loop [12, 13] (fun vat vi => ∃ (m : Nat) (p : Int), vat = .int .i64 p ∧ vi = .int .i64 ((m : Int) - 1) ∧ m ≤ nf ∧ Hid (Sought (rs f) r m p)) (fun _ vi => (intOf vi + 1).toNat)
      case atStart => exact ⟨nf, -1, rfl, rfl, by omega, .inl ⟨rfl, fun j h1 h2 => by rw [← hnf.out] at h2; omega⟩⟩
      case round =>
        obtain ⟨m, p, rfl, rfl, hm, HS⟩ := hrel
        by_cases hm0 : 0 < m
        · obtain ⟨m, rfl⟩ : ∃ m', m = m' + 1 := ⟨m - 1, by omega⟩
          have e1 : ((m + 1 : Nat) : Int) - 1 = (m : Int) := by omega
          rw [e1]
          clear e1
          obtain ⟨bf, of, rfl, hbf, hcf⟩ := rdf1.cell 0 (by omega)
          have hc := hcf m (by omega)
          have hmi : (0 : Int) ≤ (m : Int) := by omega
          clear hcf
          by_cases he : gt (rs f) m = r
          · have he1 : (gt (rs f) m == r) = true := by simpa using he
            have HS2 : Hid (Sought (rs f) r m (m : Int)) := .inr ⟨m, rfl, Nat.le_refl _, by rw [← hnf.out]; omega, he, fun j h1 h2 => by omega⟩
            clear he
            go_wp2
            go_round
            case rel => exact ⟨m, m, rfl, rfl, by omega, HS2⟩
            case measure => simp [intOf]
          · have he1 : (gt (rs f) m == r) = false := by simpa using he
            have HS2 : Hid (Sought (rs f) r m p) := by
              rcases HS.out with ⟨h1, h2⟩ | ⟨q, h1, h2, h3, h4, h5⟩
              · exact .inl ⟨h1, fun j a b => by
                  by_cases hj : j = m
                  · subst hj; exact he
                  · exact h2 j (by omega) b⟩
              · exact .inr ⟨q, h1, by omega, h3, h4, fun j a b => by
                  by_cases hj : j = m
                  · subst hj; exact he
                  · exact h5 j (by omega) b⟩
            clear he
            go_wp2
            go_round
            case rel => exact ⟨m, p, rfl, rfl, by omega, HS2⟩
            case measure => simp [intOf]
        · obtain rfl : m = 0 := by omega
          have hneg : ¬ (0 : Int) ≤ ((0 : Nat) : Int) - 1 := by omega
          rcases HS.out with ⟨rfl, h2⟩ | ⟨q, rfl, h2, h3, h4, h5⟩
          · have HT2 := Lib.hid (HT.out.trans (by rw [tr1_out (not_mem fun j hj => h2 j (by omega) hj)]))
            clear h2 HT HS
            go_wp2_with (at_builtin; refine append1 _ rfl _ _ 33 rfl w2.heap.size 21 .i32 4 info_rune Try.underlying33 _ _ rfl hrow1 _ rfl (by omega) (by decide) (by omega) ?_; intro v' w3 hown' hgrow3)
            have hit3 := iter_grown hrow1 hgrow3 hit2
            have hb3 := hb1.grown hgrow3 hsz1 (fun j hj => (hrow1.lt _ hj).1)
            go_roundw
            case rel => exact ⟨_, k + 1, by rw [HT2.out]; exact hown', hit3, hb3, HD2, by omega, by omega⟩
            case measure => rw [iterPos_of hit3, hpos0]; omega
          · have hidx := idxOf_eq h3 h4 (fun j hj => h5 j (by omega) hj)
            have hin : r ∈ rs f := by rw [← h4]; exact gt_mem h3
            have hq0 : ¬ (q : Int) < 0 := by omega
            by_cases hqt : q < nt
            · have HT2 := Lib.hid (HT.out.trans (by rw [tr1_in hin (by rw [hidx, ← hnt.out]; exact hqt), hidx]))
              obtain ⟨bt, ot, rfl, hbt, hct⟩ := rdt1.cell 0 (by omega)
              have hc := hct q hqt
              have hqt' : (q : Int) < (nt : Int) := by omega
              clear h5 hidx h4 hct HT HS hin
              go_wp2_with (at_builtin; refine append1 _ rfl _ _ 33 rfl w2.heap.size 21 .i32 4 info_rune Try.underlying33 _ _ rfl hrow1 _ rfl (by omega) (by decide) (by omega) ?_; intro v' w3 hown' hgrow3)
              have hit3 := iter_grown hrow1 hgrow3 hit2
              have hb3 := hb1.grown hgrow3 hsz1 (fun j hj => (hrow1.lt _ hj).1)
              go_roundw
              case rel => exact ⟨_, k + 1, by rw [HT2.out]; exact hown', hit3, hb3, HD2, by omega, by omega⟩
              case measure => rw [iterPos_of hit3, hpos0]; omega
            · have HT2 := Lib.hid (HT.out.trans (by rw [tr1_gone hin (by rw [hidx, ← hnt.out]; exact hqt), List.append_nil]))
              have hqt' : ¬ (q : Int) < (nt : Int) := by omega
              clear h5 hidx h4 HT HS hin
              go_wp2
              go_roundw
              case rel => exact ⟨_, k + 1, by rw [HT2.out]; exact hrow1, hit2, hb1, HD2, by omega, by omega⟩
              case measure => rw [iterPos_of hit2, hpos0]; omega
    · have hnx : ∀ ty, (Instr.next (.pointer (some ⟨w2.heap.size, 0, none⟩)) true ty).run Try.prog wr = _ := fun ty => Lib.run_next_end_at wr w2.heap.size s pos ty hit hp
      have hstop := rs_stop hp HD.out
      have HF := Lib.hid (show trI ((rs s).take k) (rs f) (rs t) = trI (rs s) (rs f) (rs t) by rw [List.take_of_length_le hstop])
      rw [HF.out] at hrow
      clear hstop
      go_wp2_with fail
      refine (text _ _ _ _ hrow).mono ?_
      rintro e w3 ⟨rfl, rfl⟩
      go_wp2
      go_ret
      exact ⟨rfl, hbw.trans (hb.mono hbw.size)⟩
end Go.Proofs.Ythangmacjiobhaa
