/- The walk of gimletlaw04.FeedEager: it answers true. -/
import Derived.Test.YtpkdbfnnbbkkiaaDoorFeedEagerLaw
import Derived.Test.YtpkdbfnnbbkkiaaDoorFeedCutsWalk
namespace Go.Proofs.YtpkdbfnnbbkkiaaDoor
open Go.RowKit Gim
theorem rd_zero (w : World) (k : IntKind) (g o c : Nat) (hc : c ≤ maxLen) : Rd w k (some ⟨g, o, none⟩) 0 c [] := ⟨rfl, Nat.zero_le _, hc, fun j hj => by omega⟩
theorem place_byte (w : World) (a b c d : Int) : Sem.run Tryd.prog (Instr.field 27 (.agg #[.int .i64 a, .int .i64 b, .int .i64 c, .int .i64 d]) 0) w = .ok (.int .i64 a) w := by kernel_rfl
set_option maxRecDepth 100000 in
set_option maxHeartbeats 4000000 in
theorem eager_calls (w : World) (ao : Option Addr) (n cap : Nat) (b : List Int) (h : Rd w .u8 ao n cap b) (hby : ∀ x ∈ b, 0 ≤ x ∧ x ≤ 255) (hn : n ≤ 274877906944) (hT : U8 w) :
    Calls Tryd.prog 5 #[.slice ao n cap] w fun e w' => e = .returned (.bool true) ∧ Below w.heap.size w w' := by
  have HL := Lib.hid h.len
  have hcl := h.cap_le
  have hle := h.le
  have hA := feed_awake w hT
  go_enter Tryd.func5, Tryd.ntmps5
  go_wp2_with fail
  refine hA.mono ?_
  rintro e w0 ⟨rfl, b0⟩
  clear hA
  go_wp2_with fail
  refine (feedNew _).mono ?_
  rintro E w1 ⟨rfl, m1, b1⟩
  have b01 := b0.trans (b1.mono b0.size)
  obtain ⟨F, hF⟩ : ∃ F, Hid (F = w0.heap.size) := ⟨_, rfl⟩
  have hFz : w.heap.size ≤ F := by rw [hF.out]; exact b0.size
  rw [← hF.out] at m1 ⊢
  clear b1 b0
  go_wp2_with fail
  go_loopw [4, 5] (fun v4 v5 wr => ∃ (t i : Nat) (pl : Pl) (v' : Value), v4 = .int .i64 t ∧ v5 = .int .i64 i ∧ t ≤ i ∧ i ≤ n ∧ pl.1 = t ∧ Fm wr F F v' ((b.drop t).take (i - t)) pl false ∧ Below w.heap.size w wr ∧ Pok pl (n - t)) (fun _ u5 wr => n - (intOf u5).toNat)
  case atStart => exact ⟨0, 0, (0, 0, 1, 1), _, rfl, rfl, Nat.le_refl _, Nat.zero_le _, rfl, m1, b01, by unfold Pok; simp; omega⟩
  case round =>
    obtain ⟨t, i, pl, v', rfl, rfl, hti, hi, hpl, hf, hb, hq⟩ := hrel
    by_cases hin : i < n
    · have hin' : (i : Int) < n := by omega
      have hb1 := hb.size
      obtain ⟨g, o, rfl, hg, hcell⟩ := (h.below hb).cell i hin
      have rd1 := Rd.mid (h.below hb) (p := i) (m := 1) (by omega) (by omega)
      have h1 : (b.drop i).take 1 = [gt b i] := by
        rw [show (1 : Nat) = 0 + 1 from rfl, List.take_add_one]
        have hl := HL.out
        simp [gt, show i < b.length by omega]
      rw [h1] at rd1
      obtain ⟨hs1, hs2, hs3, hs4⟩ := eager_step (b := b) (t := t) (i := i) (pl := pl) hti (by rw [HL.out]; exact hin) hpl
      have hxl : ((b.drop t).take (i - t) ++ [gt b i]).length = i + 1 - t := by rw [take_next hti (by rw [HL.out]; exact hin), List.length_take, List.length_drop]; have := HL.out; omega
      have rd1' : Rd wr .u8 (some ⟨g, o + i, none⟩) 1 1 [gt b i] := ⟨rfl, Nat.le_refl _, by unfold maxLen; omega, rd1.cell⟩
      have hbz : 0 ≤ gt b i ∧ gt b i ≤ 255 := gt_all rfl hby i (by rw [HL.out]; exact hin)
      have hC := push_calls wr F F v' _ pl hf (some ⟨g, o + i, none⟩) 1 1 [gt b i] rd1' (fun x hx => by rw [List.mem_singleton.1 hx]; exact hbz) (fun hh => by cases hh) (by rw [List.length_take]; omega)
      have HC := Lib.hid hC
      have HF3 := Lib.hid hf.own.lt
      have HS2 := Lib.hid hs2
      have HS3 := Lib.hid hs3
      have HS4 := Lib.hid hs4
      have hDl := drain_len false _ ((b.drop t).take (i - t) ++ [gt b i]) pl (Nat.le_refl _)
      have hDe := drainB_end false _ ((b.drop t).take (i - t) ++ [gt b i]) pl (Nat.le_refl _)
      have hDp := Pok.drain (e := false) (k := n - (i + 1)) _ ((b.drop t).take (i - t) ++ [gt b i]) pl (Nat.le_refl _) (hq.mono (by rw [hxl]; omega))
      rw [hxl] at hDl
      clear hC rd1 rd1' h1 hf hcell hs2 hs3 hs4
      go_wp2_with fail
      refine HC.out.mono ?_
      rintro E w4 ⟨rfl, v4, hm4, hf4, _⟩
      clear HC
      have hF3 := HF3.out
      have hbw4 : Below w.heap.size w w4 := hb.trans (hf4.below hb1 (fun j e => e.elim (fun e => by omega) (fun e => by have := (hF3 _ e).1; omega)))
      have hT4 : U8B w4 F := ⟨w, hT, hbw4, hFz⟩
      have hD4 := drain_calls w4 F F v4 _ pl false hm4 hT4 (hq.mono (by rw [hxl]; omega)) (n + 1) (by rw [hxl]; omega) (by omega)
      rw [show ((n + 1 : Nat) : Int) = (n : Int) + 1 from by omega] at hD4
      unfold Drained at hD4
      have hs2 := HS2.out
      have hs3 := HS3.out
      have hs4 := HS4.out
      obtain ⟨X, hX⟩ : ∃ X, Hid (X = drainB ((b.drop t).take (i - t) ++ [gt b i]) pl false) := ⟨_, rfl⟩
      rw [← hX.out] at hD4 hs1 hs2 hs3 hs4 hDl hDe hDp
      obtain ⟨dn, rs, p2⟩ := X
      simp only [] at hD4 hs1 hs2 hs3 hs4 hDl hDe hDp
      obtain ⟨s, hs⟩ : ∃ s, Hid (s = wsum dn) := ⟨_, rfl⟩
      rw [← hs.out] at hs1 hs2 hs3
      have hDh := peek_how rs p2 false
      obtain ⟨pk, hpk⟩ : ∃ pk, Hid (pk = peekB rs p2 false) := ⟨_, rfl⟩
      rw [← hpk.out] at hD4 hDh
      obtain ⟨⟨c0, ⟨c1, c2, c3, c4⟩, c5⟩, fh⟩ := pk
      simp only [] at hD4 hDh
      unfold charV at hD4
      have HD4 := Lib.hid hD4
      have HS2 := Lib.hid hs2
      have HS3 := Lib.hid hs3
      have HS4 := Lib.hid hs4
      have HDe := Lib.hid hDe
      have HDp := Lib.hid hDp
      have HDh := Lib.hid hDh
      clear hD4 hs2 hs3 hs4 hDe hDp hDh HF3 hF3
      go_wp2_with fail
      refine HD4.out.mono ?_
      rintro E w5 ⟨vs, rfl, hrow5, v5, hm5, hfr5, _⟩
      clear HD4
      have hbw5 : Below w.heap.size w w5 := hbw4.trans (hfr5.below hbw4.size (fun j e => by have e : j = F := e; omega))
      have b6 := (Below.refl w5.heap.size w5).alloc (Nat.le_refl _) (Obj.cells #[.int .i32 c0, .int .i64 c1, .int .i64 c2, .int .i64 c3, .int .i64 c4, .int .i64 c5] 32)
      have hm6 := hm5.fresh b6
      have hbw6 := hbw5.trans (b6.mono hbw5.size)
      obtain ⟨ao5, cap5, rfl, rd5, _⟩ := Row6.rd (hrow5.stays b6)
      clear hrow5 hm5 hm4 hf4 hfr5 hbw5 hbw4 hT4
      go_upto_region 11 with fail
      generalize w5.alloc (Obj.cells #[.int .i32 c0, .int .i64 c1, .int .i64 c2, .int .i64 c3, .int .i64 c4, .int .i64 c5] 32) = W6 at b6 hm6 hbw6 rd5 ⊢
      generalize w5.heap.size = C at b6 ⊢
      generalize w4.heap.size = B4 at rd5
      obtain ⟨L, hL⟩ : ∃ L, Hid (L = dn.length) := ⟨_, rfl⟩
      rw [← hL.out] at rd5 hDl ⊢
      go_wp2_with fail
      go_loopw [4, 9] (fun v4 v9 wx => ∃ k : Nat, v9 = .int .i64 k ∧ k ≤ L ∧ v4 = .int .i64 ((t + wsum (dn.take k) : Nat) : Int) ∧ wx = W6) (fun _ u9 wr => L - (intOf u9).toNat)
      case atStart => exact ⟨0, rfl, Nat.zero_le _, by simp [wsum], rfl⟩
      case round =>
        obtain ⟨k, rfl, hk, rfl, rfl⟩ := hrel
        by_cases hkl : k < L
        · have hkl' : (k : Int) < L := by omega
          obtain ⟨g5, c, rfl, hc5, l0, l1, l2, l3, l4, l5⟩ := rd5.get hkl
          have hwt := wsum_take dn k c hc5
          have hwl := wsum_le dn (k + 1)
          have hc0 := HS4.out c (List.mem_of_getElem? hc5)
          rw [← hs.out] at hwl
          obtain ⟨d0, ⟨d1, d2, d3, d4⟩, d5⟩ := c
          simp only [] at hwt hc0 l5
          obtain ⟨d5, rfl⟩ : ∃ m : Nat, d5 = m := ⟨d5.toNat, by omega⟩
          rw [Int.toNat_natCast] at hwt
          have hov : t + wsum (dn.take k) + d5 ≤ i + 1 := by omega
          have HWT := Lib.hid hwt
          clear l0 l1 l2 l3 l4 hwt hwl
          obtain ⟨sk, hsk⟩ : ∃ sk, Hid (sk = wsum (dn.take k)) := ⟨_, rfl⟩
          rw [← hsk.out] at hov HWT ⊢
          have hov2 : (t : Int) + sk + d5 ≤ i + 1 := by omega
          go_wp2_with fail
          go_roundw
          case rel => exact ⟨k + 1, by go_num, hkl, by rw [HWT.out]; go_num, (by first | trivial | rfl)⟩
          case measure => simp [RowKit.intOf]; omega
        · have hkl' : ¬ (k : Int) < L := by omega
          obtain rfl : k = L := by omega
          have hwd : wsum (dn.take k) = s := by rw [hL.out, List.take_length, hs.out]
          rw [hwd]
          clear hwd
          have hrl : rs.length = i + 1 - (t + s) := by rw [HS2.out, List.length_take, List.length_drop]; have := HL.out; omega
          have hby2 := hm6.by_
          by_cases h2 : fh = 2
          · have hf2 := h2
            have hre : restB rs p2 false = [] := by
              have hx : (firstB rs false).2.2 = 2 := by rw [← HDh.out, h2]
              unfold restB
              rw [drainB_stop (by rw [hx]; decide)]
              show (if (firstB rs false).2.2 = 1 then rs else []) = []
              rw [if_neg (by rw [hx]; decide)]
            have hne := bad_ne (xs := rs) (e := false) (by rw [← HDh.out, h2])
            have hR := rest_calls _ F F v5 rs p2 false hm6 (hT.below hbw6) (by omega)
            rw [hre] at hR
            have HR := Lib.hid hR
            subst h2
            clear hR hre hf2
            go_wp2_with fail
            refine HR.out.mono ?_
            rintro E w7 ⟨v7, rfl, hrow7, b7⟩
            clear HR
            obtain ⟨a7, c7, rfl, _, _⟩ := Row.rd2 hrow7
            have hP := place_feed w7 F F v5 rs p2 false (hm6.fresh b7)
            rw [HS3.out] at hP
            have HP := Lib.hid hP
            have hts : t + s ≤ i := by omega
            have hts2 : (t : Int) + s ≤ i := by omega
            have hbw7 := hbw6.trans (b7.mono hbw6.size)
            clear hP hrow7 b7
            go_wp2_with fail
            refine HP.out.mono ?_
            rintro E w8 ⟨rfl, b8⟩
            clear HP
            have hfld := place_byte
            go_wp2_with fail
            go_ret
            exact ⟨by simp, hbw7.trans (b8.mono hbw7.size)⟩
          · have h1 : fh = 1 := by
              have hr := first_range rs false
              have ho := first_open rs
              have he := HDe.out
              rw [← HDh.out] at hr ho he
              omega
            have hre : restB rs p2 false = rs := by
              have hx : (firstB rs false).2.2 = 1 := by rw [← HDh.out, h1]
              unfold restB
              rw [drainB_stop (by rw [hx]; decide)]
              show (if (firstB rs false).2.2 = 1 then rs else []) = rs
              rw [if_pos hx]
            have hwl := wait_law (xs := rs) (by rw [← HDh.out, h1])
            have hR := rest_calls _ F F v5 rs p2 false hm6 (hT.below hbw6) (by omega)
            rw [hre] at hR
            have HR := Lib.hid hR
            have HWL := Lib.hid hwl.2
            have hrs3 := hwl.1
            subst h1
            clear hR hre hwl h2
            go_wp2_with fail
            refine HR.out.mono ?_
            rintro E w7 ⟨v7, rfl, hrow7, b7⟩
            clear HR
            obtain ⟨a7, c7, rfl, rd7, hn7⟩ := Row.rd2 hrow7
            have hbw7 := hbw6.trans (b7.mono hbw6.size)
            have hm7 := hm6.fresh b7
            clear hrow7 b7
            rw [hrl] at rd7 hn7 hrs3 ⊢
            rcases Nat.lt_or_ge (t + s) cap with hlt | hge
            · have rdm := Rd.mid (h.below hbw7) (p := t + s) (m := i + 1 - (t + s)) (by omega) hlt
              rw [← HS2.out] at rdm
              have hcne : ¬ cap = t + s := by omega
              go_wp2_with fail
              refine (same4_calls _ _ _ _ _ rd7 _ _ rdm (by omega)).mono ?_
              rintro E w8 ⟨rfl, hd8⟩
              have b8 := hd8.below w7.heap.size
              have hm8 := hm7.fresh b8
              have hbw8 := hbw7.trans (b8.mono hbw7.size)
              have hP := place_feed w8 F F v5 rs p2 false hm8
              rw [HS3.out] at hP
              have HP := Lib.hid hP
              clear hP
              go_wp2_with fail
              refine HP.out.mono ?_
              rintro E w9 ⟨rfl, b9⟩
              clear HP
              have hm9 := hm8.fresh b9
              have hbw9 := hbw8.trans (b9.mono hbw8.size)
              have hfld := place_byte
              by_cases hm0 : i + 1 ≤ t + s
              · have hm1 : i + 1 - (t + s) = 0 := by omega
                rw [hm1]
                clear hm1
                go_wp2_with fail
                go_roundw
                case rel => exact ⟨t + s, i + 1, p2, v5, by go_num, by go_num, by omega, hin, HS3.out, by rw [← HS2.out]; exact hm9, hbw9, by have := HDp.out; exact this.mono (by omega)⟩
                case measure => simp [RowKit.intOf]; omega
              · have hm1 : (0 : Int) < ((i + 1 - (t + s) : Nat) : Int) := by omega
                have hlen : t + s < n := by omega
                have hlen' : (t : Int) + s < n := by omega
                obtain ⟨g', o', he, _, hcell⟩ := (h.below hbw9).cell (t + s) hlen
                injection he with he
                injection he with he1 he2
                subst he1
                subst he2
                have hc0 := hcell (t + s) hlen
                have hz0 : gt rs 0 = gt b (t + s) := by
                  rw [HS2.out]
                  have := HL.out
                  simp [gt, show 0 < i + 1 - (t + s) by omega]
                obtain ⟨z, hz⟩ : ∃ z, Hid (z = gt b (t + s)) := ⟨_, rfl⟩
                rw [← hz.out] at hc0 hz0
                have HZ0 := Lib.hid hz0
                clear hcell hz0
                by_cases h13 : z = 13
                · subst h13
                  go_wp2_with fail
                  go_roundw
                  case rel => exact ⟨t + s, i + 1, p2, v5, by go_num, by go_num, by omega, hin, HS3.out, by rw [← HS2.out]; exact hm9, hbw9, by have := HDp.out; exact this.mono (by omega)⟩
                  case measure => simp [RowKit.intOf]; omega
                · have hzb : (z == 13) = false := beq_eq_false_iff_ne.2 h13
                  have hzb2 : (z != 13) = true := by simp [bne, hzb]
                  have hw1 := HWL.out (by rw [hrl]; omega) (by rw [HZ0.out]; exact h13)
                  have hN := next_calls 0 w9 a7 (i + 1 - (t + s)) c7 rs ⟨(rd7.below b8).below b9, gt_all rd7.len hm6.by_⟩ (hT.below hbw9) (by omega)
                  rw [hw1] at hN
                  have HN := Lib.hid hN
                  clear hN hw1
                  go_wp2_with fail
                  refine HN.out.mono ?_
                  rintro E wa ⟨rfl, ba⟩
                  clear HN
                  have hma := hm9.fresh ba
                  have hbwa := hbw9.trans (ba.mono hbw9.size)
                  go_wp2_with fail
                  go_roundw
                  case rel => exact ⟨t + s, i + 1, p2, v5, by go_num, by go_num, by omega, hin, HS3.out, by rw [← HS2.out]; exact hma, hbwa, by have := HDp.out; exact this.mono (by omega)⟩
                  case measure => simp [RowKit.intOf]; omega
            · have hrz : rs = [] := List.eq_nil_of_length_eq_zero (by omega)
              have HRZ := Lib.hid hrz
              have hm1 : i + 1 - (t + s) = 0 := by omega
              rw [hm1, hrz] at rd7
              rw [hm1]
              clear hrz
              go_wp2_with fail
              refine (same4_calls _ _ _ _ _ rd7 _ _ (rd_zero w7 .u8 g o 0 (by omega)) (by omega)).mono ?_
              rintro E w8 ⟨rfl, hd8⟩
              have b8 := hd8.below w7.heap.size
              have hm8 := hm7.fresh b8
              have hbw8 := hbw7.trans (b8.mono hbw7.size)
              have hP := place_feed w8 F F v5 rs p2 false hm8
              rw [HS3.out] at hP
              have HP := Lib.hid hP
              clear hP
              go_wp2_with fail
              refine HP.out.mono ?_
              rintro E w9 ⟨rfl, b9⟩
              clear HP
              have hm9 := hm8.fresh b9
              have hbw9 := hbw8.trans (b9.mono hbw8.size)
              have hfld := place_byte
              go_wp2_with fail
              have hcap : i + 1 = cap := by omega
              rw [hcap]
              clear hcap
              go_roundw
              case rel => exact ⟨t + s, i + 1, p2, v5, by go_num, by go_num, by omega, hin, HS3.out, by rw [← HS2.out]; exact hm9, hbw9, by have := HDp.out; exact this.mono (by omega)⟩
              case measure => simp [RowKit.intOf]; omega
    · have hin' : ¬ (i : Int) < n := by omega
      go_wp2_with fail
      go_ret
      exact ⟨rfl, hb⟩
theorem feedEager_walk (ao : Option Addr) (n cap : Nat) (b : List Int) (w : World) (h : Rd w .u8 ao n cap b) (_ : ao = none → n = 0 ∧ cap = 0) (hwf : ∀ x ∈ b, (Lit.int .u8 x).wf = true) (hn : n ≤ 1048576) (hT : U8 w) :
    Calls Tryd.prog 5 #[.slice ao n cap] w fun e w' => e = .returned (.bool true) ∧ Below w.heap.size w w' :=
  eager_calls w ao n cap b h (fun x hx => wf_u8 (hwf x hx)) (by omega) hT
end Go.Proofs.YtpkdbfnnbbkkiaaDoor
