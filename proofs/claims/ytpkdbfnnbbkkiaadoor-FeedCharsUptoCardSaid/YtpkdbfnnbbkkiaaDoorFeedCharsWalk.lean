/- The walk of gimletlaw04.FeedChars: it answers true. -/
import Derived.Test.YtpkdbfnnbbkkiaaDoorFeedCharsLaw
import Derived.Test.YtpkdbfnnbbkkiaaDoorFeedCutsWalk
import Derived.Test.YtpkdbfnnbbkkiaaDoorConvR
import Derived.Test.YtpkdbfnnbbkkiaaDoorAt2Walk
namespace Gim
open Go Go.Lib
theorem encs_len : ∀ l : List Int, (∀ r ∈ l, Ch r) → (encs l).length ≤ 4 * l.length
  | [], _ => by simp [encs]
  | r :: l, h => by
    have h1 := enc_len (h r List.mem_cons_self)
    have h2 := encs_len l (fun x hx => h x (List.mem_cons_of_mem _ hx))
    rw [encs_cons, List.length_append, List.length_cons]
    omega
theorem peek_done (p : Pl) : peekB [] p true = ((0, (0, 0, 0, 0), 0), 3) := by
  unfold peekB
  rw [show firstB [] true = (0, 0, 3) by decide]
  rfl
theorem dec_here {U : ByteArray} {X m : List Int} {r : Int} (hU : U.data.toList = encs (X ++ r :: m)) (hr : Ch r) : (encs X).length < U.size ∧ Utf8.decode U (encs X).length = (r.toNat, (enc r).length) := by
  have h' : U.data.toList.drop (encs X).length = enc r ++ encs m := by rw [hU, encs_append, List.drop_left, encs_cons]
  have hlen := enc_len hr
  refine ⟨?_, by rw [← Lib.decodeL_drop, h', dec_enc hr]⟩
  have h1 := congrArg List.length hU
  have := Lib.size_eq U
  rw [encs_append, encs_cons] at h1
  simp at h1
  omega
/-- the byte behind a carriage return -/
theorem byte_behind {U : ByteArray} {X m : List Int} {c : Int} (hU : U.data.toList = encs (X ++ 13 :: c :: m)) (hc : Ch c) {p : Nat} (hp : p = (encs X).length) (h : p + 1 < U.size) : (((U[p + 1]'h).toNat : Int) == 10) = decide (c = 10) := by
  subst hp
  obtain ⟨b, t, he, _, _, hb⟩ := enc_head hc
  have h1 : U.data.toList[(encs X).length + 1]? = some b := by
    rw [hU, encs_append, List.getElem?_append_right (by omega), encs_cons, encs_cons, enc13, he]
    simp
  have h2 : U[(encs X).length + 1]'h = b := by
    have h3 : U.data.toList[(encs X).length + 1]? = some (U[(encs X).length + 1]'h) := by
      rw [Array.getElem?_toList]
      exact Array.getElem?_eq_getElem h
    rw [h1] at h3
    exact (Option.some.inj h3).symm
  rw [h2, Bool.eq_iff_iff]
  simp [hb]
theorem size_behind {U : ByteArray} {X m : List Int} (hU : U.data.toList = encs (X ++ 13 :: m)) (hc : ∀ x ∈ m, Ch x) : (m ≠ [] → (encs X).length + 1 < U.size) ∧ (m = [] → U.size = (encs X).length + 1) := by
  have h1 := congrArg List.length hU
  have h0 : U.size = U.data.toList.length := rfl
  rw [encs_append, encs_cons, enc13, List.length_append, List.length_append, ← h0, List.length_singleton] at h1
  refine ⟨fun hm => ?_, fun hm => ?_⟩
  · cases m with
    | nil => exact absurd rfl hm
    | cons c m =>
      have h2 := enc_len (hc c List.mem_cons_self)
      rw [encs_cons, List.length_append] at h1
      omega
  · subst hm
    rw [encs_nil, List.length_nil] at h1
    omega
theorem drop_cons6 {l : List Ch6} {n : Nat} {c : Ch6} {t : List Ch6} (h : l.drop n = c :: t) : n < l.length ∧ l[n]? = some c ∧ l.drop (n + 1) = t := by
  have hl := congrArg List.length h
  simp at hl
  have hn : n < l.length := by omega
  rw [List.drop_eq_getElem_cons hn] at h
  injection h with h1 h2
  exact ⟨hn, by rw [List.getElem?_eq_getElem hn, h1], h2⟩
theorem at_law {l X Y : List Int} (hl : l = X ++ Y) (hc : ∀ x ∈ l, Ch x) : atB (bz (encs l)) ((encs X).length : Int) = (plC X Y, 0) := by
  have hlen : (bz (encs l)).length = (encs X).length + (encs Y).length := by rw [hl, bz_length, encs_append, List.length_append]
  have hp := placeB_encs (xs := bz (encs l)) X Y (by rw [← hl]; exact hc) (by rw [hl])
  unfold atB
  rw [if_neg (by omega), Int.toNat_natCast, hp]
  rfl
theorem at_here {U : ByteArray} {X : List Int} (hU : U.data.toList = encs (X ++ [])) : (encs X).length = U.size := by
  rw [List.append_nil] at hU
  rw [← hU]
  rfl
end Gim
namespace Go.Proofs.YtpkdbfnnbbkkiaaDoor
open Go.RowKit Gim
set_option maxRecDepth 100000 in
set_option maxHeartbeats 4000000 in
theorem chars_calls (s : ByteArray) (w : World) (hs : s.size ≤ 68719476736) (ao2 : Option Addr) (n2 cap2 : Nat) (cs : List Int) (h2 : Rd w .i64 ao2 n2 cap2 cs) (hn2 : n2 ≤ 274877906944) (hT : U8 w) :
    Calls Tryd.prog 7 #[.string s, .slice ao2 n2 cap2] w fun e w' => e = .returned (.bool true) ∧ Below w.heap.size w w' := by
  have hA := feed_awake w hT
  have hlc := rs_ch s
  have hll := rs_length s
  obtain ⟨l, hl⟩ : ∃ l, Hid (l = rs s) := ⟨_, rfl⟩
  rw [← hl.out] at hlc hll
  obtain ⟨U, hU⟩ : ∃ U, Hid (U = runesBytes l) := ⟨_, rfl⟩
  have hUl : U.data.toList = encs l := by rw [hU.out]; exact runesBytes_list l
  have hUz : U.size = (encs l).length := by rw [← hUl]; rfl
  have hel := encs_len l hlc
  have hUs : U.size ≤ 274877906944 := by omega
  have HUL := Lib.hid hUl
  have HUZ := Lib.hid hUz
  have HLC := Lib.hid hlc
  have HT := Lib.hid hT
  have H2 := Lib.hid h2
  clear hUl hUz hlc hll hel h2 hT
  go_enter Tryd.func7, Tryd.ntmps7
  go_wp2_with fail
  refine hA.mono ?_
  rintro e w1 ⟨rfl, b1⟩
  clear hA
  go_wp2_with fail
  refine (mend_calls s w1 (by omega)).mono ?_
  rintro e w2 ⟨rfl, b2⟩
  rw [← hl.out, ← hU.out]
  have b12 := b1.trans (b2.mono b1.size)
  clear b1 b2
  have hcv := run_bytes_of_string (P := Tryd.prog) w2 9 22 5 U Tryd.underlying9 Tryd.underlying22 Tryd.underlying5
  obtain ⟨cap, hcap⟩ : ∃ cap, cap = grownCap w2 U.size 0 5 := ⟨_, rfl⟩
  have hge := grownCap_ge w2 U.size 0 5
  have hle := grownCap_le_maxLen w2 U.size 0 5 (by unfold maxLen; omega)
  rw [← hcap] at hge hle
  rw [← hcap] at hcv
  clear hcap
  go_wp2_with fail
  have hrb := rb_str w2 U 5 cap ((bytesRow U cap).size, (bytesRow U cap).size + 1) hge hle
  rw [HUL.out] at hrb
  have b3 : Below w.heap.size w (w2.alloc (.cells (bytesRow U cap) 5 ((bytesRow U cap).size, (bytesRow U cap).size + 1))).drew := (b12.alloc b12.size _).trans (((Drew.refl _).drewN 1).below _)
  generalize (w2.alloc (.cells (bytesRow U cap) 5 ((bytesRow U cap).size, (bytesRow U cap).size + 1))).drew = w3 at hrb b3 ⊢
  generalize w2.heap.size = Bb at hrb ⊢
  clear hcv b12
  have hP := pieces_calls w3 _ _ _ (bz (encs l)) hrb.rd (fun x hx => bz_byte hx) hUs ao2 n2 cap2 cs (H2.out.below b3) hn2 (HT.out.below b3)
  unfold PiecesP at hP
  have hDr := drain_all _ l (0, 0, 1, 1) (Nat.le_refl _) HLC.out
  rw [hDr, peek_done] at hP
  obtain ⟨ds, hds⟩ : ∃ ds, Hid (ds = (drainB (bz (encs l)) (0, 0, 1, 1) true).1) := ⟨_, rfl⟩
  rw [← hds.out] at hP
  unfold charV at hP
  have hdl := drain_len true _ (bz (encs l)) (0, 0, 1, 1) (Nat.le_refl _)
  rw [← hds.out, hDr, bz_length] at hdl
  simp only [List.length_nil, Nat.add_zero] at hdl
  refine hP.mono ?_
  rintro e w4 ⟨vs, rfl, row4, b4⟩
  obtain ⟨ao5, cap5, rfl, rd5, _⟩ := row4.rd
  have b4' := b3.trans (b4.mono b3.size)
  obtain ⟨L, hL⟩ : ∃ L, Hid (L = ds.length) := ⟨_, rfl⟩
  rw [← hL.out] at rd5 hdl ⊢
  generalize w3.heap.size = B3 at rd5
  have hUz2 := HUZ.out
  have hLU : L ≤ U.size := by omega
  clear hUz2 hdl hP hDr row4 b4 hrb b3
  have rd6 := rd5.below ((Below.refl w4.heap.size w4).alloc (Nat.le_refl _) (Obj.cells #[.int .i32 0, .int .i64 0, .int .i64 0, .int .i64 0, .int .i64 0, .int .i64 0] 32))
  have b6 := b4'.alloc b4'.size (Obj.cells #[.int .i32 0, .int .i64 0, .int .i64 0, .int .i64 0, .int .i64 0, .int .i64 0] 32)
  clear rd5 b4'
  go_upto_region 5 with fail
  generalize w4.alloc (Obj.cells #[.int .i32 0, .int .i64 0, .int .i64 0, .int .i64 0, .int .i64 0, .int .i64 0] 32) = w6 at rd6 b6 ⊢
  obtain ⟨K, hK⟩ : ∃ K, Hid (K = w6.heap.size) := ⟨_, rfl⟩
  go_wp2_with fail
  rw [← hK.out]
  go_loopw [8, 9, 10] (fun v8 v9 v10 wr => ∃ (X Y Z V : List Int) (nn p t : Nat) (sk : Bool), v8 = .int .i64 nn ∧ v9 = .int .i64 t ∧ v10 = .bool sk ∧ wr.heap[K]? = some (.stringIter U p) ∧ Below K w6 wr ∧ Hid (p = (encs X).length) ∧ Hid (t = (encs Z).length) ∧ nn ≤ L ∧ Hid (l = X ++ Y) ∧ Hid ((sk = true ∧ Y = 10 :: V ∧ Z = X ++ [10]) ∨ (sk = false ∧ Y = V ∧ Z = X)) ∧ Hid (ds.drop nn = (drainB (bz (encs V)) (plC Z V) true).1)) (fun _ _ _ wr => U.size - wr.iterPos K)
  case atStart => exact ⟨[], l, [], l, 0, 0, 0, false, rfl, rfl, rfl, by rw [hK.out]; exact World.iter_heap w6 U 0, by rw [hK.out]; exact (Below.refl _ _).alloc (Nat.le_refl _) _, Lib.hid rfl, Lib.hid rfl, Nat.zero_le _, Lib.hid rfl, Lib.hid (.inr ⟨rfl, rfl, rfl⟩), Lib.hid (by rw [hds.out]; rfl)⟩
  case round =>
    obtain ⟨X, Y, Z, V, nn, p, t, sk, rfl, rfl, rfl, hit, hbw, HP, HTT, hnL, HXY, HC, HD⟩ := hrel
    have hpos0 := iterPos_of hit
    cases Y with
    | nil =>
      have hpe : p = U.size := by rw [HP.out]; exact at_here (by rw [HUL.out, HXY.out])
      have hp : ¬ p < U.size := by omega
      have hnx : ∀ ty, (Instr.next (.pointer (some ⟨K, 0, none⟩)) true ty).run Tryd.prog wr = _ := fun ty => Lib.run_next_end_at wr K U p ty hit hp
      have hV : V = [] ∧ Z = X := by
        rcases HC.out with ⟨_, h, _⟩ | ⟨_, h, h2⟩
        · cases h
        · exact ⟨h.symm, h2⟩
      have hD := HD.out
      rw [hV.1, encs_nil, show bz [] = [] from rfl, drainB_stop (first_nil true)] at hD
      have hDl := List.drop_eq_nil_iff.1 hD
      have hnn : nn = L := by have := hL.out; omega
      have htU : t = U.size := by rw [HTT.out, hV.2, ← HP.out, hpe]
      subst hnn
      subst htU
      clear hD hV hDl
      go_wp2_with fail
      go_ret
      exact ⟨by simp, b6.trans (hbw.mono (by rw [hK.out]; exact b6.size))⟩
    | cons r m =>
      have hrc : Ch r := HLC.out r (by rw [HXY.out]; simp)
      obtain ⟨hp, hdec⟩ := dec_here (U := U) (X := X) (m := m) (r := r) (by rw [HUL.out, HXY.out]) hrc
      rw [← HP.out] at hp hdec
      obtain ⟨W1, hnx, hw1⟩ := next_some (P := Tryd.prog) hit hp
      have hbw2 := hw1.below _ _ hbw (Nat.le_refl _)
      rw [hdec] at hnx hw1
      have hr0 : 0 ≤ r := by unfold Ch at hrc; omega
      simp only [Int.toNat_of_nonneg hr0] at hnx
      have HX2 : Hid (p + (enc r).length = (encs (X ++ [r])).length) := Lib.hid (by rw [HP.out, encs_append, List.length_append]; simp [encs])
      have HXY2 : Hid (l = (X ++ [r]) ++ m) := Lib.hid (by rw [HXY.out]; simp)
      have hel := enc_len hrc
      clear hdec
      cases sk
      rotate_left
      · have hC : r = 10 ∧ m = V ∧ Z = X ++ [10] := by
          rcases HC.out with ⟨_, h, h2⟩ | ⟨h, _⟩
          · injection h with h1 h3
            exact ⟨h1, h3, h2⟩
          · cases h
        obtain ⟨rfl, rfl, rfl⟩ := hC
        clear hit hbw HP HXY HC
        go_wp2_with fail
        go_roundw
        case rel => exact ⟨X ++ [10], m, X ++ [10], m, nn, _, t, false, rfl, rfl, rfl, hw1.it, hbw2, HX2, HTT, hnL, HXY2, Lib.hid (.inr ⟨rfl, rfl, rfl⟩), HD⟩
        case measure => rw [hw1.at_, hpos0]; omega
      · have hC : V = r :: m ∧ Z = X := by
          rcases HC.out with ⟨h, _⟩ | ⟨_, h, h2⟩
          · cases h
          · exact ⟨h.symm, h2⟩
        obtain ⟨rfl, rfl⟩ := hC
        obtain rfl : t = p := by rw [HTT.out, HP.out]
        have hcm : ∀ x ∈ r :: m, Ch x := fun x hx => HLC.out x (by rw [HXY.out]; exact List.mem_append_right _ hx)
        have HCM := Lib.hid hcm
        clear hcm
        by_cases h13 : r = 13
        · subst h13
          have hsz := size_behind (U := U) (X := Z) (m := m) (by rw [HUL.out, HXY.out]) (fun x hx => HCM.out x (List.mem_cons_of_mem _ hx))
          rw [← HP.out] at hsz
          cases m with
          | nil =>
            have hse := hsz.2 rfl
            have hsle : (U.size : Int) ≤ t + 1 := by omega
            clear hse hsz
            have hturn : turnC 13 ([]) = (10, 1, []) := rfl
            have hbeh : behind (plC Z (13 :: [])) 10 1 = plC (Z ++ [13]) ([]) := by have := behind_turn Z 13 [] (.inr (by simp)); rw [hturn] at this; exact this
            have hds2 := HD.out
            rw [drain_turn HCM.out, hturn] at hds2
            simp only [] at hds2
            rw [hbeh] at hds2
            obtain ⟨q, hq⟩ : ∃ q, Hid (q = plC Z (13 :: [])) := ⟨_, rfl⟩
            rw [← hq.out] at hds2
            have hq1 : q.1 = t := by rw [hq.out, HP.out]; rfl
            have hat := at_law HXY.out HLC.out
            rw [← HP.out, ← hq.out] at hat
            obtain ⟨q1, q2, q3, q4⟩ := q
            simp only [] at hq1
            subst hq1
            obtain ⟨hnl, hget, hdr⟩ := drop_cons6 hds2
            rw [← hL.out] at hnl
            have HDR := Lib.hid hdr
            have HGET := Lib.hid hget
            have HAT := Lib.hid hat
            clear hds2 hdr hget hat hturn hbeh
            have hcv := run_bytes_of_string (P := Tryd.prog) W1 9 22 5 U Tryd.underlying9 Tryd.underlying22 Tryd.underlying5
            obtain ⟨cp, hcp⟩ : ∃ cp, cp = grownCap W1 U.size 0 5 := ⟨_, rfl⟩
            have hge2 := grownCap_ge W1 U.size 0 5
            have hle2 := grownCap_le_maxLen W1 U.size 0 5 (by unfold maxLen; omega)
            rw [← hcp] at hge2 hle2
            rw [← hcp] at hcv
            clear hcp
            have HBW2 := Lib.hid hbw2
            have HW1 := Lib.hid hw1
            clear hit hbw hbw2 hw1
            go_wp2_with fail
            rw [show (Utf8.encode 13).size = 1 by decide]
            have hrb := rb_str W1 U 5 cp ((bytesRow U cp).size, (bytesRow U cp).size + 1) hge2 hle2
            rw [HUL.out] at hrb
            have ba : Below W1.heap.size W1 (W1.alloc (.cells (bytesRow U cp) 5 ((bytesRow U cp).size, (bytesRow U cp).size + 1))).drew := ((Below.refl _ _).alloc (Nat.le_refl _) _).trans (((Drew.refl _).drewN 1).below _)
            generalize (W1.alloc (.cells (bytesRow U cp) 5 ((bytesRow U cp).size, (bytesRow U cp).size + 1))).drew = W2 at hrb ba ⊢
            have hA := at_calls t W2 _ _ _ _ hrb (by omega)
            rw [HAT.out] at hA
            have HA := Lib.hid hA
            clear hA hcv hrb
            refine HA.out.mono ?_
            rintro e W3 ⟨rfl, bb⟩
            clear HA
            have bc := (ba.trans (bb.mono ba.size)).alloc (ba.trans (bb.mono ba.size)).size (Obj.cells #[.int .i64 t, .int .i64 q2, .int .i64 q3, .int .i64 q4] 27)
            have hKl : K < W1.heap.size := (Array.getElem?_eq_some_iff.1 HW1.out.it).1
            have it4 := (bc.block K hKl).trans HW1.out.it
            have bw4 := HBW2.out.trans (bc.mono (Nat.le_of_lt hKl))
            have z4 := heap_alloc_new W3 (Obj.cells #[.int .i64 t, .int .i64 q2, .int .i64 q3, .int .i64 q4] 27)
            clear bb ba bc
            go_upto_region 22 with fail
            generalize W3.alloc (Obj.cells #[.int .i64 t, .int .i64 q2, .int .i64 q3, .int .i64 q4] 27) = W4 at it4 bw4 z4 ⊢
            generalize W3.heap.size = C4 at z4 ⊢
            have e0 : W4.cell? ⟨C4, 0, none⟩ = some (.int .i64 t) := by simp [World.cell?, z4]
            have e1 : W4.cell? ⟨C4, 1, none⟩ = some (.int .i64 q2) := by simp [World.cell?, z4]
            have e2 : W4.cell? ⟨C4, 2, none⟩ = some (.int .i64 q3) := by simp [World.cell?, z4]
            have e3 : W4.cell? ⟨C4, 3, none⟩ = some (.int .i64 q4) := by simp [World.cell?, z4]
            obtain ⟨g5, c5, rfl, hc5, l0, l1, l2, l3, l4, l5⟩ := (rd6.below (show Below w6.heap.size w6 W4 by rw [← hK.out]; exact bw4)).get hnl
            rw [HGET.out] at hc5
            obtain rfl := Option.some.inj hc5
            simp only [] at l0 l1 l2 l3 l4 l5
            clear hc5 z4
            have hnl' : (nn : Int) < L := by omega
            have IT4 := Lib.hid (fun n => ((((Drew.refl W4).drewN n).below W4.heap.size).block K (Array.getElem?_eq_some_iff.1 it4).1).trans it4)
            have BW4 := Lib.hid (fun n => bw4.trans (((Drew.refl W4).drewN n).below K))
            clear it4 bw4
            go_wp2_with fail
            go_quiet (fail)
            go_wp2
            go_roundw
            case rel => exact ⟨Z ++ [13], [], Z ++ [13], [], nn + 1, _, t + 1, false, by go_num, by go_num, rfl, IT4.out _, BW4.out _, HX2, HX2, hnl, HXY2, Lib.hid (.inr ⟨rfl, rfl, rfl⟩), HDR⟩
            case measure =>
              have h1 := iterPos_of (IT4.out nq)
              have h2 := hel.1
              rw [hpos0, h1]
              omega
          | cons c m =>
            have hlt := hsz.1 (by simp)
            have hlt' : (t : Int) + 1 < U.size := by omega
            have hby := byte_behind (U := U) (X := Z) (m := m) (c := c) (by rw [HUL.out, HXY.out]) (HCM.out c (by simp)) HP.out hlt
            clear hsz
            by_cases h10 : c = 10
            · subst h10
              rw [show decide ((10 : Int) = 10) = true from rfl] at hby
              have hturn : turnC 13 (10 :: m) = (10, 2, m) := rfl
              have hbeh : behind (plC Z (13 :: 10 :: m)) 10 2 = plC (Z ++ [13] ++ [10]) (m) := behind_crlf Z m
              have hds2 := HD.out
              rw [drain_turn HCM.out, hturn] at hds2
              simp only [] at hds2
              rw [hbeh] at hds2
              obtain ⟨q, hq⟩ : ∃ q, Hid (q = plC Z (13 :: 10 :: m)) := ⟨_, rfl⟩
              rw [← hq.out] at hds2
              have hq1 : q.1 = t := by rw [hq.out, HP.out]; rfl
              have hat := at_law HXY.out HLC.out
              rw [← HP.out, ← hq.out] at hat
              obtain ⟨q1, q2, q3, q4⟩ := q
              simp only [] at hq1
              subst hq1
              obtain ⟨hnl, hget, hdr⟩ := drop_cons6 hds2
              rw [← hL.out] at hnl
              have HDR := Lib.hid hdr
              have HGET := Lib.hid hget
              have HAT := Lib.hid hat
              clear hds2 hdr hget hat hturn hbeh
              have hcv := run_bytes_of_string (P := Tryd.prog) W1 9 22 5 U Tryd.underlying9 Tryd.underlying22 Tryd.underlying5
              obtain ⟨cp, hcp⟩ : ∃ cp, cp = grownCap W1 U.size 0 5 := ⟨_, rfl⟩
              have hge2 := grownCap_ge W1 U.size 0 5
              have hle2 := grownCap_le_maxLen W1 U.size 0 5 (by unfold maxLen; omega)
              rw [← hcp] at hge2 hle2
              rw [← hcp] at hcv
              clear hcp
              have HBW2 := Lib.hid hbw2
              have HW1 := Lib.hid hw1
              clear hit hbw hbw2 hw1
              go_wp2_with fail
              have hrb := rb_str W1 U 5 cp ((bytesRow U cp).size, (bytesRow U cp).size + 1) hge2 hle2
              rw [HUL.out] at hrb
              have ba : Below W1.heap.size W1 (W1.alloc (.cells (bytesRow U cp) 5 ((bytesRow U cp).size, (bytesRow U cp).size + 1))).drew := ((Below.refl _ _).alloc (Nat.le_refl _) _).trans (((Drew.refl _).drewN 1).below _)
              generalize (W1.alloc (.cells (bytesRow U cp) 5 ((bytesRow U cp).size, (bytesRow U cp).size + 1))).drew = W2 at hrb ba ⊢
              have hA := at_calls t W2 _ _ _ _ hrb (by omega)
              rw [HAT.out] at hA
              have HA := Lib.hid hA
              clear hA hcv hrb
              refine HA.out.mono ?_
              rintro e W3 ⟨rfl, bb⟩
              clear HA
              have bc := (ba.trans (bb.mono ba.size)).alloc (ba.trans (bb.mono ba.size)).size (Obj.cells #[.int .i64 t, .int .i64 q2, .int .i64 q3, .int .i64 q4] 27)
              have hKl : K < W1.heap.size := (Array.getElem?_eq_some_iff.1 HW1.out.it).1
              have it4 := (bc.block K hKl).trans HW1.out.it
              have bw4 := HBW2.out.trans (bc.mono (Nat.le_of_lt hKl))
              have z4 := heap_alloc_new W3 (Obj.cells #[.int .i64 t, .int .i64 q2, .int .i64 q3, .int .i64 q4] 27)
              clear bb ba bc
              go_upto_region 22 with fail
              generalize W3.alloc (Obj.cells #[.int .i64 t, .int .i64 q2, .int .i64 q3, .int .i64 q4] 27) = W4 at it4 bw4 z4 ⊢
              generalize W3.heap.size = C4 at z4 ⊢
              have e0 : W4.cell? ⟨C4, 0, none⟩ = some (.int .i64 t) := by simp [World.cell?, z4]
              have e1 : W4.cell? ⟨C4, 1, none⟩ = some (.int .i64 q2) := by simp [World.cell?, z4]
              have e2 : W4.cell? ⟨C4, 2, none⟩ = some (.int .i64 q3) := by simp [World.cell?, z4]
              have e3 : W4.cell? ⟨C4, 3, none⟩ = some (.int .i64 q4) := by simp [World.cell?, z4]
              obtain ⟨g5, c5, rfl, hc5, l0, l1, l2, l3, l4, l5⟩ := (rd6.below (show Below w6.heap.size w6 W4 by rw [← hK.out]; exact bw4)).get hnl
              rw [HGET.out] at hc5
              obtain rfl := Option.some.inj hc5
              simp only [] at l0 l1 l2 l3 l4 l5
              clear hc5 z4
              have hnl' : (nn : Int) < L := by omega
              have IT4 := Lib.hid (fun n => ((((Drew.refl W4).drewN n).below W4.heap.size).block K (Array.getElem?_eq_some_iff.1 it4).1).trans it4)
              have BW4 := Lib.hid (fun n => bw4.trans (((Drew.refl W4).drewN n).below K))
              clear it4 bw4
              go_wp2_with fail
              go_quiet (fail)
              go_wp2
              go_roundw
              case rel => exact ⟨Z ++ [13], 10 :: m, Z ++ [13] ++ [10], m, nn + 1, _, t + 2, true, by go_num, by go_num, rfl, IT4.out _, BW4.out _, HX2, Lib.hid (by rw [encs_append, List.length_append, ← HX2.out]; rfl), hnl, HXY2, Lib.hid (.inl ⟨rfl, rfl, rfl⟩), HDR⟩
              case measure =>
                have h1 := iterPos_of (IT4.out nq)
                have h2 := hel.1
                rw [hpos0, h1]
                omega
            · rw [decide_eq_false h10] at hby
              have hturn : turnC 13 (c :: m) = (10, 1, c :: m) := by unfold turnC; rw [if_pos rfl, if_neg (by simp [h10])]
              have hbeh : behind (plC Z (13 :: c :: m)) 10 1 = plC (Z ++ [13]) (c :: m) := by have := behind_turn Z 13 (c :: m) (.inr (by simp [h10])); rw [hturn] at this; exact this
              have hds2 := HD.out
              rw [drain_turn HCM.out, hturn] at hds2
              simp only [] at hds2
              rw [hbeh] at hds2
              obtain ⟨q, hq⟩ : ∃ q, Hid (q = plC Z (13 :: c :: m)) := ⟨_, rfl⟩
              rw [← hq.out] at hds2
              have hq1 : q.1 = t := by rw [hq.out, HP.out]; rfl
              have hat := at_law HXY.out HLC.out
              rw [← HP.out, ← hq.out] at hat
              obtain ⟨q1, q2, q3, q4⟩ := q
              simp only [] at hq1
              subst hq1
              obtain ⟨hnl, hget, hdr⟩ := drop_cons6 hds2
              rw [← hL.out] at hnl
              have HDR := Lib.hid hdr
              have HGET := Lib.hid hget
              have HAT := Lib.hid hat
              clear hds2 hdr hget hat hturn hbeh
              have hcv := run_bytes_of_string (P := Tryd.prog) W1 9 22 5 U Tryd.underlying9 Tryd.underlying22 Tryd.underlying5
              obtain ⟨cp, hcp⟩ : ∃ cp, cp = grownCap W1 U.size 0 5 := ⟨_, rfl⟩
              have hge2 := grownCap_ge W1 U.size 0 5
              have hle2 := grownCap_le_maxLen W1 U.size 0 5 (by unfold maxLen; omega)
              rw [← hcp] at hge2 hle2
              rw [← hcp] at hcv
              clear hcp
              have HBW2 := Lib.hid hbw2
              have HW1 := Lib.hid hw1
              clear hit hbw hbw2 hw1
              go_wp2_with fail
              rw [show (Utf8.encode 13).size = 1 by decide]
              have hrb := rb_str W1 U 5 cp ((bytesRow U cp).size, (bytesRow U cp).size + 1) hge2 hle2
              rw [HUL.out] at hrb
              have ba : Below W1.heap.size W1 (W1.alloc (.cells (bytesRow U cp) 5 ((bytesRow U cp).size, (bytesRow U cp).size + 1))).drew := ((Below.refl _ _).alloc (Nat.le_refl _) _).trans (((Drew.refl _).drewN 1).below _)
              generalize (W1.alloc (.cells (bytesRow U cp) 5 ((bytesRow U cp).size, (bytesRow U cp).size + 1))).drew = W2 at hrb ba ⊢
              have hA := at_calls t W2 _ _ _ _ hrb (by omega)
              rw [HAT.out] at hA
              have HA := Lib.hid hA
              clear hA hcv hrb
              refine HA.out.mono ?_
              rintro e W3 ⟨rfl, bb⟩
              clear HA
              have bc := (ba.trans (bb.mono ba.size)).alloc (ba.trans (bb.mono ba.size)).size (Obj.cells #[.int .i64 t, .int .i64 q2, .int .i64 q3, .int .i64 q4] 27)
              have hKl : K < W1.heap.size := (Array.getElem?_eq_some_iff.1 HW1.out.it).1
              have it4 := (bc.block K hKl).trans HW1.out.it
              have bw4 := HBW2.out.trans (bc.mono (Nat.le_of_lt hKl))
              have z4 := heap_alloc_new W3 (Obj.cells #[.int .i64 t, .int .i64 q2, .int .i64 q3, .int .i64 q4] 27)
              clear bb ba bc
              go_upto_region 22 with fail
              generalize W3.alloc (Obj.cells #[.int .i64 t, .int .i64 q2, .int .i64 q3, .int .i64 q4] 27) = W4 at it4 bw4 z4 ⊢
              generalize W3.heap.size = C4 at z4 ⊢
              have e0 : W4.cell? ⟨C4, 0, none⟩ = some (.int .i64 t) := by simp [World.cell?, z4]
              have e1 : W4.cell? ⟨C4, 1, none⟩ = some (.int .i64 q2) := by simp [World.cell?, z4]
              have e2 : W4.cell? ⟨C4, 2, none⟩ = some (.int .i64 q3) := by simp [World.cell?, z4]
              have e3 : W4.cell? ⟨C4, 3, none⟩ = some (.int .i64 q4) := by simp [World.cell?, z4]
              obtain ⟨g5, c5, rfl, hc5, l0, l1, l2, l3, l4, l5⟩ := (rd6.below (show Below w6.heap.size w6 W4 by rw [← hK.out]; exact bw4)).get hnl
              rw [HGET.out] at hc5
              obtain rfl := Option.some.inj hc5
              simp only [] at l0 l1 l2 l3 l4 l5
              clear hc5 z4
              have hnl' : (nn : Int) < L := by omega
              have IT4 := Lib.hid (fun n => ((((Drew.refl W4).drewN n).below W4.heap.size).block K (Array.getElem?_eq_some_iff.1 it4).1).trans it4)
              have BW4 := Lib.hid (fun n => bw4.trans (((Drew.refl W4).drewN n).below K))
              clear it4 bw4
              go_wp2_with fail
              go_quiet (fail)
              go_wp2
              go_roundw
              case rel => exact ⟨Z ++ [13], c :: m, Z ++ [13], c :: m, nn + 1, _, t + 1, false, by go_num, by go_num, rfl, IT4.out _, BW4.out _, HX2, HX2, hnl, HXY2, Lib.hid (.inr ⟨rfl, rfl, rfl⟩), HDR⟩
              case measure =>
                have h1 := iterPos_of (IT4.out nq)
                have h2 := hel.1
                rw [hpos0, h1]
                omega
        · have hne : (r == 13) = false := beq_eq_false_iff_ne.2 h13
          obtain ⟨wd, hwd⟩ : ∃ wd, Hid (wd = (enc r).length) := ⟨_, rfl⟩
          have hwd4 : wd ≤ 4 := by rw [hwd.out]; exact hel.2.1
          have hturn : turnC r (m) = (r, ((wd : Nat) : Int), m) := by unfold turnC; rw [if_neg h13, ← hwd.out]
          have hbeh : behind (plC Z (r :: m)) r ((wd : Nat) : Int) = plC (Z ++ [r]) (m) := by have := behind_turn Z r m (.inl h13); rw [hturn] at this; exact this
          have hds2 := HD.out
          rw [drain_turn HCM.out, hturn] at hds2
          simp only [] at hds2
          rw [hbeh] at hds2
          obtain ⟨q, hq⟩ : ∃ q, Hid (q = plC Z (r :: m)) := ⟨_, rfl⟩
          rw [← hq.out] at hds2
          have hq1 : q.1 = t := by rw [hq.out, HP.out]; rfl
          have hat := at_law HXY.out HLC.out
          rw [← HP.out, ← hq.out] at hat
          obtain ⟨q1, q2, q3, q4⟩ := q
          simp only [] at hq1
          subst hq1
          obtain ⟨hnl, hget, hdr⟩ := drop_cons6 hds2
          rw [← hL.out] at hnl
          have HDR := Lib.hid hdr
          have HGET := Lib.hid hget
          have HAT := Lib.hid hat
          clear hds2 hdr hget hat hturn hbeh
          have hcv := run_bytes_of_string (P := Tryd.prog) W1 9 22 5 U Tryd.underlying9 Tryd.underlying22 Tryd.underlying5
          obtain ⟨cp, hcp⟩ : ∃ cp, cp = grownCap W1 U.size 0 5 := ⟨_, rfl⟩
          have hge2 := grownCap_ge W1 U.size 0 5
          have hle2 := grownCap_le_maxLen W1 U.size 0 5 (by unfold maxLen; omega)
          rw [← hcp] at hge2 hle2
          rw [← hcp] at hcv
          clear hcp
          have HBW2 := Lib.hid hbw2
          have HW1 := Lib.hid hw1
          clear hit hbw hbw2 hw1
          go_wp2_with fail
          rw [show (Utf8.encode r).size = wd from hwd.out.symm]
          have hrb := rb_str W1 U 5 cp ((bytesRow U cp).size, (bytesRow U cp).size + 1) hge2 hle2
          rw [HUL.out] at hrb
          have ba : Below W1.heap.size W1 (W1.alloc (.cells (bytesRow U cp) 5 ((bytesRow U cp).size, (bytesRow U cp).size + 1))).drew := ((Below.refl _ _).alloc (Nat.le_refl _) _).trans (((Drew.refl _).drewN 1).below _)
          generalize (W1.alloc (.cells (bytesRow U cp) 5 ((bytesRow U cp).size, (bytesRow U cp).size + 1))).drew = W2 at hrb ba ⊢
          have hA := at_calls t W2 _ _ _ _ hrb (by omega)
          rw [HAT.out] at hA
          have HA := Lib.hid hA
          clear hA hcv hrb
          refine HA.out.mono ?_
          rintro e W3 ⟨rfl, bb⟩
          clear HA
          have bc := (ba.trans (bb.mono ba.size)).alloc (ba.trans (bb.mono ba.size)).size (Obj.cells #[.int .i64 t, .int .i64 q2, .int .i64 q3, .int .i64 q4] 27)
          have hKl : K < W1.heap.size := (Array.getElem?_eq_some_iff.1 HW1.out.it).1
          have it4 := (bc.block K hKl).trans HW1.out.it
          have bw4 := HBW2.out.trans (bc.mono (Nat.le_of_lt hKl))
          have z4 := heap_alloc_new W3 (Obj.cells #[.int .i64 t, .int .i64 q2, .int .i64 q3, .int .i64 q4] 27)
          clear bb ba bc
          go_upto_region 22 with fail
          generalize W3.alloc (Obj.cells #[.int .i64 t, .int .i64 q2, .int .i64 q3, .int .i64 q4] 27) = W4 at it4 bw4 z4 ⊢
          generalize W3.heap.size = C4 at z4 ⊢
          have e0 : W4.cell? ⟨C4, 0, none⟩ = some (.int .i64 t) := by simp [World.cell?, z4]
          have e1 : W4.cell? ⟨C4, 1, none⟩ = some (.int .i64 q2) := by simp [World.cell?, z4]
          have e2 : W4.cell? ⟨C4, 2, none⟩ = some (.int .i64 q3) := by simp [World.cell?, z4]
          have e3 : W4.cell? ⟨C4, 3, none⟩ = some (.int .i64 q4) := by simp [World.cell?, z4]
          obtain ⟨g5, c5, rfl, hc5, l0, l1, l2, l3, l4, l5⟩ := (rd6.below (show Below w6.heap.size w6 W4 by rw [← hK.out]; exact bw4)).get hnl
          rw [HGET.out] at hc5
          obtain rfl := Option.some.inj hc5
          simp only [] at l0 l1 l2 l3 l4 l5
          clear hc5 z4
          have hnl' : (nn : Int) < L := by omega
          have IT4 := Lib.hid (fun n => ((((Drew.refl W4).drewN n).below W4.heap.size).block K (Array.getElem?_eq_some_iff.1 it4).1).trans it4)
          have BW4 := Lib.hid (fun n => bw4.trans (((Drew.refl W4).drewN n).below K))
          clear it4 bw4
          go_wp2_with fail
          go_quiet (fail)
          go_wp2
          go_roundw
          case rel => exact ⟨Z ++ [r], m, Z ++ [r], m, nn + 1, _, t + wd, false, by go_num, by go_num, rfl, IT4.out _, BW4.out _, HX2, Lib.hid (by rw [hwd.out]; exact HX2.out), hnl, HXY2, Lib.hid (.inr ⟨rfl, rfl, rfl⟩), HDR⟩
          case measure =>
            have h1 := iterPos_of (IT4.out nq)
            have h2 := hel.1
            rw [hpos0, h1]
            omega
theorem feedChars_walk (s : ByteArray) (ao2 : Option Addr) (n2 cap2 : Nat) (cs : List Int) (w : World) (hs : s.size ≤ 1048576) (h2 : Rd w .i64 ao2 n2 cap2 cs) (_ : ao2 = none → n2 = 0 ∧ cap2 = 0) (_ : ∀ x ∈ cs, (Lit.int .i64 x).wf = true) (hn2 : n2 ≤ 1048576) (hT : U8 w) :
    Calls Tryd.prog 7 #[.string s, .slice ao2 n2 cap2] w fun e w' => e = .returned (.bool true) ∧ Below w.heap.size w w' :=
  chars_calls s w (by omega) ao2 n2 cap2 cs h2 (by omega) hT
end Go.Proofs.YtpkdbfnnbbkkiaaDoor
