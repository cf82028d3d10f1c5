/- The walk of gimletlaw16.HuntEarly. -/
import Derived.Test.YtgajinnbmnnccaaHuntEarlyLaw
import Derived.Deep.CutRange
import Derived.Deep.CutBlock
namespace Go.Proofs.Ytgajinnbmnnccaa
open Go.RowKit Gim
set_option maxRecDepth 100000 in
set_option maxHeartbeats 8000000 in
theorem huntEarlyWalk (c0 n0 : Int) (s text more : ByteArray) (w : World) (hn : n0 ≤ 9223372036854775807) (hs : s.size ≤ 1048576) (ht : text.size ≤ 1048576) (hm : more.size ≤ 1048576) :
    Calls Try.prog 6 #[.agg #[.int .i64 c0, .string s, .int .i64 n0], .string text, .string more] w fun e w' => e = .returned (.bool true) ∧ Below w.heap.size w w' := by
  have hA : ∀ w, Calls Try.prog 13 #[.agg #[.int .i64 c0, .string s, .int .i64 n0]] w (AskedOK w c0 n0.toNat s) := fun w => asked_calls c0 n0 s hn (by omega) w
  have hI : ∀ w, Calls Try.prog 15 #[.int .i64 c0, .int .i64 9] w fun e w' => e = .returned (.int .i64 (c0 % 9)) ∧ w' = w := fun w => into_calls c0 9 (by decide) (by decide) w
  go_enter Try.func6, Try.ntmps6
  go_wp2_with fail
  refine (awake _).mono ?_
  rintro e w1 ⟨rfl, b1⟩
  have x0 : w1.heap[w.heap.size]? = some (Obj.cells #[.int .i64 c0, .string s, .int .i64 n0] 23) := (b1.block _ (by simp)).trans (heap_alloc_new w _)
  have b0 : Below w.heap.size w w1 := ((Below.refl _ _).alloc (Nat.le_refl _) _).trans (b1.mono (by simp))
  clear b1
  have hz1 := (Array.getElem?_eq_some_iff.1 x0).1
  have y0 : w1.cell? ⟨w.heap.size, 0, none⟩ = some (.int .i64 c0) := by simp [World.cell?, x0]
  have y1 : w1.cell? ⟨w.heap.size, 1, none⟩ = some (.string s) := by simp [World.cell?, x0]
  have y2 : w1.cell? ⟨w.heap.size, 2, none⟩ = some (.int .i64 n0) := by simp [World.cell?, x0]
  go_wp2_with fail
  refine (hA _).mono ?_
  rintro e w2 ⟨H, tv, bv, rfl, hH, s2, b2⟩
  go_wp2_with fail
  refine (add_calls _ _ _ _ _ _ _ _ _ text s2 (askedT_fl _ _) (by simp; omega)).mono ?_
  rintro e w3 ⟨rfl, f3, s3⟩
  rw [List.nil_append] at s3
  obtain ⟨N, hN⟩ : ∃ N, N = n0.toNat := ⟨_, rfl⟩
  obtain ⟨c, hc⟩ : ∃ c, c = c0 % 9 := ⟨_, rfl⟩
  have h0 : 0 ≤ c := by rw [hc]; exact Int.emod_nonneg _ (by decide)
  have h8 : c ≤ 8 := by have := Int.emod_lt_of_pos c0 (show (0:Int) < 9 by decide); omega
  rw [← hc, ← hN] at s3
  have hA : ∀ w, Calls Try.prog 13 #[.agg #[.int .i64 c0, .string s, .int .i64 n0]] w (fun e w' => ∃ H tv bv, e = .returned (.tuple #[.pointer (some ⟨H, 0, none⟩), .bool true]) ∧ w.heap.size ≤ H ∧ St w' (H + 1) H c N (askedT c s) tv bv [] false ∧ Below w.heap.size w w') := fun w => by
    have := hA w
    unfold AskedOK at this
    rwa [← hc, ← hN] at this
  rw [← hc] at hI
  clear s2 y0 y1 y2
  obtain ⟨L, hL⟩ : ∃ L, Hid (L = rs text) := ⟨_, rfl⟩
  rw [← hL.out] at s3
  obtain ⟨t, hT0⟩ : ∃ t, Hid (t = tB c N (askedT c s) L false) := ⟨_, rfl⟩
  have HO : Hid (∀ {w B H tv bv}, St w B H c N (askedT c s) tv bv L false → Calls Try.prog 12 #[.pointer (some ⟨H, 0, none⟩)] w fun e w' => e = .returned (.int .i64 t) ∧ ∃ m, w' = w.drewN m) := fun h => by rw [hT0.out]; exact h.truth h0 h8
  go_wp2_with fail
  refine (HO.out s3).mono ?_
  rintro e w4 ⟨rfl, m4, rfl⟩
  go_wp2_with fail
  refine (add_calls _ _ _ _ _ _ _ _ _ more (s3.drewN m4) (askedT_fl _ _) (by have := rs_length text; rw [hL.out]; omega)).mono ?_
  rintro e w5 ⟨rfl, f5, s5⟩
  go_wp2_with fail
  refine s5.close.mono ?_
  rintro e w6 ⟨rfl, f6, s6⟩
  have f7 := ((f3.drewN m4).trans f5).trans f6
  have b5 : Below w1.heap.size w1 w6 := b2.trans (f7.below b2.size (fun j hj => by omega))
  have b6 : Below w.heap.size w w6 := b0.trans (b5.mono b0.size)
  have x6 := (b5.block _ hz1).trans x0
  clear f3 f5 f6 f7 b5 b2 b0 s3 s5 x0 hz1 hH
  by_cases ht1 : t = 1
  · subst ht1
    have y0 : w6.cell? ⟨w.heap.size, 0, none⟩ = some (.int .i64 c0) := by simp [World.cell?, x6]
    have y1 : w6.cell? ⟨w.heap.size, 1, none⟩ = some (.string s) := by simp [World.cell?, x6]
    have y2 : w6.cell? ⟨w.heap.size, 2, none⟩ = some (.int .i64 n0) := by simp [World.cell?, x6]
    have hE : Hid (∀ w, Calls Try.prog 21 #[.string s, .string ⟨#[1]⟩] w fun e w' => e = .returned (.bool (endsB (rs s) [1])) ∧ Below w.heap.size w w') := fun w => by
      have := ends s ⟨#[1]⟩ w (by omega) (by decide)
      rwa [show rs ⟨#[1]⟩ = [1] by decide +kernel] at this
    obtain ⟨b, hb⟩ : ∃ b, Hid (b = endsB (rs s) [1]) := ⟨_, rfl⟩
    rw [← hb.out] at hE
    have hA := Lib.hid hA
    obtain ⟨k, hk⟩ : ∃ k, Hid (k = L.length) := ⟨_, rfl⟩
    obtain ⟨ks, hks⟩ : ∃ ks, Hid (ks = (rs s).length) := ⟨_, rfl⟩
    have HLn : Hid (∀ w, Calls Try.prog 22 #[.string text] w fun e w' => e = .returned (.int .i64 k) ∧ Below w.heap.size w w') := fun w => by
      rw [hk.out, hL.out]; exact wordsLength text w (by omega)
    have HSn : Hid (∀ w, Calls Try.prog 22 #[.string s] w fun e w' => e = .returned (.int .i64 ks) ∧ Below w.heap.size w w') := fun w => by
      rw [hks.out]; exact wordsLength s w (by omega)
    have hkb : k ≤ 1048576 := by have := rs_length text; rw [hk.out, hL.out]; omega
    have hksb : ks ≤ 1048576 := by have := rs_length s; rw [hks.out]; omega
    have HSub : Hid (∀ w, Calls Try.prog 23 #[.string s, .int .i64 k, .int .i64 ks] w fun e w' => e = .returned (.string (runesBytes (((rs s).drop k).take ks))) ∧ Below w.heap.size w w') := fun w => by
      have := sub s k ks w (by omega) (by omega) (by omega) (by omega) (by omega)
      rw [hks.out, subI_drop] at this
      rw [hks.out, List.take_of_length_le (by simp)]
      exact this
    have HD := Lib.hid (show rs (runesBytes (((rs s).drop k).take ks)) = (rs s).drop k by
      rw [(piece_ok (rs_ch s) k ks).1, hks.out, List.take_of_length_le (by simp)])
    have HB := Lib.hid (show L.length + (runesBytes (((rs s).drop k).take ks)).size ≤ 2 ^ 62 ∧ L.length + s.size ≤ 2 ^ 62 by
      have := (piece_ok (rs_ch s) k ks).2
      rw [← hk.out]
      omega)
    have HB1 := Lib.hid (show L.length + 1 ≤ 2 ^ 62 - 10000 by rw [← hk.out]; omega)
    have HB0 := Lib.hid (show ([] : List Int).length + text.size ≤ 2 ^ 62 by rw [List.length_nil]; omega)
    have hz : (if n0 < 0 then (0 : Int) else n0) = (N : Int) := by split <;> omega
    obtain ⟨i0, hi0, hz0, hz1, hz2⟩ := info_parts info_u8
    have HE : ∀ x : Int, Hid (endsB (rs s) [x] = false → (c = 4 → rs s ≠ []) → n0 < (1900 : Int) → tried c N s L k x 0 6 = true ∧ tried c N s L k x 2 6 = true) := fun x hx h4 hn => by
      have := early_law (x := x) (l := L) h0 h8 (N := N) (by omega) hx h4 hT0.out.symm
      rw [← hk.out] at this
      exact ⟨tried_all this.1, tried_all this.2⟩
    have hNb : (N : Int) ≤ 9223372036854775807 := by omega
    have hkb2 := hkb
    have HC4 : c = 4 → s.toList.isEmpty = true → Hid (∀ {w B H tv bv}, St w B H c N (askedT c s) tv bv (L ++ rs more) true → Calls Try.prog 12 #[.pointer (some ⟨H, 0, none⟩)] w fun e w' => e = .returned (.int .i64 2) ∧ ∃ m, w' = w.drewN m) := fun h4 he w B H tv bv h => by
      have := h.truth h0 h8
      rw [whole_want h0 h8, h4, show wantB 4 N (rs s) (L ++ rs more) = endsB (L ++ rs more) (rs s) from rfl, empty_rs he, show endsB (L ++ rs more) [] = true by simp [endsB, standsB]] at this
      exact this
    have H0 := Lib.hid h0
    have H8 := Lib.hid h8
    clear hm HO hN hk hks hkb hksb hc
    go_upto_region 11 with fail
    go_cut [60] from 52 to 60 (fun v wx => ∃ z, v = .bool z ∧ wx = w6 ∧ (z = true → c = 4 ∧ s.toList.isEmpty = true) ∧ (z = false → c = 4 → rs s ≠ []))
    case first =>
      by_cases h4 : c = 4
      · have h4b : (c == 4) = true := beq_iff_eq.2 h4
        obtain ⟨em, hem⟩ : ∃ em, s.toList.isEmpty = em := ⟨_, rfl⟩
        have HEM := Lib.hid hem
        go_wp2_with fail
        refine (hI _).mono ?_
        rintro e w7 ⟨rfl, rfl⟩
        go_wp2_with fail
        go_meet
        case rel => exact ⟨em, rfl, rfl, fun h => ⟨h4, HEM.out.trans h⟩, fun h _ => full_rs (HEM.out.trans h)⟩
      · have h4b : (c == 4) = false := beq_eq_false_iff_ne.2 h4
        go_wp2_with fail
        refine (hI _).mono ?_
        rintro e w7 ⟨rfl, rfl⟩
        go_wp2_with fail
        go_meet
        case rel => exact ⟨false, rfl, rfl, fun h => (by cases h), fun _ h => absurd h h4⟩
    case rest =>
    obtain ⟨z, rfl, rfl, hz1', hz2'⟩ := hcut
    have HZ1 := Lib.hid hz1'
    have hne := Lib.hid hz2'
    clear hz1' hz2'
    cases z
    case true =>
      obtain ⟨h4, he⟩ := HZ1.out rfl
      have HT4 := HC4 h4 he s6
      clear HC4 h4 he
      go_wp2_with fail
      refine HT4.mono ?_
      rintro e w7 ⟨rfl, m7, rfl⟩
      go_wp2
      go_ret
      exact ⟨rfl, below_drewN b6 m7⟩
    clear HC4 s6
    go_wp2_with fail
    refine (hE.out _).mono ?_
    rintro e w8 ⟨rfl, b8⟩
    have x8 := (b8.block _ (Array.getElem?_eq_some_iff.1 x6).1).trans x6
    have b8 := b6.trans (b8.mono b6.size)
    clear x6 b6 y0 y1 y2
    go_upto_if 67 with fail
    go_cut [12] from 52 to 67 (fun v wx => wx = w8 ∧ ∃ (o : ByteArray) (x : Int), v = .string o ∧ o.size = 1 ∧ rs o = [x] ∧ endsB (rs s) [x] = false)
    case first =>
      cases b
      · go_wp2_with fail
        go_meet
        case rel => exact ⟨rfl, _, 1, rfl, rfl, by decide +kernel, hb.out.symm⟩
      · go_wp2_with fail
        go_meet
        case rel => exact ⟨rfl, _, 2, rfl, rfl, by decide +kernel, endsB_one_two hb.out.symm⟩
    case rest =>
    obtain ⟨rfl, o, x, rfl, ho1, ho2, ho3⟩ := hcut
    have HO1 := Lib.hid ho1
    have HX : Hid (rs o = [x] ∧ endsB (rs s) [x] = false) := ⟨ho2, ho3⟩
    clear ho1 ho2 ho3
    have HE : Hid (n0 < (1900 : Int) → tried c N s L k x 0 6 = true ∧ tried c N s L k x 2 6 = true) := (HE x).out HX.out.2 (hne.out trivial)
    go_wp2_with fail
    go_loopw [10, 11, 13] (fun u1 u2 u3 wr => ∃ (i : Nat) (no yes : Bool), u3 = .int .i64 i ∧ u1 = .bool no ∧ u2 = .bool yes ∧ i ≤ 6 ∧ Hid (no = tried c N s L k x 0 i) ∧ Hid (yes = tried c N s L k x 2 i) ∧ wr.heap[w.heap.size]? = some (Obj.cells #[.int .i64 c0, .string s, .int .i64 n0] 23) ∧ Below w.heap.size w wr) (fun _ _ u3 _ => 6 - (intOf u3).toNat)
    case atStart => exact ⟨0, false, false, rfl, rfl, rfl, by omega, rfl, rfl, x8, b8⟩
    case round =>
      obtain ⟨i, no, yes, rfl, rfl, rfl, hi6, HN, HY, xr, br⟩ := hrel
      by_cases hi : i < 6
      · have hi7 : (i : Int) < 6 := by omega
        have y0 : wr.cell? ⟨w.heap.size, 0, none⟩ = some (.int .i64 c0) := by simp [World.cell?, xr]
        have y1 : wr.cell? ⟨w.heap.size, 1, none⟩ = some (.string s) := by simp [World.cell?, xr]
        have y2 : wr.cell? ⟨w.heap.size, 2, none⟩ = some (.int .i64 n0) := by simp [World.cell?, xr]
        go_wp2_with fail
        refine (hA.out _).mono ?_
        rintro e w9 ⟨G, tv2, bv2, rfl, hG, s9, b9⟩
        clear y0 y1 y2
        have x9 := (b9.block _ (Array.getElem?_eq_some_iff.1 xr).1).trans xr
        have y0 : w9.cell? ⟨w.heap.size, 0, none⟩ = some (.int .i64 c0) := by simp [World.cell?, x9]
        have y1 : w9.cell? ⟨w.heap.size, 1, none⟩ = some (.string s) := by simp [World.cell?, x9]
        have y2 : w9.cell? ⟨w.heap.size, 2, none⟩ = some (.int .i64 n0) := by simp [World.cell?, x9]
        go_wp2_with fail
        refine (add_calls _ _ _ _ _ _ _ _ _ text s9 (askedT_fl _ _) HB0.out).mono ?_
        rintro e w10 ⟨rfl, f10, s10⟩
        rw [List.nil_append, ← hL.out] at s10
        have x10 : w10.heap[w.heap.size]? = _ := (f10.block _ (Array.getElem?_eq_some_iff.1 x9).1 (fun e => by have := (Array.getElem?_eq_some_iff.1 xr).1; omega)).trans x9
        clear y0 y1 y2 s9 x9
        have y0 : w10.cell? ⟨w.heap.size, 0, none⟩ = some (.int .i64 c0) := by simp [World.cell?, x10]
        have y1 : w10.cell? ⟨w.heap.size, 1, none⟩ = some (.string s) := by simp [World.cell?, x10]
        have y2 : w10.cell? ⟨w.heap.size, 2, none⟩ = some (.int .i64 n0) := by simp [World.cell?, x10]
        go_upto_block 2 with fail
        go_cut [16, 17, 18, 19] from 68 to 167 (fun v16 v17 v18 v19 wx => v16 = .int .i64 0 ∧ St wx (G + 1) G c N (askedT c s) tv2 bv2 (L ++ triesL (rs s) N k x i) false ∧ Fr (fun j => j = G) w9 wx)
        case first =>
          obtain rfl | rfl | rfl | rfl | rfl | rfl : i = 0 ∨ i = 1 ∨ i = 2 ∨ i = 3 ∨ i = 4 ∨ i = 5 := by omega
          · clear hi hi7 hi6 HN HY
            have s11 : St w10 (G + 1) G c N (askedT c s) tv2 bv2 (L ++ triesL (rs s) N k x 0) false := by rw [show triesL (rs s) N k x 0 = [] from rfl, List.append_nil]; exact s10
            have f11 := f10
            go_wp2_with fail
            go_meet
            case rel => exact ⟨rfl, s11, f11⟩
          · clear hi hi7 hi6 HN HY
            go_wp2_with fail
            refine (add_calls _ _ _ _ _ _ _ _ _ s s10 (askedT_fl _ _) HB.out.2).mono ?_
            rintro e w11 ⟨rfl, f11, s11⟩
            rw [← triesL_1 N k x s] at s11
            have f11 := f10.trans f11
            clear f10 s10 x10 y0 y1 y2
            go_wp2_with fail
            go_meet
            case rel => exact ⟨rfl, s11, f11⟩
          · clear hi hi7 hi6 HN HY
            go_wp2_with fail
            refine (HLn.out _).mono ?_
            rintro e w13 ⟨rfl, b⟩
            have s10 := s10.below b
            have x10 := (b.block _ (Array.getElem?_eq_some_iff.1 x10).1).trans x10
            have f10 := f10.trans (Fr.of b)
            clear b y0 y1 y2
            have y0 : w13.cell? ⟨w.heap.size, 0, none⟩ = some (.int .i64 c0) := by simp [World.cell?, x10]
            have y1 : w13.cell? ⟨w.heap.size, 1, none⟩ = some (.string s) := by simp [World.cell?, x10]
            have y2 : w13.cell? ⟨w.heap.size, 2, none⟩ = some (.int .i64 n0) := by simp [World.cell?, x10]
            go_wp2_with fail
            go_region_held3 (fun W => W.cell? ⟨w.heap.size, 0, none⟩ = some (.int .i64 c0) ∧ W.cell? ⟨w.heap.size, 1, none⟩ = some (.string s) ∧ W.cell? ⟨w.heap.size, 2, none⟩ = some (.int .i64 n0)) (first | go_keep | exact ⟨by assumption, by assumption, by assumption⟩) (first | (go_at_call 22; refine (HSn.out _).mono ?_; rintro e w14 ⟨rfl, bw14⟩; have cw14 : Below w13.heap.size w13 w14 := (by first | exact bw14 | exact ((Below.refl _ _).drew).trans bw14); have sw14 := s10.below cw14; have xw14 := (cw14.block _ (Array.getElem?_eq_some_iff.1 x10).1).trans x10; have fw14 := f10.trans (Fr.of cw14); have k0w14 : w14.cell? ⟨w.heap.size, 0, none⟩ = some (.int .i64 c0) := (by simp [World.cell?, xw14]); have k1w14 : w14.cell? ⟨w.heap.size, 1, none⟩ = some (.string s) := (by simp [World.cell?, xw14]); have k2w14 : w14.cell? ⟨w.heap.size, 2, none⟩ = some (.int .i64 n0) := (by simp [World.cell?, xw14])) | (go_at_call 23; refine (HSub.out _).mono ?_; rintro e w15 ⟨rfl, bw15⟩; have cw15 : Below w14.heap.size w14 w15 := (by first | exact bw15 | exact ((Below.refl _ _).drew).trans bw15); have sw15 := sw14.below cw15; have xw15 := (cw15.block _ (Array.getElem?_eq_some_iff.1 xw14).1).trans xw14; have fw15 := fw14.trans (Fr.of cw15); have k0w15 : w15.cell? ⟨w.heap.size, 0, none⟩ = some (.int .i64 c0) := (by simp [World.cell?, xw15]); have k1w15 : w15.cell? ⟨w.heap.size, 1, none⟩ = some (.string s) := (by simp [World.cell?, xw15]); have k2w15 : w15.cell? ⟨w.heap.size, 2, none⟩ = some (.int .i64 n0) := (by simp [World.cell?, xw15])) | (go_at_call 10; refine (add_calls _ _ _ _ _ _ _ _ _ _ sw15 (askedT_fl _ _) HB.out.1).mono ?_; rintro e w11 ⟨rfl, f11, s11⟩; have x11 : w11.heap[w.heap.size]? = _ := (f11.block _ (Array.getElem?_eq_some_iff.1 xw15).1 (fun e => by have := (Array.getElem?_eq_some_iff.1 xr).1; omega)).trans xw15; have k0w11 : w11.cell? ⟨w.heap.size, 0, none⟩ = some (.int .i64 c0) := (by simp [World.cell?, x11]); have k1w11 : w11.cell? ⟨w.heap.size, 1, none⟩ = some (.string s) := (by simp [World.cell?, x11]); have k2w11 : w11.cell? ⟨w.heap.size, 2, none⟩ = some (.int .i64 n0) := (by simp [World.cell?, x11])))
            rw [HD.out, ← triesL_2 N k x s] at s11
            have f11 := fw15.trans f11
            clear f10 s10 x10 y0 y1 y2
            go_wp2_with fail
            go_meet
            case rel => exact ⟨rfl, s11, f11⟩
          · clear hi hi7 hi6 HN HY
            by_cases hq1 : k < N
            · by_cases hq2 : N - k < 2000
              · obtain ⟨q, hq⟩ : ∃ q : Nat, (N : Int) - k = (q : Int) := ⟨N - k, by omega⟩
                have hq3 : q = N - k := by omega
                have hq4 : (0 : Int) < q := by omega
                have hq5 : (q : Int) < 2000 := by omega
                have hqm := Lib.hid (show 1 * q ≤ 281474976710656 ∧ q ≤ maxLen by unfold maxLen; omega)
                have HT := Lib.hid (show triesL (rs s) N k x 3 = rs (strOfNums (List.replicate q 0)) by rw [rs_zeros, hq3]; exact triesL_3 s x hq1 hq2)
                have HZ := Lib.hid (show L.length + (strOfNums (List.replicate q 0)).size ≤ 2 ^ 62 by rw [strOfNums_size, List.length_replicate]; have := HB1.out; omega)
                clear hq1 hq2 hq3
                go_wp2_with fail
                go_region_held3 (fun W => W.cell? ⟨w.heap.size, 0, none⟩ = some (.int .i64 c0) ∧ W.cell? ⟨w.heap.size, 1, none⟩ = some (.string s) ∧ W.cell? ⟨w.heap.size, 2, none⟩ = some (.int .i64 n0)) (first | go_keep | exact ⟨by assumption, by assumption, by assumption⟩) (first | (go_at_call 22; refine (HLn.out _).mono ?_; rintro e w13 ⟨rfl, bw13⟩; have cw13 : Below w10.heap.size w10 w13 := (by first | exact bw13 | exact ((Below.refl _ _).drew).trans bw13); have sw13 := s10.below cw13; have xw13 := (cw13.block _ (Array.getElem?_eq_some_iff.1 x10).1).trans x10; have fw13 := f10.trans (Fr.of cw13); have k0w13 : w13.cell? ⟨w.heap.size, 0, none⟩ = some (.int .i64 c0) := (by simp [World.cell?, xw13]); have k1w13 : w13.cell? ⟨w.heap.size, 1, none⟩ = some (.string s) := (by simp [World.cell?, xw13]); have k2w13 : w13.cell? ⟨w.heap.size, 2, none⟩ = some (.int .i64 n0) := (by simp [World.cell?, xw13])))
                all_goals
                  clear s10 f10
                  have s10 := sw13
                  have f10 := fw13
                all_goals
                 go_wp2_with (at_make; refine wpList_make_full _ rfl _ _ 58 rfl w13.heap.size 5 i0 (.int .u8 0) 1 Try.underlying58 hi0 hz0 hz1 _ _ _ _ q rfl rfl rfl rfl (by rw [hz2]; exact hqm.out.1) hqm.out.2 (Nat.le_refl _) ?_; intro w14 hown hgrow; have hcv := made_conv hown)
                 have b : Below w13.heap.size w13 w14 := (Below.refl _ _).grown hgrow (Nat.le_refl _) (fun k hk => by cases hk)
                 have s10 := s10.below b
                 have f10 := f10.trans (Fr.of b)
                 refine (add_calls _ _ _ _ _ _ _ _ _ _ s10 (askedT_fl _ _) HZ.out).mono ?_
                 rintro e w11 ⟨rfl, f11, s11⟩
                 rw [← HT.out] at s11
                 have f11 := f10.trans f11
                 clear f10 s10 x10 y0 y1 y2 b hgrow hown
                 go_wp2_with fail
                 go_meet
                 case rel => exact ⟨rfl, s11, f11⟩
              · obtain ⟨q, hq⟩ : ∃ q : Nat, (N : Int) - k = (q : Int) := ⟨N - k, by omega⟩
                have hq4 : (0 : Int) < q := by omega
                have hq5 : ¬ (q : Int) < 2000 := by omega
                have HT := Lib.hid (show triesL (rs s) N k x 3 = [] from triesL_3n s x (fun h => hq2 h.2))
                have hv2 := IntWalk.i64_in (q : Int) (by omega)
                clear hq1 hq2
                go_wp2_with fail
                go_region_held3 (fun W => W.cell? ⟨w.heap.size, 0, none⟩ = some (.int .i64 c0) ∧ W.cell? ⟨w.heap.size, 1, none⟩ = some (.string s) ∧ W.cell? ⟨w.heap.size, 2, none⟩ = some (.int .i64 n0)) (first | go_keep | exact ⟨by assumption, by assumption, by assumption⟩) (first | (go_at_call 22; refine (HLn.out _).mono ?_; rintro e w13 ⟨rfl, bw13⟩; have cw13 : Below w10.heap.size w10 w13 := (by first | exact bw13 | exact ((Below.refl _ _).drew).trans bw13); have sw13 := s10.below cw13; have xw13 := (cw13.block _ (Array.getElem?_eq_some_iff.1 x10).1).trans x10; have fw13 := f10.trans (Fr.of cw13); have k0w13 : w13.cell? ⟨w.heap.size, 0, none⟩ = some (.int .i64 c0) := (by simp [World.cell?, xw13]); have k1w13 : w13.cell? ⟨w.heap.size, 1, none⟩ = some (.string s) := (by simp [World.cell?, xw13]); have k2w13 : w13.cell? ⟨w.heap.size, 2, none⟩ = some (.int .i64 n0) := (by simp [World.cell?, xw13])))
                all_goals
                  clear s10 f10
                  have s10 := sw13
                  have f10 := fw13
                all_goals clear hv2
                all_goals
                 have s11 : St w13 (G + 1) G c N (askedT c s) tv2 bv2 (L ++ triesL (rs s) N k x 3) false := by rw [HT.out, List.append_nil]; exact s10
                 have f11 := f10
                 go_wp2_with fail
                 go_meet
                 case rel => exact ⟨rfl, s11, f11⟩
            · obtain ⟨q, hq⟩ : ∃ q : Int, (N : Int) - k = q := ⟨_, rfl⟩
              have hq5 : ¬ (0 : Int) < q := by omega
              have HT := Lib.hid (show triesL (rs s) N k x 3 = [] from triesL_3n s x (fun h => hq1 h.1))
              have hv2 := IntWalk.i64_in q (by omega)
              clear hq1
              go_wp2_with fail
              go_region_held3 (fun W => W.cell? ⟨w.heap.size, 0, none⟩ = some (.int .i64 c0) ∧ W.cell? ⟨w.heap.size, 1, none⟩ = some (.string s) ∧ W.cell? ⟨w.heap.size, 2, none⟩ = some (.int .i64 n0)) (first | go_keep | exact ⟨by assumption, by assumption, by assumption⟩) (first | (go_at_call 22; refine (HLn.out _).mono ?_; rintro e w13 ⟨rfl, bw13⟩; have cw13 : Below w10.heap.size w10 w13 := (by first | exact bw13 | exact ((Below.refl _ _).drew).trans bw13); have sw13 := s10.below cw13; have xw13 := (cw13.block _ (Array.getElem?_eq_some_iff.1 x10).1).trans x10; have fw13 := f10.trans (Fr.of cw13); have k0w13 : w13.cell? ⟨w.heap.size, 0, none⟩ = some (.int .i64 c0) := (by simp [World.cell?, xw13]); have k1w13 : w13.cell? ⟨w.heap.size, 1, none⟩ = some (.string s) := (by simp [World.cell?, xw13]); have k2w13 : w13.cell? ⟨w.heap.size, 2, none⟩ = some (.int .i64 n0) := (by simp [World.cell?, xw13])))
              all_goals
                clear s10 f10
                have s10 := sw13
                have f10 := fw13
              all_goals clear hv2
              all_goals
               have s11 : St w13 (G + 1) G c N (askedT c s) tv2 bv2 (L ++ triesL (rs s) N k x 3) false := by rw [HT.out, List.append_nil]; exact s10
               have f11 := f10
               go_wp2_with fail
               go_meet
               case rel => exact ⟨rfl, s11, f11⟩
          · clear hi hi7 hi6 HN HY
            by_cases hmx : (N : Int) = 9223372036854775807
            · by_cases hk0 : k = 0
              · have HT := Lib.hid (show triesL (rs s) N k x 4 = [] from triesL_4n s x (fun h => by omega))
                have hv : IntKind.i64.wrap ((N : Int) + 1) = -9223372036854775808 := by rw [hmx]; decide +kernel
                have hv2 : IntKind.i64.wrap (-9223372036854775808 - (k : Int)) = -9223372036854775808 := by rw [hk0]; decide +kernel
                clear hmx hk0
                go_wp2_with fail
                go_region_held3 (fun W => W.cell? ⟨w.heap.size, 0, none⟩ = some (.int .i64 c0) ∧ W.cell? ⟨w.heap.size, 1, none⟩ = some (.string s) ∧ W.cell? ⟨w.heap.size, 2, none⟩ = some (.int .i64 n0)) (first | go_keep | exact ⟨by assumption, by assumption, by assumption⟩) (first | (go_at_call 22; refine (HLn.out _).mono ?_; rintro e w13 ⟨rfl, bw13⟩; have cw13 : Below w10.heap.size w10 w13 := (by first | exact bw13 | exact ((Below.refl _ _).drew).trans bw13); have sw13 := s10.below cw13; have xw13 := (cw13.block _ (Array.getElem?_eq_some_iff.1 x10).1).trans x10; have fw13 := f10.trans (Fr.of cw13); have k0w13 : w13.cell? ⟨w.heap.size, 0, none⟩ = some (.int .i64 c0) := (by simp [World.cell?, xw13]); have k1w13 : w13.cell? ⟨w.heap.size, 1, none⟩ = some (.string s) := (by simp [World.cell?, xw13]); have k2w13 : w13.cell? ⟨w.heap.size, 2, none⟩ = some (.int .i64 n0) := (by simp [World.cell?, xw13])))
                all_goals
                  clear s10 f10
                  have s10 := sw13
                  have f10 := fw13
                all_goals clear hv hv2
                all_goals
                 have s11 : St w13 (G + 1) G c N (askedT c s) tv2 bv2 (L ++ triesL (rs s) N k x 4) false := by rw [HT.out, List.append_nil]; exact s10
                 have f11 := f10
                 go_wp2_with fail
                 go_meet
                 case rel => exact ⟨rfl, s11, f11⟩
              · have HT := Lib.hid (show triesL (rs s) N k x 4 = [] from triesL_4n s x (fun h => by omega))
                obtain ⟨z, hz9⟩ : ∃ z : Int, z = 9223372036854775808 - k := ⟨_, rfl⟩
                have hz4 : (0 : Int) < z := by omega
                have hz5 : ¬ z < 2000 := by omega
                have hv2 : IntKind.i64.wrap (-9223372036854775808 - (k : Int)) = z := wrap_low (by omega) (by omega) hz9
                have hv : IntKind.i64.wrap ((N : Int) + 1) = -9223372036854775808 := by rw [hmx]; decide +kernel
                clear hmx hk0 hz9
                go_wp2_with fail
                go_region_held3 (fun W => W.cell? ⟨w.heap.size, 0, none⟩ = some (.int .i64 c0) ∧ W.cell? ⟨w.heap.size, 1, none⟩ = some (.string s) ∧ W.cell? ⟨w.heap.size, 2, none⟩ = some (.int .i64 n0)) (first | go_keep | exact ⟨by assumption, by assumption, by assumption⟩) (first | (go_at_call 22; refine (HLn.out _).mono ?_; rintro e w13 ⟨rfl, bw13⟩; have cw13 : Below w10.heap.size w10 w13 := (by first | exact bw13 | exact ((Below.refl _ _).drew).trans bw13); have sw13 := s10.below cw13; have xw13 := (cw13.block _ (Array.getElem?_eq_some_iff.1 x10).1).trans x10; have fw13 := f10.trans (Fr.of cw13); have k0w13 : w13.cell? ⟨w.heap.size, 0, none⟩ = some (.int .i64 c0) := (by simp [World.cell?, xw13]); have k1w13 : w13.cell? ⟨w.heap.size, 1, none⟩ = some (.string s) := (by simp [World.cell?, xw13]); have k2w13 : w13.cell? ⟨w.heap.size, 2, none⟩ = some (.int .i64 n0) := (by simp [World.cell?, xw13])))
                all_goals
                  clear s10 f10
                  have s10 := sw13
                  have f10 := fw13
                all_goals clear hv hv2
                all_goals
                 have s11 : St w13 (G + 1) G c N (askedT c s) tv2 bv2 (L ++ triesL (rs s) N k x 4) false := by rw [HT.out, List.append_nil]; exact s10
                 have f11 := f10
                 go_wp2_with fail
                 go_meet
                 case rel => exact ⟨rfl, s11, f11⟩
            · by_cases hq1 : k < (N + 1)
              · by_cases hq2 : (N + 1) - k < 2000
                · obtain ⟨q, hq⟩ : ∃ q : Nat, (N : Int) + 1 - k = (q : Int) := ⟨(N + 1) - k, by omega⟩
                  have hq3 : q = (N + 1) - k := by omega
                  have hq4 : (0 : Int) < q := by omega
                  have hq5 : (q : Int) < 2000 := by omega
                  have hqm := Lib.hid (show 1 * q ≤ 281474976710656 ∧ q ≤ maxLen by unfold maxLen; omega)
                  have HT := Lib.hid (show triesL (rs s) N k x 4 = rs (strOfNums (List.replicate q 0)) by rw [rs_zeros, hq3]; exact triesL_4 s x hq1 hq2)
                  have HZ := Lib.hid (show L.length + (strOfNums (List.replicate q 0)).size ≤ 2 ^ 62 by rw [strOfNums_size, List.length_replicate]; have := HB1.out; omega)
                  have hv := IntWalk.i64_in ((N : Int) + 1) (by omega)
                  clear hq1 hq2 hq3
                  go_wp2_with fail
                  go_region_held3 (fun W => W.cell? ⟨w.heap.size, 0, none⟩ = some (.int .i64 c0) ∧ W.cell? ⟨w.heap.size, 1, none⟩ = some (.string s) ∧ W.cell? ⟨w.heap.size, 2, none⟩ = some (.int .i64 n0)) (first | go_keep | exact ⟨by assumption, by assumption, by assumption⟩) (first | (go_at_call 22; refine (HLn.out _).mono ?_; rintro e w13 ⟨rfl, bw13⟩; have cw13 : Below w10.heap.size w10 w13 := (by first | exact bw13 | exact ((Below.refl _ _).drew).trans bw13); have sw13 := s10.below cw13; have xw13 := (cw13.block _ (Array.getElem?_eq_some_iff.1 x10).1).trans x10; have fw13 := f10.trans (Fr.of cw13); have k0w13 : w13.cell? ⟨w.heap.size, 0, none⟩ = some (.int .i64 c0) := (by simp [World.cell?, xw13]); have k1w13 : w13.cell? ⟨w.heap.size, 1, none⟩ = some (.string s) := (by simp [World.cell?, xw13]); have k2w13 : w13.cell? ⟨w.heap.size, 2, none⟩ = some (.int .i64 n0) := (by simp [World.cell?, xw13])))
                  all_goals
                    clear s10 f10
                    have s10 := sw13
                    have f10 := fw13
                  all_goals
                   go_wp2_with (at_make; refine wpList_make_full _ rfl _ _ 58 rfl w13.heap.size 5 i0 (.int .u8 0) 1 Try.underlying58 hi0 hz0 hz1 _ _ _ _ q rfl rfl rfl rfl (by rw [hz2]; exact hqm.out.1) hqm.out.2 (Nat.le_refl _) ?_; intro w14 hown hgrow; have hcv := made_conv hown)
                   have b : Below w13.heap.size w13 w14 := (Below.refl _ _).grown hgrow (Nat.le_refl _) (fun k hk => by cases hk)
                   have s10 := s10.below b
                   have f10 := f10.trans (Fr.of b)
                   refine (add_calls _ _ _ _ _ _ _ _ _ _ s10 (askedT_fl _ _) HZ.out).mono ?_
                   rintro e w11 ⟨rfl, f11, s11⟩
                   rw [← HT.out] at s11
                   have f11 := f10.trans f11
                   clear f10 s10 x10 y0 y1 y2 b hgrow hown hv
                   go_wp2_with fail
                   go_meet
                   case rel => exact ⟨rfl, s11, f11⟩
                · obtain ⟨q, hq⟩ : ∃ q : Nat, (N : Int) + 1 - k = (q : Int) := ⟨(N + 1) - k, by omega⟩
                  have hq4 : (0 : Int) < q := by omega
                  have hq5 : ¬ (q : Int) < 2000 := by omega
                  have HT := Lib.hid (show triesL (rs s) N k x 4 = [] from triesL_4n s x (fun h => hq2 h.2))
                  have hv2 := IntWalk.i64_in (q : Int) (by omega)
                  have hv := IntWalk.i64_in ((N : Int) + 1) (by omega)
                  clear hq1 hq2
                  go_wp2_with fail
                  go_region_held3 (fun W => W.cell? ⟨w.heap.size, 0, none⟩ = some (.int .i64 c0) ∧ W.cell? ⟨w.heap.size, 1, none⟩ = some (.string s) ∧ W.cell? ⟨w.heap.size, 2, none⟩ = some (.int .i64 n0)) (first | go_keep | exact ⟨by assumption, by assumption, by assumption⟩) (first | (go_at_call 22; refine (HLn.out _).mono ?_; rintro e w13 ⟨rfl, bw13⟩; have cw13 : Below w10.heap.size w10 w13 := (by first | exact bw13 | exact ((Below.refl _ _).drew).trans bw13); have sw13 := s10.below cw13; have xw13 := (cw13.block _ (Array.getElem?_eq_some_iff.1 x10).1).trans x10; have fw13 := f10.trans (Fr.of cw13); have k0w13 : w13.cell? ⟨w.heap.size, 0, none⟩ = some (.int .i64 c0) := (by simp [World.cell?, xw13]); have k1w13 : w13.cell? ⟨w.heap.size, 1, none⟩ = some (.string s) := (by simp [World.cell?, xw13]); have k2w13 : w13.cell? ⟨w.heap.size, 2, none⟩ = some (.int .i64 n0) := (by simp [World.cell?, xw13])))
                  all_goals
                    clear s10 f10
                    have s10 := sw13
                    have f10 := fw13
                  all_goals clear hv hv2
                  all_goals
                   have s11 : St w13 (G + 1) G c N (askedT c s) tv2 bv2 (L ++ triesL (rs s) N k x 4) false := by rw [HT.out, List.append_nil]; exact s10
                   have f11 := f10
                   go_wp2_with fail
                   go_meet
                   case rel => exact ⟨rfl, s11, f11⟩
              · obtain ⟨q, hq⟩ : ∃ q : Int, (N : Int) + 1 - k = q := ⟨_, rfl⟩
                have hq5 : ¬ (0 : Int) < q := by omega
                have HT := Lib.hid (show triesL (rs s) N k x 4 = [] from triesL_4n s x (fun h => hq1 h.1))
                have hv2 := IntWalk.i64_in q (by omega)
                have hv := IntWalk.i64_in ((N : Int) + 1) (by omega)
                clear hq1
                go_wp2_with fail
                go_region_held3 (fun W => W.cell? ⟨w.heap.size, 0, none⟩ = some (.int .i64 c0) ∧ W.cell? ⟨w.heap.size, 1, none⟩ = some (.string s) ∧ W.cell? ⟨w.heap.size, 2, none⟩ = some (.int .i64 n0)) (first | go_keep | exact ⟨by assumption, by assumption, by assumption⟩) (first | (go_at_call 22; refine (HLn.out _).mono ?_; rintro e w13 ⟨rfl, bw13⟩; have cw13 : Below w10.heap.size w10 w13 := (by first | exact bw13 | exact ((Below.refl _ _).drew).trans bw13); have sw13 := s10.below cw13; have xw13 := (cw13.block _ (Array.getElem?_eq_some_iff.1 x10).1).trans x10; have fw13 := f10.trans (Fr.of cw13); have k0w13 : w13.cell? ⟨w.heap.size, 0, none⟩ = some (.int .i64 c0) := (by simp [World.cell?, xw13]); have k1w13 : w13.cell? ⟨w.heap.size, 1, none⟩ = some (.string s) := (by simp [World.cell?, xw13]); have k2w13 : w13.cell? ⟨w.heap.size, 2, none⟩ = some (.int .i64 n0) := (by simp [World.cell?, xw13])))
                all_goals
                  clear s10 f10
                  have s10 := sw13
                  have f10 := fw13
                all_goals clear hv hv2
                all_goals
                 have s11 : St w13 (G + 1) G c N (askedT c s) tv2 bv2 (L ++ triesL (rs s) N k x 4) false := by rw [HT.out, List.append_nil]; exact s10
                 have f11 := f10
                 go_wp2_with fail
                 go_meet
                 case rel => exact ⟨rfl, s11, f11⟩
          · clear hi hi7 hi6 HN HY
            go_wp2_with fail
            refine (add_calls _ _ _ _ _ _ _ _ _ o s10 (askedT_fl _ _) (by have := HB1.out; have := HO1.out; omega)).mono ?_
            rintro e w11 ⟨rfl, f11, s11⟩
            rw [HX.out.1, ← triesL_5 N k x s] at s11
            have f11 := f10.trans f11
            clear f10 s10 x10 y0 y1 y2
            go_wp2_with fail
            go_meet
            case rel => exact ⟨rfl, s11, f11⟩
        case rest =>
          obtain ⟨rfl, s11, f11⟩ := hcut
          go_wp2_with fail
          refine s11.close.mono ?_
          rintro e w12 ⟨rfl, f12, s12⟩
          have f12 := f11.trans f12
          have b12 : Below wr.heap.size wr w12 := b9.trans (f12.below b9.size (fun j hj => by omega))
          have x12 := (b12.block _ (Array.getElem?_eq_some_iff.1 xr).1).trans xr
          have br := br.trans (b12.mono br.size)
          clear f12 f11 s11 b12 b9 hG xr y0 y1 y2 x10 f10 s10
          obtain ⟨u, hu⟩ : ∃ u, Hid (u = tB c N (askedT c s) (L ++ triesL (rs s) N k x i) true) := ⟨_, rfl⟩
          have HU : Hid (∀ {w B H tv bv}, St w B H c N (askedT c s) tv bv (L ++ triesL (rs s) N k x i) true → Calls Try.prog 12 #[.pointer (some ⟨H, 0, none⟩)] w fun e w' => e = .returned (.int .i64 u) ∧ ∃ m, w' = w.drewN m) := fun h => by rw [hu.out]; exact h.truth h0 h8
          obtain ⟨z0, hz0u⟩ : ∃ z, (u == 0) = z := ⟨_, rfl⟩
          obtain ⟨z2, hz2u⟩ : ∃ z, (u == 2) = z := ⟨_, rfl⟩
          have HN2 := Lib.hid (show (no || z0) = tried c N s L k x 0 (i + 1) by rw [tried_next, ← HN.out, ← hu.out, ← hz0u, int_beq])
          have HY2 := Lib.hid (show (yes || z2) = tried c N s L k x 2 (i + 1) by rw [tried_next, ← HY.out, ← hu.out, ← hz2u, int_beq])
          clear HN HY hu
          cases no
          · go_wp2_with fail
            refine (HU.out s12).mono ?_
            rintro e w13 ⟨rfl, m13, rfl⟩
            cases yes
            · go_wp2_with fail
              refine (HU.out (s12.drewN m13)).mono ?_
              rintro e w14 ⟨rfl, m14, rfl⟩
              go_wp2
              go_roundw
              case rel => first | exact ⟨i + 1, _, _, by simp, rfl, rfl, by omega, HN2, HY2, x12, br⟩ | exact ⟨i + 1, _, _, by simp, rfl, rfl, by omega, HN2, HY2, x12, below_drewN br _⟩
              case measure => simp [intOf]; omega
            · go_wp2
              go_roundw
              case rel => first | exact ⟨i + 1, _, _, by simp, rfl, rfl, by omega, HN2, HY2, x12, br⟩ | exact ⟨i + 1, _, _, by simp, rfl, rfl, by omega, HN2, HY2, x12, below_drewN br _⟩
              case measure => simp [intOf]; omega
          · cases yes
            · go_wp2_with fail
              refine (HU.out s12).mono ?_
              rintro e w14 ⟨rfl, m14, rfl⟩
              go_wp2
              go_roundw
              case rel => first | exact ⟨i + 1, _, _, by simp, rfl, rfl, by omega, HN2, HY2, x12, br⟩ | exact ⟨i + 1, _, _, by simp, rfl, rfl, by omega, HN2, HY2, x12, below_drewN br _⟩
              case measure => simp [intOf]; omega
            · go_wp2
              go_roundw
              case rel => first | exact ⟨i + 1, _, _, by simp, rfl, rfl, by omega, HN2, HY2, x12, br⟩ | exact ⟨i + 1, _, _, by simp, rfl, rfl, by omega, HN2, HY2, x12, below_drewN br _⟩
              case measure => simp [intOf]; omega
      · obtain rfl : i = 6 := by omega
        have y0 : wr.cell? ⟨w.heap.size, 0, none⟩ = some (.int .i64 c0) := by simp [World.cell?, xr]
        have y1 : wr.cell? ⟨w.heap.size, 1, none⟩ = some (.string s) := by simp [World.cell?, xr]
        have y2 : wr.cell? ⟨w.heap.size, 2, none⟩ = some (.int .i64 n0) := by simp [World.cell?, xr]
        clear hi6 hi
        by_cases h19 : (1900 : Int) ≤ n0
        · cases no <;> cases yes
          all_goals
            go_wp2
            go_ret
            exact ⟨rfl, br⟩
        · obtain ⟨h1, h2⟩ := HE.out (by omega)
          obtain rfl : no = true := HN.out.trans h1
          obtain rfl : yes = true := HY.out.trans h2
          clear h1 h2
          go_wp2
          go_ret
          exact ⟨rfl, br⟩
  · have h2 : (t == 1) = false := beq_eq_false_iff_ne.2 ht1
    have h3 : (t != 1) = true := by simp [bne, h2]
    have HC : Hid (∀ {w B H tv bv}, St w B H c N (askedT c s) tv bv (L ++ rs more) true → Calls Try.prog 12 #[.pointer (some ⟨H, 0, none⟩)] w fun e w' => e = .returned (.int .i64 t) ∧ ∃ m, w' = w.drewN m) := fun h => by
      have := h.truth h0 h8
      rw [tB_mono (rs more) true (by rw [← hT0.out]; exact ht1), ← hT0.out] at this
      exact this
    go_wp2_with fail
    refine (HC.out s6).mono ?_
    rintro e w7 ⟨rfl, m7, rfl⟩
    go_wp2
    go_ret
    exact ⟨rfl, below_drewN b6 m7⟩
theorem huntEarly_walk (c0 : Int) (s : ByteArray) (n0 : Int) (text more : ByteArray) (w : World) (_ : (Lit.int .i64 c0).wf = true) (hs : s.size ≤ 1048576) (hn : (Lit.int .i64 n0).wf = true) (ht : text.size ≤ 1048576) (hm : more.size ≤ 1048576) :
    Calls Try.prog 6 #[.agg #[.int .i64 c0, .string s, .int .i64 n0], .string text, .string more] w fun e w' => e = .returned (.bool true) ∧ Below w.heap.size w w' :=
  huntEarlyWalk c0 n0 s text more w (by have h : -9223372036854775808 ≤ n0 ∧ n0 ≤ 9223372036854775807 := by simpa [Lit.wf, IntKind.min, IntKind.max, IntKind.signed, IntKind.bits] using hn
                                        exact h.2) hs ht hm
end Go.Proofs.Ytgajinnbmnnccaa
