/- The walk of gimletlaw03.WordsPieces. -/
import Derived.Test.YtnhhnlbfgipebaaDoorPiecesLaw
import Derived.Test.YtnhhnlbfgipebaaDoorValidP
import Derived.Test.YtnhhnlbfgipebaaDoorAwake
namespace Go.Proofs.YtnhhnlbfgipebaaDoor
open Go.RowKit Gim
set_option maxRecDepth 20000 in
set_option maxHeartbeats 16000000 in
theorem wordsPieces_walk (s t : ByteArray) (n : Int) (w : World) (hs : s.size ≤ 1048576) (ht : t.size ≤ 1048576) (_ : (Lit.int .i64 n).wf = true) (hT : U8 w) :
    Calls Tryd.prog 4 #[.string s, .string t, .int .i64 n] w fun e w' => e = .returned (.bool true) ∧ Below w.heap.size w w' := by
  have ls := rs_length s
  have lt := rs_length t
  have hl := rs_ch s
  have hu := rs_ch t
  have hvs := @valid_same s
  have cLs : ∀ wx, Calls Tryd.prog 6 #[.string s] wx fun e w' => e = .returned (.int .i64 (rs s).length) ∧ Below wx.heap.size wx w' := fun wx => wordsLength s wx (by omega)
  have cLt : ∀ wx, Calls Tryd.prog 6 #[.string t] wx fun e w' => e = .returned (.int .i64 (rs t).length) ∧ Below wx.heap.size wx w' := fun wx => wordsLength t wx (by omega)
  have cSub : ∀ (a c : Int) wx, -9223372036854775808 ≤ a → a ≤ 9223372036854775807 → -9223372036854775808 ≤ c → c ≤ 9223372036854775807 → Calls Tryd.prog 8 #[.string s, .int .i64 a, .int .i64 c] wx fun e w' => e = .returned (.string (runesBytes (subI (rs s) a c))) ∧ Below wx.heap.size wx w' := fun a c wx h1 h2 h3 h4 => sub s a c wx (by omega) h1 h2 h3 h4
  have cRs : ∀ wx, Calls Tryd.prog 12 #[.string s] wx fun e w' => e = .returned (.string (runesBytes (rs s).reverse)) ∧ Below wx.heap.size wx w' := fun wx => reverse s wx (by omega)
  have cRt : ∀ wx, Calls Tryd.prog 12 #[.string t] wx fun e w' => e = .returned (.string (runesBytes (rs t).reverse)) ∧ Below wx.heap.size wx w' := fun wx => reverse t wx (by omega)
  have cFt : ∀ wx, Calls Tryd.prog 19 #[.string s, .string t] wx fun e w' => e = .returned (.int .i64 (findI (rs s) (rs t))) ∧ Below wx.heap.size wx w' := fun wx => find s t wx (by omega) (by omega)
  have cBt : ∀ wx, Calls Tryd.prog 20 #[.string s, .string t] wx fun e w' => e = .returned (.bool (standsB (rs s) (rs t) 0)) ∧ Below wx.heap.size wx w' := fun wx => begins s t wx (by omega) (by omega)
  have cEt : ∀ wx, Calls Tryd.prog 21 #[.string s, .string t] wx fun e w' => e = .returned (.bool (endsB (rs s) (rs t))) ∧ Below wx.heap.size wx w' := fun wx => ends s t wx (by omega) (by omega)
  obtain ⟨l, hl0⟩ : ∃ l, l = rs s := ⟨_, rfl⟩
  obtain ⟨u, hu0⟩ : ∃ u, u = rs t := ⟨_, rfl⟩
  rw [← hl0] at ls hl hvs cLs cRs cFt cBt cEt
  rw [← hu0] at lt hu cLt cRt cFt cBt cEt
  simp only [← hl0] at cSub
  have hlr : ∀ r ∈ l.reverse, Ch r := fun r hr => hl r (List.mem_reverse.1 hr)
  have hur : ∀ r ∈ u.reverse, Ch r := fun r hr => hu r (List.mem_reverse.1 hr)
  have zm := runesBytes_small hl
  have zr := runesBytes_small hlr
  have zr2 := runesBytes_small hur
  rw [List.length_reverse] at zr zr2
  obtain ⟨m, hm⟩ : ∃ m, m = runesBytes l := ⟨_, rfl⟩
  obtain ⟨R1, hR1⟩ : ∃ m, m = runesBytes l.reverse := ⟨_, rfl⟩
  obtain ⟨R2, hR2⟩ : ∃ m, m = runesBytes u.reverse := ⟨_, rfl⟩
  have rm : rs m = l := by rw [hm]; exact rs_text hl
  have rR1 : rs R1 = l.reverse := by rw [hR1]; exact rs_text hlr
  have rR2 : rs R2 = u.reverse := by rw [hR2]; exact rs_text hur
  have hval : Lib.validD m.data.toList = true := by rw [hm, runesBytes_list]; exact validD_encs hl
  rw [← hm] at zm hvs
  rw [← hR1] at zr cRs
  rw [← hR2] at zr2 cRt
  have cLm : ∀ wx, Calls Tryd.prog 6 #[.string m] wx fun e w' => e = .returned (.int .i64 l.length) ∧ Below wx.heap.size wx w' := fun wx => rm ▸ wordsLength m wx (by omega)
  have cVm : ∀ wx, U8 wx → Calls Tryd.prog 18 #[.string m] wx fun e w' => e = .returned (.bool true) ∧ Below wx.heap.size wx w' := fun wx h => hval ▸ valid_calls m wx (by omega) h
  have cVs : ∀ wx, U8 wx → Calls Tryd.prog 18 #[.string s] wx fun e w' => e = .returned (.bool (Lib.validD s.data.toList)) ∧ Below wx.heap.size wx w' := fun wx h => valid_calls s wx (by omega) h
  have cRR : ∀ wx, Calls Tryd.prog 12 #[.string R1] wx fun e w' => e = .returned (.string m) ∧ Below wx.heap.size wx w' := fun wx => by
    have := reverse R1 wx (by omega)
    rw [rR1, List.reverse_reverse, ← hm] at this
    exact this
  have cCm : ∀ wx, Calls Tryd.prog 14 #[.string s, .string m] wx fun e w' => e = .returned (.int .i64 0) ∧ Below wx.heap.size wx w' := fun wx => by
    have := compare s m wx (by omega) (by omega)
    rw [rm, ← hl0, ordI_self] at this
    exact this
  have cUm : ∀ wx, Calls Tryd.prog 16 #[.string s, .string m] wx fun e w' => e = .returned (.int .i64 0) ∧ Below wx.heap.size wx w' := fun wx => by
    have := compareUnits s m wx (by omega) (by omega)
    rw [rm, ← hl0, ordI_self] at this
    exact this
  have cFm : ∀ wx, Calls Tryd.prog 19 #[.string s, .string m] wx fun e w' => e = .returned (.int .i64 0) ∧ Below wx.heap.size wx w' := fun wx => by
    have := find s m wx (by omega) (by omega)
    rw [rm, ← hl0, stands_self] at this
    exact this
  have cBR : ∀ wx, Calls Tryd.prog 20 #[.string R1, .string R2] wx fun e w' => e = .returned (.bool (endsB l u)) ∧ Below wx.heap.size wx w' := fun wx => by
    have := begins R1 R2 wx (by omega) (by omega)
    rw [rR1, rR2, ← ends_rev] at this
    exact this
  have cW : ∀ wx, Calls Tryd.prog 8 #[.string s, .int .i64 0, .int .i64 l.length] wx fun e w' => e = .returned (.string m) ∧ Below wx.heap.size wx w' := fun wx => by
    have := cSub 0 l.length wx (by omega) (by omega) (by omega) (by omega)
    rw [sub_whole, ← hm] at this
    exact this
  obtain ⟨z, hz, hcase⟩ : ∃ z : Int, (0 ≤ z ∧ z ≤ l.length) ∧ ((n < 0 ∧ z = 0) ∨ ((l.length : Int) < n ∧ z = 0) ∨ (0 ≤ n ∧ n ≤ l.length ∧ z = n)) := by
    by_cases h1 : n < 0
    · exact ⟨0, by omega, .inl ⟨h1, rfl⟩⟩
    · by_cases h2 : (l.length : Int) < n
      · exact ⟨0, by omega, .inr (.inl ⟨h2, rfl⟩)⟩
      · exact ⟨n, by omega, .inr (.inr ⟨by omega, by omega, rfl⟩)⟩
  obtain ⟨hz0, hz1⟩ := hz
  have hab : runesBytes (subI l 0 z) ++ runesBytes (subI l z l.length) = m := by
    obtain ⟨zn, rfl⟩ := Int.eq_ofNat_of_zero_le hz0
    rw [text_app, hm, sub_two l zn (by omega)]
  have cA := fun wx => cSub 0 z wx (by omega) (by omega) (by omega) (by omega)
  have cB := fun wx => cSub z l.length wx (by omega) (by omega) (by omega) (by omega)
  obtain ⟨A, hA⟩ : ∃ A, A = runesBytes (subI l 0 z) := ⟨_, rfl⟩
  obtain ⟨B, hB⟩ : ∃ B, B = runesBytes (subI l z l.length) := ⟨_, rfl⟩
  simp only [← hA] at cA
  simp only [← hB] at cB
  rw [← hA, ← hB] at hab
  have hABs : A.size + B.size ≤ 4194304 := by
    have h := congrArg ByteArray.size hab
    rw [ByteArray.size_append] at h
    omega
  have hsp := findI_spec l u
  have hst : ∀ p : Nat, standsB l u p = true → subI l p u.length = u := fun p h => stands_sub h
  have hfb : ∀ p : Nat, standsB l u p = true → 0 < p → (∀ q, q < p → standsB l u q = false) → findI (subI l 0 ((p : Int) + u.length - 1)) u = -1 := fun p h1 h2 h3 => find_before h1 h2 h3
  have hle : ∀ p : Nat, standsB l u p = true → p + u.length ≤ l.length := fun p h => (standsB_iff.1 h).1
  have hsc := fun a c => sub_ch hl a c
  have hsl := fun a c => sub_length l a c
  obtain ⟨N, hN⟩ : ∃ N, N = l.length := ⟨_, rfl⟩
  obtain ⟨K, hK⟩ : ∃ K, K = u.length := ⟨_, rfl⟩
  have HN := Lib.hid hN
  have HK := Lib.hid hK
  have HU0 := Lib.hid hu0
  have HHU := Lib.hid hu
  obtain ⟨E, hE⟩ : ∃ E, E = endsB l u := ⟨_, rfl⟩
  simp only [← hE] at cEt cBR
  rw [← hN] at ls cLs cLm cW hz1 hcase
  rw [← hK] at lt cLt
  simp only [← hN] at cB hle hsl
  simp only [← hK] at hst hfb hle
  have HSP := Lib.hid hsp
  have HST := Lib.hid hst
  have HFB := Lib.hid hfb
  have HLE := Lib.hid hle
  have HSC := Lib.hid hsc
  have HSL := Lib.hid hsl
  have HVS := Lib.hid hvs
  have HSUB := Lib.hid cSub
  have hNs : N ≤ 1048576 := by omega
  have hKs : K ≤ 1048576 := by omega
  clear hl0 hu0 hl hu hlr hur zm zr zr2 hm hR1 hR2 rm rR1 rR2 hval hA hB hN hK hE hsp hst hfb hle hsc hsl hvs cSub ls lt
  go_enter Tryd.func4, Tryd.ntmps4
  have b1 := Below.refl w.heap.size w
  go_wp2_with fail
  refine (awake _).mono ?_
  rintro e w2 ⟨rfl, k⟩
  have b2 := b1.trans (k.mono b1.size)
  clear k b1
  go_wp2_with fail
  refine (cLs _).mono ?_
  rintro e w3 ⟨rfl, k⟩
  have b3 := b2.trans (k.mono b2.size)
  clear k b2
  go_wp2_with fail
  refine (cW _).mono ?_
  rintro e w4 ⟨rfl, k⟩
  have b4 := b3.trans (k.mono b3.size)
  clear k b3
  rcases hcase with ⟨hn, hz⟩ | ⟨hn, hz⟩ | ⟨hn, hn2, hz⟩
  all_goals
    subst hz
    go_wp2_with fail
    refine (cA _).mono ?_
    rintro e w5 ⟨rfl, k⟩
    have b5 := b4.trans (k.mono b4.size)
    clear k b4
    go_wp2_with fail
    refine (cB _).mono ?_
    rintro e w6 ⟨rfl, k⟩
    have b6 := b5.trans (k.mono b5.size)
    clear k b5
    go_wp2_with fail
    refine (cLm _).mono ?_
    rintro e w7 ⟨rfl, k⟩
    have b7 := b6.trans (k.mono b6.size)
    clear k b6
    go_wp2_with fail
    refine (cVm _ (U8.below hT b7)).mono ?_
    rintro e w8 ⟨rfl, k⟩
    have b8 := b7.trans (k.mono b7.size)
    clear k b7
    go_wp2_with fail
    refine (cVs _ (U8.below hT b8)).mono ?_
    rintro e w9 ⟨rfl, k⟩
    have b9 := b8.trans (k.mono b8.size)
    clear k b8
    obtain ⟨v, hv⟩ : ∃ v, v = Lib.validD s.data.toList := ⟨_, rfl⟩
    rw [← hv]
    have HV := Lib.hid (fun (h : v = true) => HVS.out (hv ▸ h))
    clear hv HVS
    have hms : v = true → (m.toList == s.toList) = true := fun h => by rw [HV.out h]; simp
    cases v
    · clear hms
      go_wp2_with fail
      refine (cRs _).mono ?_
      rintro e w10 ⟨rfl, k⟩
      have b10 := b9.trans (k.mono b9.size)
      clear k b9
      go_wp2_with fail
      refine (cRR _).mono ?_
      rintro e w11 ⟨rfl, k⟩
      have b11 := b10.trans (k.mono b10.size)
      clear k b10
      go_wp2_with fail
      refine (cCm _).mono ?_
      rintro e w12 ⟨rfl, k⟩
      have b12 := b11.trans (k.mono b11.size)
      clear k b11
      go_wp2_with fail
      refine (cUm _).mono ?_
      rintro e w13 ⟨rfl, k⟩
      have b13 := b12.trans (k.mono b12.size)
      clear k b12
      go_wp2_with fail
      refine (cFm _).mono ?_
      rintro e w14 ⟨rfl, k⟩
      have b14 := b13.trans (k.mono b13.size)
      clear k b13
      rcases HSP.out with ⟨q, hp, hps, hpq⟩ | ⟨hp, hpq⟩
      · rw [hp] at cFt
        have h1 := HLE.out q hps
        have hT1 : subI l q K = u := HST.out q hps
        have cT1 : ∀ wx, Calls Tryd.prog 8 #[.string s, .int .i64 q, .int .i64 K] wx fun e w' => e = .returned (.string (runesBytes u)) ∧ Below wx.heap.size wx w' := fun wx => by
          have := HSUB.out q K wx (by omega) (by omega) (by omega) (by omega)
          rw [hT1] at this
          exact this
        have cT2 : ∀ wx, Calls Tryd.prog 14 #[.string (runesBytes u), .string t] wx fun e w' => e = .returned (.int .i64 0) ∧ Below wx.heap.size wx w' := fun wx => by
          have hsz := runesBytes_small HHU.out
          have := compare (runesBytes u) t wx (by have := HK.out; omega) (by omega)
          rw [rs_text HHU.out, ← HU0.out, ordI_self] at this
          exact this
        obtain ⟨T1, hT1⟩ : ∃ T, T = runesBytes u := ⟨_, rfl⟩
        simp only [← hT1] at cT1 cT2
        clear hT1
        go_wp2_with fail
        refine (cFt _).mono ?_
        rintro e w15 ⟨rfl, k⟩
        have b15 := b14.trans (k.mono b14.size)
        clear k b14
        go_wp2_with fail
        refine (cLt _).mono ?_
        rintro e w16 ⟨rfl, k⟩
        have b16 := b15.trans (k.mono b15.size)
        clear k b15
        go_wp2_with fail
        refine (cT1 _).mono ?_
        rintro e w17 ⟨rfl, k⟩
        have b17 := b16.trans (k.mono b16.size)
        clear k b16
        go_wp2_with fail
        refine (cT2 _).mono ?_
        rintro e w18 ⟨rfl, k⟩
        have b18 := b17.trans (k.mono b17.size)
        clear k b17
        by_cases hq0 : q = 0
        · subst hq0
          rw [hps] at cBt
          clear hps hpq hp HSP HST HFB HLE HSC HSL HSUB cT1 cT2 h1
          go_wp2_with fail
          refine (cBt _).mono ?_
          rintro e w19 ⟨rfl, k⟩
          have b19 := b18.trans (k.mono b18.size)
          clear k b18
          go_wp2_with fail
          refine (cEt _).mono ?_
          rintro e w20 ⟨rfl, k⟩
          have b20 := b19.trans (k.mono b19.size)
          clear k b19
          go_wp2_with fail
          refine (cRs _).mono ?_
          rintro e w21 ⟨rfl, k⟩
          have b21 := b20.trans (k.mono b20.size)
          clear k b20
          go_wp2_with fail
          refine (cRt _).mono ?_
          rintro e w22 ⟨rfl, k⟩
          have b22 := b21.trans (k.mono b21.size)
          clear k b21
          go_wp2_with fail
          refine (cBR _).mono ?_
          rintro e w23 ⟨rfl, k⟩
          have b23 := b22.trans (k.mono b22.size)
          clear k b22
          cases E
          all_goals
            go_wp2
            go_ret
            exact ⟨rfl, b23⟩
        · have hf : standsB l u 0 = false := hpq 0 (by omega)
          rw [hf] at cBt
          have hqd : ((q : Int) == 0) = false := by simp; omega
          have hfb := HFB.out q hps (by omega) hpq
          have hch := HSC.out 0 ((q : Int) + K - 1)
          have hln := HSL.out 0 ((q : Int) + K - 1)
          have cT3 : ∀ wx, Calls Tryd.prog 8 #[.string s, .int .i64 0, .int .i64 ((q : Int) + K - 1)] wx fun e w' => e = .returned (.string (runesBytes (subI l 0 ((q : Int) + K - 1)))) ∧ Below wx.heap.size wx w' := fun wx => HSUB.out 0 _ wx (by omega) (by omega) (by omega) (by omega)
          have cT4 : ∀ wx, Calls Tryd.prog 19 #[.string (runesBytes (subI l 0 ((q : Int) + K - 1))), .string t] wx fun e w' => e = .returned (.int .i64 (-1)) ∧ Below wx.heap.size wx w' := fun wx => by
            have hsz := runesBytes_small hch
            have := find (runesBytes (subI l 0 ((q : Int) + K - 1))) t wx (by omega) (by omega)
            rw [rs_text hch, ← HU0.out, hfb] at this
            exact this
          obtain ⟨T2, hT2⟩ : ∃ T, T = runesBytes (subI l 0 ((q : Int) + K - 1)) := ⟨_, rfl⟩
          simp only [← hT2] at cT3 cT4
          clear hT2 hps hpq hp HSP HST HFB HLE HSC HSL HSUB cT1 cT2 hch hln hfb hf
          go_wp2_with fail
          refine (cT3 _).mono ?_
          rintro e w19 ⟨rfl, k⟩
          have b19 := b18.trans (k.mono b18.size)
          clear k b18
          go_wp2_with fail
          refine (cT4 _).mono ?_
          rintro e w20 ⟨rfl, k⟩
          have b20 := b19.trans (k.mono b19.size)
          clear k b19
          go_wp2_with fail
          refine (cBt _).mono ?_
          rintro e w21 ⟨rfl, k⟩
          have b21 := b20.trans (k.mono b20.size)
          clear k b20
          go_wp2_with fail
          refine (cEt _).mono ?_
          rintro e w22 ⟨rfl, k⟩
          have b22 := b21.trans (k.mono b21.size)
          clear k b21
          go_wp2_with fail
          refine (cRs _).mono ?_
          rintro e w23 ⟨rfl, k⟩
          have b23 := b22.trans (k.mono b22.size)
          clear k b22
          go_wp2_with fail
          refine (cRt _).mono ?_
          rintro e w24 ⟨rfl, k⟩
          have b24 := b23.trans (k.mono b23.size)
          clear k b23
          go_wp2_with fail
          refine (cBR _).mono ?_
          rintro e w25 ⟨rfl, k⟩
          have b25 := b24.trans (k.mono b24.size)
          clear k b24
          cases E
          all_goals
            go_wp2
            go_ret
            exact ⟨rfl, b25⟩
      · rw [hp] at cFt
        rw [hpq 0] at cBt
        clear hpq hp HSP HST HFB HLE HSC HSL HSUB
        go_wp2_with fail
        refine (cFt _).mono ?_
        rintro e w15 ⟨rfl, k⟩
        have b15 := b14.trans (k.mono b14.size)
        clear k b14
        go_wp2_with fail
        refine (cLt _).mono ?_
        rintro e w16 ⟨rfl, k⟩
        have b16 := b15.trans (k.mono b15.size)
        clear k b15
        go_wp2_with fail
        refine (cBt _).mono ?_
        rintro e w17 ⟨rfl, k⟩
        have b17 := b16.trans (k.mono b16.size)
        clear k b16
        go_wp2_with fail
        refine (cEt _).mono ?_
        rintro e w18 ⟨rfl, k⟩
        have b18 := b17.trans (k.mono b17.size)
        clear k b17
        go_wp2_with fail
        refine (cRs _).mono ?_
        rintro e w19 ⟨rfl, k⟩
        have b19 := b18.trans (k.mono b18.size)
        clear k b18
        go_wp2_with fail
        refine (cRt _).mono ?_
        rintro e w20 ⟨rfl, k⟩
        have b20 := b19.trans (k.mono b19.size)
        clear k b19
        go_wp2_with fail
        refine (cBR _).mono ?_
        rintro e w21 ⟨rfl, k⟩
        have b21 := b20.trans (k.mono b20.size)
        clear k b20
        cases E
        all_goals
          go_wp2
          go_ret
          exact ⟨rfl, b21⟩
    · have hms2 := hms rfl
      clear hms
      go_wp2_with fail
      refine (cRs _).mono ?_
      rintro e w10 ⟨rfl, k⟩
      have b10 := b9.trans (k.mono b9.size)
      clear k b9
      go_wp2_with fail
      refine (cRR _).mono ?_
      rintro e w11 ⟨rfl, k⟩
      have b11 := b10.trans (k.mono b10.size)
      clear k b10
      go_wp2_with fail
      refine (cCm _).mono ?_
      rintro e w12 ⟨rfl, k⟩
      have b12 := b11.trans (k.mono b11.size)
      clear k b11
      go_wp2_with fail
      refine (cUm _).mono ?_
      rintro e w13 ⟨rfl, k⟩
      have b13 := b12.trans (k.mono b12.size)
      clear k b12
      go_wp2_with fail
      refine (cFm _).mono ?_
      rintro e w14 ⟨rfl, k⟩
      have b14 := b13.trans (k.mono b13.size)
      clear k b13
      rcases HSP.out with ⟨q, hp, hps, hpq⟩ | ⟨hp, hpq⟩
      · rw [hp] at cFt
        have h1 := HLE.out q hps
        have hT1 : subI l q K = u := HST.out q hps
        have cT1 : ∀ wx, Calls Tryd.prog 8 #[.string s, .int .i64 q, .int .i64 K] wx fun e w' => e = .returned (.string (runesBytes u)) ∧ Below wx.heap.size wx w' := fun wx => by
          have := HSUB.out q K wx (by omega) (by omega) (by omega) (by omega)
          rw [hT1] at this
          exact this
        have cT2 : ∀ wx, Calls Tryd.prog 14 #[.string (runesBytes u), .string t] wx fun e w' => e = .returned (.int .i64 0) ∧ Below wx.heap.size wx w' := fun wx => by
          have hsz := runesBytes_small HHU.out
          have := compare (runesBytes u) t wx (by have := HK.out; omega) (by omega)
          rw [rs_text HHU.out, ← HU0.out, ordI_self] at this
          exact this
        obtain ⟨T1, hT1⟩ : ∃ T, T = runesBytes u := ⟨_, rfl⟩
        simp only [← hT1] at cT1 cT2
        clear hT1
        go_wp2_with fail
        refine (cFt _).mono ?_
        rintro e w15 ⟨rfl, k⟩
        have b15 := b14.trans (k.mono b14.size)
        clear k b14
        go_wp2_with fail
        refine (cLt _).mono ?_
        rintro e w16 ⟨rfl, k⟩
        have b16 := b15.trans (k.mono b15.size)
        clear k b15
        go_wp2_with fail
        refine (cT1 _).mono ?_
        rintro e w17 ⟨rfl, k⟩
        have b17 := b16.trans (k.mono b16.size)
        clear k b16
        go_wp2_with fail
        refine (cT2 _).mono ?_
        rintro e w18 ⟨rfl, k⟩
        have b18 := b17.trans (k.mono b17.size)
        clear k b17
        by_cases hq0 : q = 0
        · subst hq0
          rw [hps] at cBt
          clear hps hpq hp HSP HST HFB HLE HSC HSL HSUB cT1 cT2 h1
          go_wp2_with fail
          refine (cBt _).mono ?_
          rintro e w19 ⟨rfl, k⟩
          have b19 := b18.trans (k.mono b18.size)
          clear k b18
          go_wp2_with fail
          refine (cEt _).mono ?_
          rintro e w20 ⟨rfl, k⟩
          have b20 := b19.trans (k.mono b19.size)
          clear k b19
          go_wp2_with fail
          refine (cRs _).mono ?_
          rintro e w21 ⟨rfl, k⟩
          have b21 := b20.trans (k.mono b20.size)
          clear k b20
          go_wp2_with fail
          refine (cRt _).mono ?_
          rintro e w22 ⟨rfl, k⟩
          have b22 := b21.trans (k.mono b21.size)
          clear k b21
          go_wp2_with fail
          refine (cBR _).mono ?_
          rintro e w23 ⟨rfl, k⟩
          have b23 := b22.trans (k.mono b22.size)
          clear k b22
          cases E
          all_goals
            go_wp2
            go_ret
            exact ⟨rfl, b23⟩
        · have hf : standsB l u 0 = false := hpq 0 (by omega)
          rw [hf] at cBt
          have hqd : ((q : Int) == 0) = false := by simp; omega
          have hfb := HFB.out q hps (by omega) hpq
          have hch := HSC.out 0 ((q : Int) + K - 1)
          have hln := HSL.out 0 ((q : Int) + K - 1)
          have cT3 : ∀ wx, Calls Tryd.prog 8 #[.string s, .int .i64 0, .int .i64 ((q : Int) + K - 1)] wx fun e w' => e = .returned (.string (runesBytes (subI l 0 ((q : Int) + K - 1)))) ∧ Below wx.heap.size wx w' := fun wx => HSUB.out 0 _ wx (by omega) (by omega) (by omega) (by omega)
          have cT4 : ∀ wx, Calls Tryd.prog 19 #[.string (runesBytes (subI l 0 ((q : Int) + K - 1))), .string t] wx fun e w' => e = .returned (.int .i64 (-1)) ∧ Below wx.heap.size wx w' := fun wx => by
            have hsz := runesBytes_small hch
            have := find (runesBytes (subI l 0 ((q : Int) + K - 1))) t wx (by omega) (by omega)
            rw [rs_text hch, ← HU0.out, hfb] at this
            exact this
          obtain ⟨T2, hT2⟩ : ∃ T, T = runesBytes (subI l 0 ((q : Int) + K - 1)) := ⟨_, rfl⟩
          simp only [← hT2] at cT3 cT4
          clear hT2 hps hpq hp HSP HST HFB HLE HSC HSL HSUB cT1 cT2 hch hln hfb hf
          go_wp2_with fail
          refine (cT3 _).mono ?_
          rintro e w19 ⟨rfl, k⟩
          have b19 := b18.trans (k.mono b18.size)
          clear k b18
          go_wp2_with fail
          refine (cT4 _).mono ?_
          rintro e w20 ⟨rfl, k⟩
          have b20 := b19.trans (k.mono b19.size)
          clear k b19
          go_wp2_with fail
          refine (cBt _).mono ?_
          rintro e w21 ⟨rfl, k⟩
          have b21 := b20.trans (k.mono b20.size)
          clear k b20
          go_wp2_with fail
          refine (cEt _).mono ?_
          rintro e w22 ⟨rfl, k⟩
          have b22 := b21.trans (k.mono b21.size)
          clear k b21
          go_wp2_with fail
          refine (cRs _).mono ?_
          rintro e w23 ⟨rfl, k⟩
          have b23 := b22.trans (k.mono b22.size)
          clear k b22
          go_wp2_with fail
          refine (cRt _).mono ?_
          rintro e w24 ⟨rfl, k⟩
          have b24 := b23.trans (k.mono b23.size)
          clear k b23
          go_wp2_with fail
          refine (cBR _).mono ?_
          rintro e w25 ⟨rfl, k⟩
          have b25 := b24.trans (k.mono b24.size)
          clear k b24
          cases E
          all_goals
            go_wp2
            go_ret
            exact ⟨rfl, b25⟩
      · rw [hp] at cFt
        rw [hpq 0] at cBt
        clear hpq hp HSP HST HFB HLE HSC HSL HSUB
        go_wp2_with fail
        refine (cFt _).mono ?_
        rintro e w15 ⟨rfl, k⟩
        have b15 := b14.trans (k.mono b14.size)
        clear k b14
        go_wp2_with fail
        refine (cLt _).mono ?_
        rintro e w16 ⟨rfl, k⟩
        have b16 := b15.trans (k.mono b15.size)
        clear k b15
        go_wp2_with fail
        refine (cBt _).mono ?_
        rintro e w17 ⟨rfl, k⟩
        have b17 := b16.trans (k.mono b16.size)
        clear k b16
        go_wp2_with fail
        refine (cEt _).mono ?_
        rintro e w18 ⟨rfl, k⟩
        have b18 := b17.trans (k.mono b17.size)
        clear k b17
        go_wp2_with fail
        refine (cRs _).mono ?_
        rintro e w19 ⟨rfl, k⟩
        have b19 := b18.trans (k.mono b18.size)
        clear k b18
        go_wp2_with fail
        refine (cRt _).mono ?_
        rintro e w20 ⟨rfl, k⟩
        have b20 := b19.trans (k.mono b19.size)
        clear k b19
        go_wp2_with fail
        refine (cBR _).mono ?_
        rintro e w21 ⟨rfl, k⟩
        have b21 := b20.trans (k.mono b20.size)
        clear k b20
        cases E
        all_goals
          go_wp2
          go_ret
          exact ⟨rfl, b21⟩
end Go.Proofs.YtnhhnlbfgipebaaDoor
