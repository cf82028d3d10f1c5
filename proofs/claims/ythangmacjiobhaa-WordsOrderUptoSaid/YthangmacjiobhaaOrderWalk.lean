/- The walk of gimletlaw03.WordsOrder. -/
import Derived.Test.YthangmacjiobhaaAwake
import Derived.Test.YthangmacjiobhaaByteOrd
namespace Gim
open Go
theorem subI_all (l : List Int) : subI l 0 (l.length : Nat) = l := by
  unfold subI
  by_cases h : (l.length : Int) ≤ 0
  · rw [if_pos h, List.eq_nil_of_length_eq_zero (l := l) (by omega)]
  · rw [if_neg h, if_neg (by omega)]; simp
end Gim
namespace Go.Proofs.Ythangmacjiobhaa
open Go.RowKit Gim

set_option maxRecDepth 100000 in
set_option maxHeartbeats 1000000 in
theorem wordsOrderWalk (s t : ByteArray) (w : World) (hs : s.size ≤ 1048576) (ht : t.size ≤ 1048576) :
    Calls Try.prog 6 #[.string s, .string t] w fun e w' => e = .returned (.bool true) ∧ Below w.heap.size w w' := by
  have ls := rs_length s
  have lt := rs_length t
  obtain ⟨l, hl⟩ : ∃ l, Hid (l = rs s) := ⟨_, rfl⟩
  obtain ⟨m, hm⟩ : ∃ m, Hid (m = rs t) := ⟨_, rfl⟩
  obtain ⟨nl, hnl⟩ : ∃ n, Hid (n = (rs s).length) := ⟨_, rfl⟩
  obtain ⟨nm, hnm⟩ : ∃ n, Hid (n = (rs t).length) := ⟨_, rfl⟩
  rw [← hnl.out] at ls
  rw [← hnm.out] at lt
  have cl : ∀ r ∈ l, Ch r := by rw [hl.out]; exact rs_ch s
  have cm : ∀ r ∈ m, Ch r := by rw [hm.out]; exact rs_ch t
  have CL := Lib.hid cl
  have CM := Lib.hid cm
  clear cl cm
  obtain ⟨c, hc⟩ : ∃ c, Hid (c = ordI l m) := ⟨_, rfl⟩
  obtain ⟨u, hu⟩ : ∃ u, Hid (u = ordI (unI l) (unI m)) := ⟨_, rfl⟩
  have hcr := ordI_range l m
  have hur := ordI_range (unI l) (unI m)
  rw [← hc.out] at hcr
  rw [← hu.out] at hur
  obtain ⟨hc1, hc2⟩ := hcr
  obtain ⟨hu1, hu2⟩ := hur
  have hcu : Hid (c = 0 ↔ u = 0) := by
    show c = 0 ↔ u = 0
    rw [hc.out, hu.out, unI_zero CL.out CM.out, ordI_zero_iff]
  obtain ⟨A, hA⟩ : ∃ A, Hid (A = runesBytes l) := ⟨_, rfl⟩
  obtain ⟨B, hB⟩ : ∃ B, Hid (B = runesBytes m) := ⟨_, rfl⟩
  have hlt : Op.bytesLess A.toList B.toList = decide (c < 0) := by rw [hA.out, hB.out, runesBytes_less CL.out CM.out, hc.out]
  have heq : (A.toList == B.toList) = (c == 0) := by rw [hA.out, hB.out, runesBytes_eq CL.out CM.out, hc.out]
  have HLT := Lib.hid hlt
  have HEQ := Lib.hid heq
  clear hlt heq
  have k1 : Hid (∀ w, Calls Try.prog 24 #[.string s, .string t] w fun e w' => e = .returned (.int .i64 c) ∧ Below w.heap.size w w') := fun w => by
    have := compare s t w (by omega) (by omega); rwa [← hl.out, ← hm.out, ← hc.out] at this
  have k2 : Hid (∀ w, Calls Try.prog 25 #[.string s, .string t] w fun e w' => e = .returned (.int .i64 u) ∧ Below w.heap.size w w') := fun w => by
    have := compareUnits s t w (by omega) (by omega); rwa [← hl.out, ← hm.out, ← hu.out] at this
  have k3 : Hid (∀ w, Calls Try.prog 24 #[.string t, .string s] w fun e w' => e = .returned (.int .i64 (-c)) ∧ Below w.heap.size w w') := fun w => by
    have := compare t s w (by omega) (by omega); rwa [← hl.out, ← hm.out, ordI_neg, ← hc.out] at this
  have k4 : Hid (∀ w, Calls Try.prog 25 #[.string t, .string s] w fun e w' => e = .returned (.int .i64 (-u)) ∧ Below w.heap.size w w') := fun w => by
    have := compareUnits t s w (by omega) (by omega); rwa [← hl.out, ← hm.out, ordI_neg, ← hu.out] at this
  have k5 : Hid (∀ w, Calls Try.prog 27 #[.string s] w fun e w' => e = .returned (.int .i64 nl) ∧ Below w.heap.size w w') := fun w => by
    have := wordsLength s w (by omega); rwa [← hnl.out] at this
  have k6 : Hid (∀ w, Calls Try.prog 27 #[.string t] w fun e w' => e = .returned (.int .i64 nm) ∧ Below w.heap.size w w') := fun w => by
    have := wordsLength t w (by omega); rwa [← hnm.out] at this
  have k7 : Hid (∀ w, Calls Try.prog 26 #[.string s, .int .i64 0, .int .i64 nl] w fun e w' => e = .returned (.string A) ∧ Below w.heap.size w w') := fun w => by
    have := sub s 0 nl w (by omega) (by omega) (by omega) (by omega) (by omega); rwa [hnl.out, subI_all, ← hl.out, ← hA.out, hl.out, ← hnl.out] at this
  have k8 : Hid (∀ w, Calls Try.prog 26 #[.string t, .int .i64 0, .int .i64 nm] w fun e w' => e = .returned (.string B) ∧ Below w.heap.size w w') := fun w => by
    have := sub t 0 nm w (by omega) (by omega) (by omega) (by omega) (by omega); rwa [hnm.out, subI_all, ← hm.out, ← hB.out, hm.out, ← hnm.out] at this
  go_enter Try.func6, Try.ntmps6
  go_wp2_with fail
  refine (awake _).mono ?_
  rintro e w1 ⟨rfl, h1⟩
  go_wp2_with fail
  refine (k1.out _).mono ?_
  rintro e w2 ⟨rfl, b2⟩
  have h2 := h1.trans (b2.mono h1.size)
  go_wp2_with fail
  refine (k2.out _).mono ?_
  rintro e w3 ⟨rfl, b3⟩
  have h3 := h2.trans (b3.mono h2.size)
  go_wp2_with fail
  refine (k3.out _).mono ?_
  rintro e w4 ⟨rfl, b4⟩
  have h4 := h3.trans (b4.mono h3.size)
  clear h1 h2 h3 b2 b3 b4
  go_wp2_with fail
  refine (k4.out _).mono ?_
  rintro e w5 ⟨rfl, b5⟩
  have h5 := h4.trans (b5.mono h4.size)
  clear h4 b5
  have hcu0 : (c = 0 ∧ u = 0) ∨ (c ≠ 0 ∧ u ≠ 0) := by
    by_cases h : c = 0
    · exact .inl ⟨h, hcu.out.1 h⟩
    · exact .inr ⟨h, fun x => h (hcu.out.2 x)⟩
  have hgt : ∀ k, k < nl → k < nm → gt l k ≠ gt m k → (∀ j, j < k → gt l j = gt m j) → (c != u) = decide (parts (gt l k) (gt m k)) := fun k a b h1 h2 => by
    rw [hc.out, hu.out]
    exact both_differ CL.out CM.out (by rw [hl.out, ← hnl.out]; exact a) (by rw [hm.out, ← hnm.out]; exact b) h2 h1
  have hsm : (∀ j, j < nl → j < nm → gt l j = gt m j) → c = u := fun h => by
    rw [hc.out, hu.out]
    exact both_same fun j a b => h j (by rw [hl.out, ← hnl.out] at a; exact a) (by rw [hm.out, ← hnm.out] at b; exact b)
  have HGT := Lib.hid hgt
  have HSM := Lib.hid hsm
  clear hgt hsm
  have heq : (A.toList == B.toList) = (c == 0) := HEQ.out
  have hless : Op.bytesLess A.toList B.toList = decide (c < 0) := HLT.out
  have hsame : Hid (c = 0 → ∀ k, k < nl → k < nm → gt l k = gt m k) := fun h k _ _ => by
    have : l = m := ordI_zero (by rw [← hc.out]; exact h)
    rw [this]
  rcases hcu0 with ⟨rfl, rfl⟩ | ⟨hc0, hu0⟩
  · simp only [beq_self_eq_true] at heq
    simp only [Int.lt_irrefl, decide_false] at hless
    have hcb : ((0 : Int) == 0) = true := rfl
    have hub : ((0 : Int) == 0) = true := rfl
    go_wp2_with fail
    refine (k5.out _).mono ?_
    rintro e w6 ⟨rfl, b6⟩
    have h6 := h5.trans (b6.mono h5.size)
    go_wp2_with fail
    refine (k7.out _).mono ?_
    rintro e w7 ⟨rfl, b7⟩
    have h7 := h6.trans (b7.mono h6.size)
    go_wp2_with fail
    refine (k6.out _).mono ?_
    rintro e w8 ⟨rfl, b8⟩
    have h8 := h7.trans (b8.mono h7.size)
    go_wp2_with fail
    refine (k8.out _).mono ?_
    rintro e w9 ⟨rfl, b9⟩
    have h9 := h8.trans (b9.mono h8.size)
    have z9 := h9.size
    clear b6 b7 b8 b9 h5 h6 h7 h8
    go_wp2_with (first
      | (with_reducible refine wpList_convRunes _ rfl (.tmp 81) 9 33 21 rfl s rfl Try.underlying9 Try.underlying33 Try.underlying21 (by omega) ?_; intro v10 w10 r10 g10)
      | (with_reducible refine wpList_convRunes _ rfl (.tmp 83) 9 33 21 rfl t rfl Try.underlying9 Try.underlying33 Try.underlying21 (by omega) ?_; intro v11 w11 r11 g11))
    clear heq hless
    obtain ⟨a10, c10, rfl, rd10⟩ := r10.rd
    obtain ⟨a11, c11, rfl, rd11⟩ := r11.rd
    rw [← hnl.out] at rd10 ⊢
    rw [← hl.out] at rd10
    rw [← hnm.out] at rd11 ⊢
    rw [← hm.out] at rd11
    have b10 : Below w9.heap.size w9 w10 := (Below.refl _ _).grown g10 (Nat.le_refl _) (fun k hk => by cases hk)
    have b11 : Below w10.heap.size w10 w11 := (Below.refl _ _).grown g11 (Nat.le_refl _) (fun k hk => by cases hk)
    have rd10' := rd10.below b11
    have h11 := h9.trans ((b10.trans (b11.mono b10.size)).mono h9.size)
    clear r10 r11 g10 g11 b10 b11 rd10 h9
    go_loopw [11] (fun v wr => ∃ k : Nat, v = .int .i64 k ∧ k ≤ nl ∧ k ≤ nm ∧ Hid (∀ j, j < k → gt l j = gt m j) ∧ Drew w11 wr) (fun v _ => nl - (intOf v).toNat)
    case atStart => exact ⟨0, rfl, by omega, by omega, fun j hj => by omega, Drew.refl _⟩
    case round =>
      obtain ⟨k, rfl, hk1, hk2, HE, hd⟩ := hrel
      by_cases hk : k < nl ∧ k < nm
      · obtain ⟨hkl, hkm⟩ := hk
        obtain ⟨ba, oa, rfl, hba, hca⟩ := (rd10'.below (hd.below _)).cell 0 (by omega)
        obtain ⟨bb, ob, rfl, hbb, hcb'⟩ := (rd11.below (hd.below _)).cell 0 (by omega)
        have hx := hca k hkl
        have hy := hcb' k hkm
        clear hca hcb'
        by_cases heq : gt l k = gt m k
        · have he : (gt l k != gt m k) = false := by simpa using heq
          clear heq
          go_wp2
          go_quiet (fail)
          go_wp2
          go_roundw
          case rel => exact ⟨k + 1, by go_num, by omega, by omega, fun j hj => by
            by_cases hjk : j < k
            · exact HE.out j hjk
            · obtain rfl : j = k := by omega
              simpa using he, hd.drewN _⟩
          case measure => simp [intOf]; omega
        · exact absurd (hsame.out (by trivial) k hkl hkm) heq
      · have hend : ∀ q, ¬ (q < nl ∧ q < nm) → True := fun _ _ => trivial
        clear hend
        have HCU := Lib.hid (HSM.out fun j a b => HE.out j (by omega))
        by_cases hkl : k < nl
        · have hkm : ¬ k < nm := by omega
          go_wp2
          go_ret
          exact ⟨rfl, h11.trans ((hd.below _).mono h11.size)⟩
        · go_wp2
          go_ret
          exact ⟨rfl, h11.trans ((hd.below _).mono h11.size)⟩
  · have hcb : (c == 0) = false := by simpa using hc0
    have hub : (u == 0) = false := by simpa using hu0
    clear hc0 hu0
    rw [hcb] at heq
    go_wp2_with fail
    refine (k5.out _).mono ?_
    rintro e w6 ⟨rfl, b6⟩
    have h6 := h5.trans (b6.mono h5.size)
    go_wp2_with fail
    refine (k7.out _).mono ?_
    rintro e w7 ⟨rfl, b7⟩
    have h7 := h6.trans (b7.mono h6.size)
    go_wp2_with fail
    refine (k6.out _).mono ?_
    rintro e w8 ⟨rfl, b8⟩
    have h8 := h7.trans (b8.mono h7.size)
    go_wp2_with fail
    refine (k8.out _).mono ?_
    rintro e w9 ⟨rfl, b9⟩
    have h9 := h8.trans (b9.mono h8.size)
    have z9 := h9.size
    clear b6 b7 b8 b9 h5 h6 h7 h8
    go_wp2_with (first
      | (with_reducible refine wpList_convRunes _ rfl (.tmp 81) 9 33 21 rfl s rfl Try.underlying9 Try.underlying33 Try.underlying21 (by omega) ?_; intro v10 w10 r10 g10)
      | (with_reducible refine wpList_convRunes _ rfl (.tmp 83) 9 33 21 rfl t rfl Try.underlying9 Try.underlying33 Try.underlying21 (by omega) ?_; intro v11 w11 r11 g11))
    clear heq hless
    obtain ⟨a10, c10, rfl, rd10⟩ := r10.rd
    obtain ⟨a11, c11, rfl, rd11⟩ := r11.rd
    rw [← hnl.out] at rd10 ⊢
    rw [← hl.out] at rd10
    rw [← hnm.out] at rd11 ⊢
    rw [← hm.out] at rd11
    have b10 : Below w9.heap.size w9 w10 := (Below.refl _ _).grown g10 (Nat.le_refl _) (fun k hk => by cases hk)
    have b11 : Below w10.heap.size w10 w11 := (Below.refl _ _).grown g11 (Nat.le_refl _) (fun k hk => by cases hk)
    have rd10' := rd10.below b11
    have h11 := h9.trans ((b10.trans (b11.mono b10.size)).mono h9.size)
    clear r10 r11 g10 g11 b10 b11 rd10 h9
    go_loopw [11] (fun v wr => ∃ k : Nat, v = .int .i64 k ∧ k ≤ nl ∧ k ≤ nm ∧ Hid (∀ j, j < k → gt l j = gt m j) ∧ Drew w11 wr) (fun v _ => nl - (intOf v).toNat)
    case atStart => exact ⟨0, rfl, by omega, by omega, fun j hj => by omega, Drew.refl _⟩
    case round =>
      obtain ⟨k, rfl, hk1, hk2, HE, hd⟩ := hrel
      by_cases hk : k < nl ∧ k < nm
      · obtain ⟨hkl, hkm⟩ := hk
        obtain ⟨ba, oa, rfl, hba, hca⟩ := (rd10'.below (hd.below _)).cell 0 (by omega)
        obtain ⟨bb, ob, rfl, hbb, hcb'⟩ := (rd11.below (hd.below _)).cell 0 (by omega)
        have hx := hca k hkl
        have hy := hcb' k hkm
        clear hca hcb'
        by_cases heq : gt l k = gt m k
        · have he : (gt l k != gt m k) = false := by simpa using heq
          clear heq
          go_wp2
          go_quiet (fail)
          go_wp2
          go_roundw
          case rel => exact ⟨k + 1, by go_num, by omega, by omega, fun j hj => by
            by_cases hjk : j < k
            · exact HE.out j hjk
            · obtain rfl : j = k := by omega
              simpa using he, hd.drewN _⟩
          case measure => simp [intOf]; omega
        · have he : (gt l k != gt m k) = true := by simpa using heq
          have HG := Lib.hid (HGT.out k hkl hkm heq HE.out)
          rcases Int.lt_trichotomy (gt l k) (gt m k) with hlt | hlt | hlt
          · have HP := Lib.hid (parts_lt hlt)
            clear heq
            cases hcu2 : (c != u)
            all_goals
              go_wp2
              go_quiet (fail)
              go_wp2
              go_quiet (fail)
              go_wp2
              go_quiet (fail)
              go_wp2
              all_goals go_ret
              all_goals refine ⟨?_, h11.trans (((hd.drewN _).below _).mono h11.size)⟩
              all_goals refine congrArg (fun b => Ending.returned (Value.bool b)) ?_
              all_goals first | rfl | (have e3 := HG.out.symm; rw [hcu2] at e3; simp only [decide_eq_true_eq, decide_eq_false_iff_not] at e3; rw [HP.out] at e3; first | rfl | (simp only [Bool.not_eq_true', decide_eq_true_eq, decide_eq_false_iff_not]; omega) | (simp; omega) | (simp only [Bool.beq_true, Bool.beq_false]; omega))
          · exact absurd hlt heq
          · have HP := Lib.hid ((parts_comm _ _).trans (parts_lt hlt))
            clear heq
            cases hcu2 : (c != u)
            all_goals
              go_wp2
              go_quiet (fail)
              go_wp2
              go_quiet (fail)
              go_wp2
              go_quiet (fail)
              go_wp2
              all_goals go_ret
              all_goals refine ⟨?_, h11.trans (((hd.drewN _).below _).mono h11.size)⟩
              all_goals refine congrArg (fun b => Ending.returned (Value.bool b)) ?_
              all_goals first | rfl | (have e3 := HG.out.symm; rw [hcu2] at e3; simp only [decide_eq_true_eq, decide_eq_false_iff_not] at e3; rw [HP.out] at e3; first | rfl | (simp only [Bool.not_eq_true', decide_eq_true_eq, decide_eq_false_iff_not]; omega) | (simp; omega) | (simp only [Bool.beq_true, Bool.beq_false]; omega))
      · have hend : ∀ q, ¬ (q < nl ∧ q < nm) → True := fun _ _ => trivial
        clear hend
        have HCU := Lib.hid (HSM.out fun j a b => HE.out j (by omega))
        by_cases hkl : k < nl
        · have hkm : ¬ k < nm := by omega
          go_wp2
          go_ret
          exact ⟨by rw [HCU.out]; simp, h11.trans ((hd.below _).mono h11.size)⟩
        · go_wp2
          go_ret
          exact ⟨by rw [HCU.out]; simp, h11.trans ((hd.below _).mono h11.size)⟩
end Go.Proofs.Ythangmacjiobhaa
