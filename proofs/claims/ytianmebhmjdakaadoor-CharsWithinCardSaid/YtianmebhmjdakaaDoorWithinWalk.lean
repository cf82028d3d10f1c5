/- The walks of runes.Join and gimletlaw02.CharsWithin. -/
import Derived.Test.YtianmebhmjdakaaDoorNames
import Derived.Test.YtianmebhmjdakaaDoorWithinLaw
namespace Go.Proofs.YtianmebhmjdakaaDoor
open Go.RowKit Gim
-- gimlet/runes.Join
theorem join_calls (w : World) (ao : Option Addr) (n cap : Nat) (xs : List Int) (h : Rd w .i32 ao n cap xs) :
    Calls Tryd.prog 22 #[.slice ao n cap] w fun e w' => e = .returned (.string (runesBytes xs)) ∧ Drew w w' := by
  have hc := h.conv (P := Tryd.prog) (src := 35) (dst := 9) Tryd.underlying35 Tryd.underlying21 Tryd.underlying9
  go_enter Tryd.func22, Tryd.ntmps22
  go_wp2
  go_ret
  exact ⟨rfl, Drew.refl _⟩
theorem rd_one (w : World) (r : Int) (t : TypeId) : Rd (w.alloc (.cells #[.int .i32 r] t)) .i32 (some ⟨w.heap.size, 0, none⟩) 1 1 [r] :=
  ⟨rfl, Nat.le_refl _, by unfold maxLen; omega, fun j hj => ⟨_, _, rfl, by simp, fun i hi => by
    obtain rfl : i = 0 := by omega
    simp [gt]⟩⟩

set_option maxHeartbeats 4000000 in
theorem within0 (r : Int) (w : World) (hT : Laid w)  (hst : isF (cls 2) r = false) (hre : isF (cls 3) r = false) (hal : isF (cls 0) r = false) (hdi : isF (cls 4) r = false) (hhe : isF (cls 5) r = false) (hbl : isF (cls 1) r = false) :
    Calls Tryd.prog 7 #[.int .i32 r] w fun e w' => e = .returned (.bool true) ∧ Below w.heap.size w w' := by
  have kst := Lib.hid hst
  clear hst
  have kre := Lib.hid hre
  clear hre
  have kal := Lib.hid hal
  clear hal
  have kdi := Lib.hid hdi
  clear hdi
  have khe := Lib.hid hhe
  clear hhe
  have kbl := Lib.hid hbl
  clear hbl
  go_enter Tryd.func7, Tryd.ntmps7
  go_wp2_with fail
  refine (fixed_calls w hT).mono ?_
  rintro e w1 ⟨rfl, b1⟩
  have hT1 := hT.below b1
  go_wp2_with fail
  have cN := is_calls w1 2 r hT1.tab
  rw [kst.out] at cN
  refine cN.mono ?_
  clear cN
  rintro e w2 ⟨rfl, hb2⟩
  have b2 := b1.trans (hb2.mono b1.size)
  have hT2 := hT1.below hb2
  go_wp2_with fail
  have cN := is_calls w2 3 r hT2.tab
  rw [kre.out] at cN
  refine cN.mono ?_
  clear cN
  rintro e w3 ⟨rfl, hb3⟩
  have b3 := b2.trans (hb3.mono b2.size)
  have hT3 := hT2.below hb3
  go_wp2_with fail
  have cN := is_calls w3 0 r hT3.tab
  rw [kal.out] at cN
  refine cN.mono ?_
  clear cN
  rintro e w4 ⟨rfl, hb4⟩
  have b4 := b3.trans (hb4.mono b3.size)
  have hT4 := hT3.below hb4
  go_wp2_with fail
  have cN := is_calls w4 4 r hT4.tab
  rw [kdi.out] at cN
  refine cN.mono ?_
  clear cN
  rintro e w5 ⟨rfl, hb5⟩
  have b5 := b4.trans (hb5.mono b4.size)
  have hT5 := hT4.below hb5
  go_wp2_with fail
  have cN := is_calls w5 5 r hT5.tab
  rw [khe.out] at cN
  refine cN.mono ?_
  clear cN
  rintro e w6 ⟨rfl, hb6⟩
  have b6 := b5.trans (hb6.mono b5.size)
  have hT6 := hT5.below hb6
  go_wp2_with fail
  have cN := is_calls w6 1 r hT6.tab
  rw [kbl.out] at cN
  refine cN.mono ?_
  clear cN
  rintro e w7 ⟨rfl, hb7⟩
  have b7 := b6.trans (hb7.mono b6.size)
  have hT7 := hT6.below hb7
  go_wp2_with fail
  all_goals refine (join_calls _ _ _ _ _ (rd_one w7 r _)).mono ?_
  all_goals rintro e w8 ⟨rfl, hb8⟩
  all_goals go_wp2
  all_goals go_ret
  all_goals exact ⟨rfl, (b7.alloc b7.size _).trans (hb8.below _)⟩
set_option maxHeartbeats 4000000 in
theorem within1a (r : Int) (w : World) (hT : Laid w) (hlo : r < 55296) (hst : isF (cls 2) r = false) (hre : isF (cls 3) r = false) (hal : isF (cls 0) r = true) (hdi : isF (cls 4) r = false) (hhe : isF (cls 5) r = false) (hbl : isF (cls 1) r = false) :
    Calls Tryd.prog 7 #[.int .i32 r] w fun e w' => e = .returned (.bool true) ∧ Below w.heap.size w w' := by
  have kst := Lib.hid hst
  clear hst
  have kre := Lib.hid hre
  clear hre
  have kal := Lib.hid hal
  clear hal
  have kdi := Lib.hid hdi
  clear hdi
  have khe := Lib.hid hhe
  clear hhe
  have kbl := Lib.hid hbl
  clear hbl
  have hc := Lib.hid (allowed_ch kal.out)
  have hs1 := Lib.hid (one_size hc.out)
  have hs2 := Lib.hid (two_size hc.out)
  have hz1 : (⟨#[97]⟩ : ByteArray).size + (runesBytes [r]).size ≤ 9223372036854775807 := by have := hs1.out.2; have e : (⟨#[97]⟩ : ByteArray).size = 1 := rfl; omega
  have hz2 : 1 + (runesBytes [r]).size ≤ 9223372036854775807 := by have := hs1.out.2; omega
  have h0 : ¬ r < 0 := by have := hc.out; unfold Ch at this; omega
  have h1 : ¬ 1114111 < r := by have := hc.out; unfold Ch at this; omega
  go_enter Tryd.func7, Tryd.ntmps7
  go_wp2_with fail
  refine (fixed_calls w hT).mono ?_
  rintro e w1 ⟨rfl, b1⟩
  have hT1 := hT.below b1
  go_wp2_with fail
  have cN := is_calls w1 2 r hT1.tab
  rw [kst.out] at cN
  refine cN.mono ?_
  clear cN
  rintro e w2 ⟨rfl, hb2⟩
  have b2 := b1.trans (hb2.mono b1.size)
  have hT2 := hT1.below hb2
  go_wp2_with fail
  have cN := is_calls w2 3 r hT2.tab
  rw [kre.out] at cN
  refine cN.mono ?_
  clear cN
  rintro e w3 ⟨rfl, hb3⟩
  have b3 := b2.trans (hb3.mono b2.size)
  have hT3 := hT2.below hb3
  go_wp2_with fail
  have cN := is_calls w3 0 r hT3.tab
  rw [kal.out] at cN
  refine cN.mono ?_
  clear cN
  rintro e w4 ⟨rfl, hb4⟩
  have b4 := b3.trans (hb4.mono b3.size)
  have hT4 := hT3.below hb4
  go_wp2_with fail
  have cN := is_calls w4 4 r hT4.tab
  rw [kdi.out] at cN
  refine cN.mono ?_
  clear cN
  rintro e w5 ⟨rfl, hb5⟩
  have b5 := b4.trans (hb5.mono b4.size)
  have hT5 := hT4.below hb5
  go_wp2_with fail
  have cN := is_calls w5 5 r hT5.tab
  rw [khe.out] at cN
  refine cN.mono ?_
  clear cN
  rintro e w6 ⟨rfl, hb6⟩
  have b6 := b5.trans (hb6.mono b5.size)
  have hT6 := hT5.below hb6
  go_wp2_with fail
  have cN := is_calls w6 1 r hT6.tab
  rw [kbl.out] at cN
  refine cN.mono ?_
  clear cN
  rintro e w7 ⟨rfl, hb7⟩
  have b7 := b6.trans (hb7.mono b6.size)
  have hT7 := hT6.below hb7
  go_wp2_with fail
  refine (join_calls _ _ _ _ _ (rd_one w7 r _)).mono ?_
  rintro e w8 ⟨rfl, hb8⟩
  have b8 := (b7.alloc b7.size _).trans (hb8.below w.heap.size)
  have hT8 := hT.below b8
  go_wp2_with fail
  have cN := texts_calls (runesBytes [r]) w8 (by have := hs1.out.2; omega) hT8
  rw [text_one hc.out, kal.out] at cN
  refine cN.mono ?_
  clear cN
  rintro e w9 ⟨rfl, hb9⟩
  have b9 := b8.trans (hb9.mono b8.size)
  have hT9 := hT8.below hb9
  go_wp2_with fail
  have cN := name_calls (runesBytes [r]) w9 (by have := hs1.out.2; omega) hT9
  rw [name_one hc.out, kst.out] at cN
  refine cN.mono ?_
  clear cN
  rintro e w10 ⟨rfl, hb10⟩
  have b10 := b9.trans (hb10.mono b9.size)
  have hT10 := hT9.below hb10
  go_wp2_with fail
  have cN := name_calls (⟨#[97]⟩ ++ runesBytes [r]) w10 (by have := hs2.out.2; omega) hT10
  rw [name_two hc.out, kre.out] at cN
  refine cN.mono ?_
  clear cN
  rintro e w11 ⟨rfl, hb11⟩
  have b11 := b10.trans (hb11.mono b10.size)
  go_wp2
  go_ret
  exact ⟨rfl, b11⟩
set_option maxHeartbeats 4000000 in
theorem within2a (r : Int) (w : World) (hT : Laid w) (hlo : 57343 < r) (hst : isF (cls 2) r = false) (hre : isF (cls 3) r = false) (hal : isF (cls 0) r = true) (hdi : isF (cls 4) r = false) (hhe : isF (cls 5) r = false) (hbl : isF (cls 1) r = false) :
    Calls Tryd.prog 7 #[.int .i32 r] w fun e w' => e = .returned (.bool true) ∧ Below w.heap.size w w' := by
  have kst := Lib.hid hst
  clear hst
  have kre := Lib.hid hre
  clear hre
  have kal := Lib.hid hal
  clear hal
  have kdi := Lib.hid hdi
  clear hdi
  have khe := Lib.hid hhe
  clear hhe
  have kbl := Lib.hid hbl
  clear hbl
  have hc := Lib.hid (allowed_ch kal.out)
  have hs1 := Lib.hid (one_size hc.out)
  have hs2 := Lib.hid (two_size hc.out)
  have hz1 : (⟨#[97]⟩ : ByteArray).size + (runesBytes [r]).size ≤ 9223372036854775807 := by have := hs1.out.2; have e : (⟨#[97]⟩ : ByteArray).size = 1 := rfl; omega
  have hz2 : 1 + (runesBytes [r]).size ≤ 9223372036854775807 := by have := hs1.out.2; omega
  have h0 : ¬ r < 0 := by have := hc.out; unfold Ch at this; omega
  have h1 : ¬ 1114111 < r := by have := hc.out; unfold Ch at this; omega
  go_enter Tryd.func7, Tryd.ntmps7
  go_wp2_with fail
  refine (fixed_calls w hT).mono ?_
  rintro e w1 ⟨rfl, b1⟩
  have hT1 := hT.below b1
  go_wp2_with fail
  have cN := is_calls w1 2 r hT1.tab
  rw [kst.out] at cN
  refine cN.mono ?_
  clear cN
  rintro e w2 ⟨rfl, hb2⟩
  have b2 := b1.trans (hb2.mono b1.size)
  have hT2 := hT1.below hb2
  go_wp2_with fail
  have cN := is_calls w2 3 r hT2.tab
  rw [kre.out] at cN
  refine cN.mono ?_
  clear cN
  rintro e w3 ⟨rfl, hb3⟩
  have b3 := b2.trans (hb3.mono b2.size)
  have hT3 := hT2.below hb3
  go_wp2_with fail
  have cN := is_calls w3 0 r hT3.tab
  rw [kal.out] at cN
  refine cN.mono ?_
  clear cN
  rintro e w4 ⟨rfl, hb4⟩
  have b4 := b3.trans (hb4.mono b3.size)
  have hT4 := hT3.below hb4
  go_wp2_with fail
  have cN := is_calls w4 4 r hT4.tab
  rw [kdi.out] at cN
  refine cN.mono ?_
  clear cN
  rintro e w5 ⟨rfl, hb5⟩
  have b5 := b4.trans (hb5.mono b4.size)
  have hT5 := hT4.below hb5
  go_wp2_with fail
  have cN := is_calls w5 5 r hT5.tab
  rw [khe.out] at cN
  refine cN.mono ?_
  clear cN
  rintro e w6 ⟨rfl, hb6⟩
  have b6 := b5.trans (hb6.mono b5.size)
  have hT6 := hT5.below hb6
  go_wp2_with fail
  have cN := is_calls w6 1 r hT6.tab
  rw [kbl.out] at cN
  refine cN.mono ?_
  clear cN
  rintro e w7 ⟨rfl, hb7⟩
  have b7 := b6.trans (hb7.mono b6.size)
  have hT7 := hT6.below hb7
  go_wp2_with fail
  refine (join_calls _ _ _ _ _ (rd_one w7 r _)).mono ?_
  rintro e w8 ⟨rfl, hb8⟩
  have b8 := (b7.alloc b7.size _).trans (hb8.below w.heap.size)
  have hT8 := hT.below b8
  go_wp2_with fail
  have cN := texts_calls (runesBytes [r]) w8 (by have := hs1.out.2; omega) hT8
  rw [text_one hc.out, kal.out] at cN
  refine cN.mono ?_
  clear cN
  rintro e w9 ⟨rfl, hb9⟩
  have b9 := b8.trans (hb9.mono b8.size)
  have hT9 := hT8.below hb9
  go_wp2_with fail
  have cN := name_calls (runesBytes [r]) w9 (by have := hs1.out.2; omega) hT9
  rw [name_one hc.out, kst.out] at cN
  refine cN.mono ?_
  clear cN
  rintro e w10 ⟨rfl, hb10⟩
  have b10 := b9.trans (hb10.mono b9.size)
  have hT10 := hT9.below hb10
  go_wp2_with fail
  have cN := name_calls (⟨#[97]⟩ ++ runesBytes [r]) w10 (by have := hs2.out.2; omega) hT10
  rw [name_two hc.out, kre.out] at cN
  refine cN.mono ?_
  clear cN
  rintro e w11 ⟨rfl, hb11⟩
  have b11 := b10.trans (hb11.mono b10.size)
  go_wp2
  go_ret
  exact ⟨rfl, b11⟩
set_option maxHeartbeats 4000000 in
theorem within1b (r : Int) (w : World) (hT : Laid w) (hlo : r < 55296) (hst : isF (cls 2) r = false) (hre : isF (cls 3) r = false) (hal : isF (cls 0) r = true) (hdi : isF (cls 4) r = false) (hhe : isF (cls 5) r = false) (hbl : isF (cls 1) r = true) :
    Calls Tryd.prog 7 #[.int .i32 r] w fun e w' => e = .returned (.bool true) ∧ Below w.heap.size w w' := by
  have kst := Lib.hid hst
  clear hst
  have kre := Lib.hid hre
  clear hre
  have kal := Lib.hid hal
  clear hal
  have kdi := Lib.hid hdi
  clear hdi
  have khe := Lib.hid hhe
  clear hhe
  have kbl := Lib.hid hbl
  clear hbl
  have hc := Lib.hid (allowed_ch kal.out)
  have hs1 := Lib.hid (one_size hc.out)
  have hs2 := Lib.hid (two_size hc.out)
  have hz1 : (⟨#[97]⟩ : ByteArray).size + (runesBytes [r]).size ≤ 9223372036854775807 := by have := hs1.out.2; have e : (⟨#[97]⟩ : ByteArray).size = 1 := rfl; omega
  have hz2 : 1 + (runesBytes [r]).size ≤ 9223372036854775807 := by have := hs1.out.2; omega
  have h0 : ¬ r < 0 := by have := hc.out; unfold Ch at this; omega
  have h1 : ¬ 1114111 < r := by have := hc.out; unfold Ch at this; omega
  go_enter Tryd.func7, Tryd.ntmps7
  go_wp2_with fail
  refine (fixed_calls w hT).mono ?_
  rintro e w1 ⟨rfl, b1⟩
  have hT1 := hT.below b1
  go_wp2_with fail
  have cN := is_calls w1 2 r hT1.tab
  rw [kst.out] at cN
  refine cN.mono ?_
  clear cN
  rintro e w2 ⟨rfl, hb2⟩
  have b2 := b1.trans (hb2.mono b1.size)
  have hT2 := hT1.below hb2
  go_wp2_with fail
  have cN := is_calls w2 3 r hT2.tab
  rw [kre.out] at cN
  refine cN.mono ?_
  clear cN
  rintro e w3 ⟨rfl, hb3⟩
  have b3 := b2.trans (hb3.mono b2.size)
  have hT3 := hT2.below hb3
  go_wp2_with fail
  have cN := is_calls w3 0 r hT3.tab
  rw [kal.out] at cN
  refine cN.mono ?_
  clear cN
  rintro e w4 ⟨rfl, hb4⟩
  have b4 := b3.trans (hb4.mono b3.size)
  have hT4 := hT3.below hb4
  go_wp2_with fail
  have cN := is_calls w4 4 r hT4.tab
  rw [kdi.out] at cN
  refine cN.mono ?_
  clear cN
  rintro e w5 ⟨rfl, hb5⟩
  have b5 := b4.trans (hb5.mono b4.size)
  have hT5 := hT4.below hb5
  go_wp2_with fail
  have cN := is_calls w5 5 r hT5.tab
  rw [khe.out] at cN
  refine cN.mono ?_
  clear cN
  rintro e w6 ⟨rfl, hb6⟩
  have b6 := b5.trans (hb6.mono b5.size)
  have hT6 := hT5.below hb6
  go_wp2_with fail
  have cN := is_calls w6 1 r hT6.tab
  rw [kbl.out] at cN
  refine cN.mono ?_
  clear cN
  rintro e w7 ⟨rfl, hb7⟩
  have b7 := b6.trans (hb7.mono b6.size)
  have hT7 := hT6.below hb7
  go_wp2_with fail
  refine (join_calls _ _ _ _ _ (rd_one w7 r _)).mono ?_
  rintro e w8 ⟨rfl, hb8⟩
  have b8 := (b7.alloc b7.size _).trans (hb8.below w.heap.size)
  have hT8 := hT.below b8
  go_wp2_with fail
  have cN := texts_calls (runesBytes [r]) w8 (by have := hs1.out.2; omega) hT8
  rw [text_one hc.out, kal.out] at cN
  refine cN.mono ?_
  clear cN
  rintro e w9 ⟨rfl, hb9⟩
  have b9 := b8.trans (hb9.mono b8.size)
  have hT9 := hT8.below hb9
  go_wp2_with fail
  have cN := name_calls (runesBytes [r]) w9 (by have := hs1.out.2; omega) hT9
  rw [name_one hc.out, kst.out] at cN
  refine cN.mono ?_
  clear cN
  rintro e w10 ⟨rfl, hb10⟩
  have b10 := b9.trans (hb10.mono b9.size)
  have hT10 := hT9.below hb10
  go_wp2_with fail
  have cN := name_calls (⟨#[97]⟩ ++ runesBytes [r]) w10 (by have := hs2.out.2; omega) hT10
  rw [name_two hc.out, kre.out] at cN
  refine cN.mono ?_
  clear cN
  rintro e w11 ⟨rfl, hb11⟩
  have b11 := b10.trans (hb11.mono b10.size)
  go_wp2
  go_ret
  exact ⟨rfl, b11⟩
set_option maxHeartbeats 4000000 in
theorem within2b (r : Int) (w : World) (hT : Laid w) (hlo : 57343 < r) (hst : isF (cls 2) r = false) (hre : isF (cls 3) r = false) (hal : isF (cls 0) r = true) (hdi : isF (cls 4) r = false) (hhe : isF (cls 5) r = false) (hbl : isF (cls 1) r = true) :
    Calls Tryd.prog 7 #[.int .i32 r] w fun e w' => e = .returned (.bool true) ∧ Below w.heap.size w w' := by
  have kst := Lib.hid hst
  clear hst
  have kre := Lib.hid hre
  clear hre
  have kal := Lib.hid hal
  clear hal
  have kdi := Lib.hid hdi
  clear hdi
  have khe := Lib.hid hhe
  clear hhe
  have kbl := Lib.hid hbl
  clear hbl
  have hc := Lib.hid (allowed_ch kal.out)
  have hs1 := Lib.hid (one_size hc.out)
  have hs2 := Lib.hid (two_size hc.out)
  have hz1 : (⟨#[97]⟩ : ByteArray).size + (runesBytes [r]).size ≤ 9223372036854775807 := by have := hs1.out.2; have e : (⟨#[97]⟩ : ByteArray).size = 1 := rfl; omega
  have hz2 : 1 + (runesBytes [r]).size ≤ 9223372036854775807 := by have := hs1.out.2; omega
  have h0 : ¬ r < 0 := by have := hc.out; unfold Ch at this; omega
  have h1 : ¬ 1114111 < r := by have := hc.out; unfold Ch at this; omega
  go_enter Tryd.func7, Tryd.ntmps7
  go_wp2_with fail
  refine (fixed_calls w hT).mono ?_
  rintro e w1 ⟨rfl, b1⟩
  have hT1 := hT.below b1
  go_wp2_with fail
  have cN := is_calls w1 2 r hT1.tab
  rw [kst.out] at cN
  refine cN.mono ?_
  clear cN
  rintro e w2 ⟨rfl, hb2⟩
  have b2 := b1.trans (hb2.mono b1.size)
  have hT2 := hT1.below hb2
  go_wp2_with fail
  have cN := is_calls w2 3 r hT2.tab
  rw [kre.out] at cN
  refine cN.mono ?_
  clear cN
  rintro e w3 ⟨rfl, hb3⟩
  have b3 := b2.trans (hb3.mono b2.size)
  have hT3 := hT2.below hb3
  go_wp2_with fail
  have cN := is_calls w3 0 r hT3.tab
  rw [kal.out] at cN
  refine cN.mono ?_
  clear cN
  rintro e w4 ⟨rfl, hb4⟩
  have b4 := b3.trans (hb4.mono b3.size)
  have hT4 := hT3.below hb4
  go_wp2_with fail
  have cN := is_calls w4 4 r hT4.tab
  rw [kdi.out] at cN
  refine cN.mono ?_
  clear cN
  rintro e w5 ⟨rfl, hb5⟩
  have b5 := b4.trans (hb5.mono b4.size)
  have hT5 := hT4.below hb5
  go_wp2_with fail
  have cN := is_calls w5 5 r hT5.tab
  rw [khe.out] at cN
  refine cN.mono ?_
  clear cN
  rintro e w6 ⟨rfl, hb6⟩
  have b6 := b5.trans (hb6.mono b5.size)
  have hT6 := hT5.below hb6
  go_wp2_with fail
  have cN := is_calls w6 1 r hT6.tab
  rw [kbl.out] at cN
  refine cN.mono ?_
  clear cN
  rintro e w7 ⟨rfl, hb7⟩
  have b7 := b6.trans (hb7.mono b6.size)
  have hT7 := hT6.below hb7
  go_wp2_with fail
  refine (join_calls _ _ _ _ _ (rd_one w7 r _)).mono ?_
  rintro e w8 ⟨rfl, hb8⟩
  have b8 := (b7.alloc b7.size _).trans (hb8.below w.heap.size)
  have hT8 := hT.below b8
  go_wp2_with fail
  have cN := texts_calls (runesBytes [r]) w8 (by have := hs1.out.2; omega) hT8
  rw [text_one hc.out, kal.out] at cN
  refine cN.mono ?_
  clear cN
  rintro e w9 ⟨rfl, hb9⟩
  have b9 := b8.trans (hb9.mono b8.size)
  have hT9 := hT8.below hb9
  go_wp2_with fail
  have cN := name_calls (runesBytes [r]) w9 (by have := hs1.out.2; omega) hT9
  rw [name_one hc.out, kst.out] at cN
  refine cN.mono ?_
  clear cN
  rintro e w10 ⟨rfl, hb10⟩
  have b10 := b9.trans (hb10.mono b9.size)
  have hT10 := hT9.below hb10
  go_wp2_with fail
  have cN := name_calls (⟨#[97]⟩ ++ runesBytes [r]) w10 (by have := hs2.out.2; omega) hT10
  rw [name_two hc.out, kre.out] at cN
  refine cN.mono ?_
  clear cN
  rintro e w11 ⟨rfl, hb11⟩
  have b11 := b10.trans (hb11.mono b10.size)
  go_wp2
  go_ret
  exact ⟨rfl, b11⟩
set_option maxHeartbeats 4000000 in
theorem within1c (r : Int) (w : World) (hT : Laid w) (hlo : r < 55296) (hst : isF (cls 2) r = false) (hre : isF (cls 3) r = true) (hal : isF (cls 0) r = true) (hdi : isF (cls 4) r = false) (hhe : isF (cls 5) r = false) (hbl : isF (cls 1) r = false) :
    Calls Tryd.prog 7 #[.int .i32 r] w fun e w' => e = .returned (.bool true) ∧ Below w.heap.size w w' := by
  have kst := Lib.hid hst
  clear hst
  have kre := Lib.hid hre
  clear hre
  have kal := Lib.hid hal
  clear hal
  have kdi := Lib.hid hdi
  clear hdi
  have khe := Lib.hid hhe
  clear hhe
  have kbl := Lib.hid hbl
  clear hbl
  have hc := Lib.hid (allowed_ch kal.out)
  have hs1 := Lib.hid (one_size hc.out)
  have hs2 := Lib.hid (two_size hc.out)
  have hz1 : (⟨#[97]⟩ : ByteArray).size + (runesBytes [r]).size ≤ 9223372036854775807 := by have := hs1.out.2; have e : (⟨#[97]⟩ : ByteArray).size = 1 := rfl; omega
  have hz2 : 1 + (runesBytes [r]).size ≤ 9223372036854775807 := by have := hs1.out.2; omega
  have h0 : ¬ r < 0 := by have := hc.out; unfold Ch at this; omega
  have h1 : ¬ 1114111 < r := by have := hc.out; unfold Ch at this; omega
  go_enter Tryd.func7, Tryd.ntmps7
  go_wp2_with fail
  refine (fixed_calls w hT).mono ?_
  rintro e w1 ⟨rfl, b1⟩
  have hT1 := hT.below b1
  go_wp2_with fail
  have cN := is_calls w1 2 r hT1.tab
  rw [kst.out] at cN
  refine cN.mono ?_
  clear cN
  rintro e w2 ⟨rfl, hb2⟩
  have b2 := b1.trans (hb2.mono b1.size)
  have hT2 := hT1.below hb2
  go_wp2_with fail
  have cN := is_calls w2 3 r hT2.tab
  rw [kre.out] at cN
  refine cN.mono ?_
  clear cN
  rintro e w3 ⟨rfl, hb3⟩
  have b3 := b2.trans (hb3.mono b2.size)
  have hT3 := hT2.below hb3
  go_wp2_with fail
  have cN := is_calls w3 0 r hT3.tab
  rw [kal.out] at cN
  refine cN.mono ?_
  clear cN
  rintro e w4 ⟨rfl, hb4⟩
  have b4 := b3.trans (hb4.mono b3.size)
  have hT4 := hT3.below hb4
  go_wp2_with fail
  have cN := is_calls w4 4 r hT4.tab
  rw [kdi.out] at cN
  refine cN.mono ?_
  clear cN
  rintro e w5 ⟨rfl, hb5⟩
  have b5 := b4.trans (hb5.mono b4.size)
  have hT5 := hT4.below hb5
  go_wp2_with fail
  have cN := is_calls w5 5 r hT5.tab
  rw [khe.out] at cN
  refine cN.mono ?_
  clear cN
  rintro e w6 ⟨rfl, hb6⟩
  have b6 := b5.trans (hb6.mono b5.size)
  have hT6 := hT5.below hb6
  go_wp2_with fail
  have cN := is_calls w6 1 r hT6.tab
  rw [kbl.out] at cN
  refine cN.mono ?_
  clear cN
  rintro e w7 ⟨rfl, hb7⟩
  have b7 := b6.trans (hb7.mono b6.size)
  have hT7 := hT6.below hb7
  go_wp2_with fail
  refine (join_calls _ _ _ _ _ (rd_one w7 r _)).mono ?_
  rintro e w8 ⟨rfl, hb8⟩
  have b8 := (b7.alloc b7.size _).trans (hb8.below w.heap.size)
  have hT8 := hT.below b8
  go_wp2_with fail
  have cN := texts_calls (runesBytes [r]) w8 (by have := hs1.out.2; omega) hT8
  rw [text_one hc.out, kal.out] at cN
  refine cN.mono ?_
  clear cN
  rintro e w9 ⟨rfl, hb9⟩
  have b9 := b8.trans (hb9.mono b8.size)
  have hT9 := hT8.below hb9
  go_wp2_with fail
  have cN := name_calls (runesBytes [r]) w9 (by have := hs1.out.2; omega) hT9
  rw [name_one hc.out, kst.out] at cN
  refine cN.mono ?_
  clear cN
  rintro e w10 ⟨rfl, hb10⟩
  have b10 := b9.trans (hb10.mono b9.size)
  have hT10 := hT9.below hb10
  go_wp2_with fail
  have cN := name_calls (⟨#[97]⟩ ++ runesBytes [r]) w10 (by have := hs2.out.2; omega) hT10
  rw [name_two hc.out, kre.out] at cN
  refine cN.mono ?_
  clear cN
  rintro e w11 ⟨rfl, hb11⟩
  have b11 := b10.trans (hb11.mono b10.size)
  go_wp2
  go_ret
  exact ⟨rfl, b11⟩
set_option maxHeartbeats 4000000 in
theorem within2c (r : Int) (w : World) (hT : Laid w) (hlo : 57343 < r) (hst : isF (cls 2) r = false) (hre : isF (cls 3) r = true) (hal : isF (cls 0) r = true) (hdi : isF (cls 4) r = false) (hhe : isF (cls 5) r = false) (hbl : isF (cls 1) r = false) :
    Calls Tryd.prog 7 #[.int .i32 r] w fun e w' => e = .returned (.bool true) ∧ Below w.heap.size w w' := by
  have kst := Lib.hid hst
  clear hst
  have kre := Lib.hid hre
  clear hre
  have kal := Lib.hid hal
  clear hal
  have kdi := Lib.hid hdi
  clear hdi
  have khe := Lib.hid hhe
  clear hhe
  have kbl := Lib.hid hbl
  clear hbl
  have hc := Lib.hid (allowed_ch kal.out)
  have hs1 := Lib.hid (one_size hc.out)
  have hs2 := Lib.hid (two_size hc.out)
  have hz1 : (⟨#[97]⟩ : ByteArray).size + (runesBytes [r]).size ≤ 9223372036854775807 := by have := hs1.out.2; have e : (⟨#[97]⟩ : ByteArray).size = 1 := rfl; omega
  have hz2 : 1 + (runesBytes [r]).size ≤ 9223372036854775807 := by have := hs1.out.2; omega
  have h0 : ¬ r < 0 := by have := hc.out; unfold Ch at this; omega
  have h1 : ¬ 1114111 < r := by have := hc.out; unfold Ch at this; omega
  go_enter Tryd.func7, Tryd.ntmps7
  go_wp2_with fail
  refine (fixed_calls w hT).mono ?_
  rintro e w1 ⟨rfl, b1⟩
  have hT1 := hT.below b1
  go_wp2_with fail
  have cN := is_calls w1 2 r hT1.tab
  rw [kst.out] at cN
  refine cN.mono ?_
  clear cN
  rintro e w2 ⟨rfl, hb2⟩
  have b2 := b1.trans (hb2.mono b1.size)
  have hT2 := hT1.below hb2
  go_wp2_with fail
  have cN := is_calls w2 3 r hT2.tab
  rw [kre.out] at cN
  refine cN.mono ?_
  clear cN
  rintro e w3 ⟨rfl, hb3⟩
  have b3 := b2.trans (hb3.mono b2.size)
  have hT3 := hT2.below hb3
  go_wp2_with fail
  have cN := is_calls w3 0 r hT3.tab
  rw [kal.out] at cN
  refine cN.mono ?_
  clear cN
  rintro e w4 ⟨rfl, hb4⟩
  have b4 := b3.trans (hb4.mono b3.size)
  have hT4 := hT3.below hb4
  go_wp2_with fail
  have cN := is_calls w4 4 r hT4.tab
  rw [kdi.out] at cN
  refine cN.mono ?_
  clear cN
  rintro e w5 ⟨rfl, hb5⟩
  have b5 := b4.trans (hb5.mono b4.size)
  have hT5 := hT4.below hb5
  go_wp2_with fail
  have cN := is_calls w5 5 r hT5.tab
  rw [khe.out] at cN
  refine cN.mono ?_
  clear cN
  rintro e w6 ⟨rfl, hb6⟩
  have b6 := b5.trans (hb6.mono b5.size)
  have hT6 := hT5.below hb6
  go_wp2_with fail
  have cN := is_calls w6 1 r hT6.tab
  rw [kbl.out] at cN
  refine cN.mono ?_
  clear cN
  rintro e w7 ⟨rfl, hb7⟩
  have b7 := b6.trans (hb7.mono b6.size)
  have hT7 := hT6.below hb7
  go_wp2_with fail
  refine (join_calls _ _ _ _ _ (rd_one w7 r _)).mono ?_
  rintro e w8 ⟨rfl, hb8⟩
  have b8 := (b7.alloc b7.size _).trans (hb8.below w.heap.size)
  have hT8 := hT.below b8
  go_wp2_with fail
  have cN := texts_calls (runesBytes [r]) w8 (by have := hs1.out.2; omega) hT8
  rw [text_one hc.out, kal.out] at cN
  refine cN.mono ?_
  clear cN
  rintro e w9 ⟨rfl, hb9⟩
  have b9 := b8.trans (hb9.mono b8.size)
  have hT9 := hT8.below hb9
  go_wp2_with fail
  have cN := name_calls (runesBytes [r]) w9 (by have := hs1.out.2; omega) hT9
  rw [name_one hc.out, kst.out] at cN
  refine cN.mono ?_
  clear cN
  rintro e w10 ⟨rfl, hb10⟩
  have b10 := b9.trans (hb10.mono b9.size)
  have hT10 := hT9.below hb10
  go_wp2_with fail
  have cN := name_calls (⟨#[97]⟩ ++ runesBytes [r]) w10 (by have := hs2.out.2; omega) hT10
  rw [name_two hc.out, kre.out] at cN
  refine cN.mono ?_
  clear cN
  rintro e w11 ⟨rfl, hb11⟩
  have b11 := b10.trans (hb11.mono b10.size)
  go_wp2
  go_ret
  exact ⟨rfl, b11⟩
set_option maxHeartbeats 4000000 in
theorem within1d (r : Int) (w : World) (hT : Laid w) (hlo : r < 55296) (hst : isF (cls 2) r = false) (hre : isF (cls 3) r = true) (hal : isF (cls 0) r = true) (hdi : isF (cls 4) r = false) (hhe : isF (cls 5) r = true) (hbl : isF (cls 1) r = false) :
    Calls Tryd.prog 7 #[.int .i32 r] w fun e w' => e = .returned (.bool true) ∧ Below w.heap.size w w' := by
  have kst := Lib.hid hst
  clear hst
  have kre := Lib.hid hre
  clear hre
  have kal := Lib.hid hal
  clear hal
  have kdi := Lib.hid hdi
  clear hdi
  have khe := Lib.hid hhe
  clear hhe
  have kbl := Lib.hid hbl
  clear hbl
  have hc := Lib.hid (allowed_ch kal.out)
  have hs1 := Lib.hid (one_size hc.out)
  have hs2 := Lib.hid (two_size hc.out)
  have hz1 : (⟨#[97]⟩ : ByteArray).size + (runesBytes [r]).size ≤ 9223372036854775807 := by have := hs1.out.2; have e : (⟨#[97]⟩ : ByteArray).size = 1 := rfl; omega
  have hz2 : 1 + (runesBytes [r]).size ≤ 9223372036854775807 := by have := hs1.out.2; omega
  have h0 : ¬ r < 0 := by have := hc.out; unfold Ch at this; omega
  have h1 : ¬ 1114111 < r := by have := hc.out; unfold Ch at this; omega
  go_enter Tryd.func7, Tryd.ntmps7
  go_wp2_with fail
  refine (fixed_calls w hT).mono ?_
  rintro e w1 ⟨rfl, b1⟩
  have hT1 := hT.below b1
  go_wp2_with fail
  have cN := is_calls w1 2 r hT1.tab
  rw [kst.out] at cN
  refine cN.mono ?_
  clear cN
  rintro e w2 ⟨rfl, hb2⟩
  have b2 := b1.trans (hb2.mono b1.size)
  have hT2 := hT1.below hb2
  go_wp2_with fail
  have cN := is_calls w2 3 r hT2.tab
  rw [kre.out] at cN
  refine cN.mono ?_
  clear cN
  rintro e w3 ⟨rfl, hb3⟩
  have b3 := b2.trans (hb3.mono b2.size)
  have hT3 := hT2.below hb3
  go_wp2_with fail
  have cN := is_calls w3 0 r hT3.tab
  rw [kal.out] at cN
  refine cN.mono ?_
  clear cN
  rintro e w4 ⟨rfl, hb4⟩
  have b4 := b3.trans (hb4.mono b3.size)
  have hT4 := hT3.below hb4
  go_wp2_with fail
  have cN := is_calls w4 4 r hT4.tab
  rw [kdi.out] at cN
  refine cN.mono ?_
  clear cN
  rintro e w5 ⟨rfl, hb5⟩
  have b5 := b4.trans (hb5.mono b4.size)
  have hT5 := hT4.below hb5
  go_wp2_with fail
  have cN := is_calls w5 5 r hT5.tab
  rw [khe.out] at cN
  refine cN.mono ?_
  clear cN
  rintro e w6 ⟨rfl, hb6⟩
  have b6 := b5.trans (hb6.mono b5.size)
  have hT6 := hT5.below hb6
  go_wp2_with fail
  have cN := is_calls w6 1 r hT6.tab
  rw [kbl.out] at cN
  refine cN.mono ?_
  clear cN
  rintro e w7 ⟨rfl, hb7⟩
  have b7 := b6.trans (hb7.mono b6.size)
  have hT7 := hT6.below hb7
  go_wp2_with fail
  refine (join_calls _ _ _ _ _ (rd_one w7 r _)).mono ?_
  rintro e w8 ⟨rfl, hb8⟩
  have b8 := (b7.alloc b7.size _).trans (hb8.below w.heap.size)
  have hT8 := hT.below b8
  go_wp2_with fail
  have cN := texts_calls (runesBytes [r]) w8 (by have := hs1.out.2; omega) hT8
  rw [text_one hc.out, kal.out] at cN
  refine cN.mono ?_
  clear cN
  rintro e w9 ⟨rfl, hb9⟩
  have b9 := b8.trans (hb9.mono b8.size)
  have hT9 := hT8.below hb9
  go_wp2_with fail
  have cN := name_calls (runesBytes [r]) w9 (by have := hs1.out.2; omega) hT9
  rw [name_one hc.out, kst.out] at cN
  refine cN.mono ?_
  clear cN
  rintro e w10 ⟨rfl, hb10⟩
  have b10 := b9.trans (hb10.mono b9.size)
  have hT10 := hT9.below hb10
  go_wp2_with fail
  have cN := name_calls (⟨#[97]⟩ ++ runesBytes [r]) w10 (by have := hs2.out.2; omega) hT10
  rw [name_two hc.out, kre.out] at cN
  refine cN.mono ?_
  clear cN
  rintro e w11 ⟨rfl, hb11⟩
  have b11 := b10.trans (hb11.mono b10.size)
  go_wp2
  go_ret
  exact ⟨rfl, b11⟩
set_option maxHeartbeats 4000000 in
theorem within2d (r : Int) (w : World) (hT : Laid w) (hlo : 57343 < r) (hst : isF (cls 2) r = false) (hre : isF (cls 3) r = true) (hal : isF (cls 0) r = true) (hdi : isF (cls 4) r = false) (hhe : isF (cls 5) r = true) (hbl : isF (cls 1) r = false) :
    Calls Tryd.prog 7 #[.int .i32 r] w fun e w' => e = .returned (.bool true) ∧ Below w.heap.size w w' := by
  have kst := Lib.hid hst
  clear hst
  have kre := Lib.hid hre
  clear hre
  have kal := Lib.hid hal
  clear hal
  have kdi := Lib.hid hdi
  clear hdi
  have khe := Lib.hid hhe
  clear hhe
  have kbl := Lib.hid hbl
  clear hbl
  have hc := Lib.hid (allowed_ch kal.out)
  have hs1 := Lib.hid (one_size hc.out)
  have hs2 := Lib.hid (two_size hc.out)
  have hz1 : (⟨#[97]⟩ : ByteArray).size + (runesBytes [r]).size ≤ 9223372036854775807 := by have := hs1.out.2; have e : (⟨#[97]⟩ : ByteArray).size = 1 := rfl; omega
  have hz2 : 1 + (runesBytes [r]).size ≤ 9223372036854775807 := by have := hs1.out.2; omega
  have h0 : ¬ r < 0 := by have := hc.out; unfold Ch at this; omega
  have h1 : ¬ 1114111 < r := by have := hc.out; unfold Ch at this; omega
  go_enter Tryd.func7, Tryd.ntmps7
  go_wp2_with fail
  refine (fixed_calls w hT).mono ?_
  rintro e w1 ⟨rfl, b1⟩
  have hT1 := hT.below b1
  go_wp2_with fail
  have cN := is_calls w1 2 r hT1.tab
  rw [kst.out] at cN
  refine cN.mono ?_
  clear cN
  rintro e w2 ⟨rfl, hb2⟩
  have b2 := b1.trans (hb2.mono b1.size)
  have hT2 := hT1.below hb2
  go_wp2_with fail
  have cN := is_calls w2 3 r hT2.tab
  rw [kre.out] at cN
  refine cN.mono ?_
  clear cN
  rintro e w3 ⟨rfl, hb3⟩
  have b3 := b2.trans (hb3.mono b2.size)
  have hT3 := hT2.below hb3
  go_wp2_with fail
  have cN := is_calls w3 0 r hT3.tab
  rw [kal.out] at cN
  refine cN.mono ?_
  clear cN
  rintro e w4 ⟨rfl, hb4⟩
  have b4 := b3.trans (hb4.mono b3.size)
  have hT4 := hT3.below hb4
  go_wp2_with fail
  have cN := is_calls w4 4 r hT4.tab
  rw [kdi.out] at cN
  refine cN.mono ?_
  clear cN
  rintro e w5 ⟨rfl, hb5⟩
  have b5 := b4.trans (hb5.mono b4.size)
  have hT5 := hT4.below hb5
  go_wp2_with fail
  have cN := is_calls w5 5 r hT5.tab
  rw [khe.out] at cN
  refine cN.mono ?_
  clear cN
  rintro e w6 ⟨rfl, hb6⟩
  have b6 := b5.trans (hb6.mono b5.size)
  have hT6 := hT5.below hb6
  go_wp2_with fail
  have cN := is_calls w6 1 r hT6.tab
  rw [kbl.out] at cN
  refine cN.mono ?_
  clear cN
  rintro e w7 ⟨rfl, hb7⟩
  have b7 := b6.trans (hb7.mono b6.size)
  have hT7 := hT6.below hb7
  go_wp2_with fail
  refine (join_calls _ _ _ _ _ (rd_one w7 r _)).mono ?_
  rintro e w8 ⟨rfl, hb8⟩
  have b8 := (b7.alloc b7.size _).trans (hb8.below w.heap.size)
  have hT8 := hT.below b8
  go_wp2_with fail
  have cN := texts_calls (runesBytes [r]) w8 (by have := hs1.out.2; omega) hT8
  rw [text_one hc.out, kal.out] at cN
  refine cN.mono ?_
  clear cN
  rintro e w9 ⟨rfl, hb9⟩
  have b9 := b8.trans (hb9.mono b8.size)
  have hT9 := hT8.below hb9
  go_wp2_with fail
  have cN := name_calls (runesBytes [r]) w9 (by have := hs1.out.2; omega) hT9
  rw [name_one hc.out, kst.out] at cN
  refine cN.mono ?_
  clear cN
  rintro e w10 ⟨rfl, hb10⟩
  have b10 := b9.trans (hb10.mono b9.size)
  have hT10 := hT9.below hb10
  go_wp2_with fail
  have cN := name_calls (⟨#[97]⟩ ++ runesBytes [r]) w10 (by have := hs2.out.2; omega) hT10
  rw [name_two hc.out, kre.out] at cN
  refine cN.mono ?_
  clear cN
  rintro e w11 ⟨rfl, hb11⟩
  have b11 := b10.trans (hb11.mono b10.size)
  go_wp2
  go_ret
  exact ⟨rfl, b11⟩
set_option maxHeartbeats 4000000 in
theorem within1e (r : Int) (w : World) (hT : Laid w) (hlo : r < 55296) (hst : isF (cls 2) r = true) (hre : isF (cls 3) r = true) (hal : isF (cls 0) r = true) (hdi : isF (cls 4) r = false) (hhe : isF (cls 5) r = false) (hbl : isF (cls 1) r = false) :
    Calls Tryd.prog 7 #[.int .i32 r] w fun e w' => e = .returned (.bool true) ∧ Below w.heap.size w w' := by
  have kst := Lib.hid hst
  clear hst
  have kre := Lib.hid hre
  clear hre
  have kal := Lib.hid hal
  clear hal
  have kdi := Lib.hid hdi
  clear hdi
  have khe := Lib.hid hhe
  clear hhe
  have kbl := Lib.hid hbl
  clear hbl
  have hc := Lib.hid (allowed_ch kal.out)
  have hs1 := Lib.hid (one_size hc.out)
  have hs2 := Lib.hid (two_size hc.out)
  have hz1 : (⟨#[97]⟩ : ByteArray).size + (runesBytes [r]).size ≤ 9223372036854775807 := by have := hs1.out.2; have e : (⟨#[97]⟩ : ByteArray).size = 1 := rfl; omega
  have hz2 : 1 + (runesBytes [r]).size ≤ 9223372036854775807 := by have := hs1.out.2; omega
  have h0 : ¬ r < 0 := by have := hc.out; unfold Ch at this; omega
  have h1 : ¬ 1114111 < r := by have := hc.out; unfold Ch at this; omega
  go_enter Tryd.func7, Tryd.ntmps7
  go_wp2_with fail
  refine (fixed_calls w hT).mono ?_
  rintro e w1 ⟨rfl, b1⟩
  have hT1 := hT.below b1
  go_wp2_with fail
  have cN := is_calls w1 2 r hT1.tab
  rw [kst.out] at cN
  refine cN.mono ?_
  clear cN
  rintro e w2 ⟨rfl, hb2⟩
  have b2 := b1.trans (hb2.mono b1.size)
  have hT2 := hT1.below hb2
  go_wp2_with fail
  have cN := is_calls w2 3 r hT2.tab
  rw [kre.out] at cN
  refine cN.mono ?_
  clear cN
  rintro e w3 ⟨rfl, hb3⟩
  have b3 := b2.trans (hb3.mono b2.size)
  have hT3 := hT2.below hb3
  go_wp2_with fail
  have cN := is_calls w3 0 r hT3.tab
  rw [kal.out] at cN
  refine cN.mono ?_
  clear cN
  rintro e w4 ⟨rfl, hb4⟩
  have b4 := b3.trans (hb4.mono b3.size)
  have hT4 := hT3.below hb4
  go_wp2_with fail
  have cN := is_calls w4 4 r hT4.tab
  rw [kdi.out] at cN
  refine cN.mono ?_
  clear cN
  rintro e w5 ⟨rfl, hb5⟩
  have b5 := b4.trans (hb5.mono b4.size)
  have hT5 := hT4.below hb5
  go_wp2_with fail
  have cN := is_calls w5 5 r hT5.tab
  rw [khe.out] at cN
  refine cN.mono ?_
  clear cN
  rintro e w6 ⟨rfl, hb6⟩
  have b6 := b5.trans (hb6.mono b5.size)
  have hT6 := hT5.below hb6
  go_wp2_with fail
  have cN := is_calls w6 1 r hT6.tab
  rw [kbl.out] at cN
  refine cN.mono ?_
  clear cN
  rintro e w7 ⟨rfl, hb7⟩
  have b7 := b6.trans (hb7.mono b6.size)
  have hT7 := hT6.below hb7
  go_wp2_with fail
  refine (join_calls _ _ _ _ _ (rd_one w7 r _)).mono ?_
  rintro e w8 ⟨rfl, hb8⟩
  have b8 := (b7.alloc b7.size _).trans (hb8.below w.heap.size)
  have hT8 := hT.below b8
  go_wp2_with fail
  have cN := texts_calls (runesBytes [r]) w8 (by have := hs1.out.2; omega) hT8
  rw [text_one hc.out, kal.out] at cN
  refine cN.mono ?_
  clear cN
  rintro e w9 ⟨rfl, hb9⟩
  have b9 := b8.trans (hb9.mono b8.size)
  have hT9 := hT8.below hb9
  go_wp2_with fail
  have cN := name_calls (runesBytes [r]) w9 (by have := hs1.out.2; omega) hT9
  rw [name_one hc.out, kst.out] at cN
  refine cN.mono ?_
  clear cN
  rintro e w10 ⟨rfl, hb10⟩
  have b10 := b9.trans (hb10.mono b9.size)
  have hT10 := hT9.below hb10
  go_wp2_with fail
  have cN := name_calls (⟨#[97]⟩ ++ runesBytes [r]) w10 (by have := hs2.out.2; omega) hT10
  rw [name_two hc.out, kre.out] at cN
  refine cN.mono ?_
  clear cN
  rintro e w11 ⟨rfl, hb11⟩
  have b11 := b10.trans (hb11.mono b10.size)
  go_wp2
  go_ret
  exact ⟨rfl, b11⟩
set_option maxHeartbeats 4000000 in
theorem within2e (r : Int) (w : World) (hT : Laid w) (hlo : 57343 < r) (hst : isF (cls 2) r = true) (hre : isF (cls 3) r = true) (hal : isF (cls 0) r = true) (hdi : isF (cls 4) r = false) (hhe : isF (cls 5) r = false) (hbl : isF (cls 1) r = false) :
    Calls Tryd.prog 7 #[.int .i32 r] w fun e w' => e = .returned (.bool true) ∧ Below w.heap.size w w' := by
  have kst := Lib.hid hst
  clear hst
  have kre := Lib.hid hre
  clear hre
  have kal := Lib.hid hal
  clear hal
  have kdi := Lib.hid hdi
  clear hdi
  have khe := Lib.hid hhe
  clear hhe
  have kbl := Lib.hid hbl
  clear hbl
  have hc := Lib.hid (allowed_ch kal.out)
  have hs1 := Lib.hid (one_size hc.out)
  have hs2 := Lib.hid (two_size hc.out)
  have hz1 : (⟨#[97]⟩ : ByteArray).size + (runesBytes [r]).size ≤ 9223372036854775807 := by have := hs1.out.2; have e : (⟨#[97]⟩ : ByteArray).size = 1 := rfl; omega
  have hz2 : 1 + (runesBytes [r]).size ≤ 9223372036854775807 := by have := hs1.out.2; omega
  have h0 : ¬ r < 0 := by have := hc.out; unfold Ch at this; omega
  have h1 : ¬ 1114111 < r := by have := hc.out; unfold Ch at this; omega
  go_enter Tryd.func7, Tryd.ntmps7
  go_wp2_with fail
  refine (fixed_calls w hT).mono ?_
  rintro e w1 ⟨rfl, b1⟩
  have hT1 := hT.below b1
  go_wp2_with fail
  have cN := is_calls w1 2 r hT1.tab
  rw [kst.out] at cN
  refine cN.mono ?_
  clear cN
  rintro e w2 ⟨rfl, hb2⟩
  have b2 := b1.trans (hb2.mono b1.size)
  have hT2 := hT1.below hb2
  go_wp2_with fail
  have cN := is_calls w2 3 r hT2.tab
  rw [kre.out] at cN
  refine cN.mono ?_
  clear cN
  rintro e w3 ⟨rfl, hb3⟩
  have b3 := b2.trans (hb3.mono b2.size)
  have hT3 := hT2.below hb3
  go_wp2_with fail
  have cN := is_calls w3 0 r hT3.tab
  rw [kal.out] at cN
  refine cN.mono ?_
  clear cN
  rintro e w4 ⟨rfl, hb4⟩
  have b4 := b3.trans (hb4.mono b3.size)
  have hT4 := hT3.below hb4
  go_wp2_with fail
  have cN := is_calls w4 4 r hT4.tab
  rw [kdi.out] at cN
  refine cN.mono ?_
  clear cN
  rintro e w5 ⟨rfl, hb5⟩
  have b5 := b4.trans (hb5.mono b4.size)
  have hT5 := hT4.below hb5
  go_wp2_with fail
  have cN := is_calls w5 5 r hT5.tab
  rw [khe.out] at cN
  refine cN.mono ?_
  clear cN
  rintro e w6 ⟨rfl, hb6⟩
  have b6 := b5.trans (hb6.mono b5.size)
  have hT6 := hT5.below hb6
  go_wp2_with fail
  have cN := is_calls w6 1 r hT6.tab
  rw [kbl.out] at cN
  refine cN.mono ?_
  clear cN
  rintro e w7 ⟨rfl, hb7⟩
  have b7 := b6.trans (hb7.mono b6.size)
  have hT7 := hT6.below hb7
  go_wp2_with fail
  refine (join_calls _ _ _ _ _ (rd_one w7 r _)).mono ?_
  rintro e w8 ⟨rfl, hb8⟩
  have b8 := (b7.alloc b7.size _).trans (hb8.below w.heap.size)
  have hT8 := hT.below b8
  go_wp2_with fail
  have cN := texts_calls (runesBytes [r]) w8 (by have := hs1.out.2; omega) hT8
  rw [text_one hc.out, kal.out] at cN
  refine cN.mono ?_
  clear cN
  rintro e w9 ⟨rfl, hb9⟩
  have b9 := b8.trans (hb9.mono b8.size)
  have hT9 := hT8.below hb9
  go_wp2_with fail
  have cN := name_calls (runesBytes [r]) w9 (by have := hs1.out.2; omega) hT9
  rw [name_one hc.out, kst.out] at cN
  refine cN.mono ?_
  clear cN
  rintro e w10 ⟨rfl, hb10⟩
  have b10 := b9.trans (hb10.mono b9.size)
  have hT10 := hT9.below hb10
  go_wp2_with fail
  have cN := name_calls (⟨#[97]⟩ ++ runesBytes [r]) w10 (by have := hs2.out.2; omega) hT10
  rw [name_two hc.out, kre.out] at cN
  refine cN.mono ?_
  clear cN
  rintro e w11 ⟨rfl, hb11⟩
  have b11 := b10.trans (hb11.mono b10.size)
  go_wp2
  go_ret
  exact ⟨rfl, b11⟩
set_option maxHeartbeats 4000000 in
theorem within1f (r : Int) (w : World) (hT : Laid w) (hlo : r < 55296) (hst : isF (cls 2) r = true) (hre : isF (cls 3) r = true) (hal : isF (cls 0) r = true) (hdi : isF (cls 4) r = false) (hhe : isF (cls 5) r = true) (hbl : isF (cls 1) r = false) :
    Calls Tryd.prog 7 #[.int .i32 r] w fun e w' => e = .returned (.bool true) ∧ Below w.heap.size w w' := by
  have kst := Lib.hid hst
  clear hst
  have kre := Lib.hid hre
  clear hre
  have kal := Lib.hid hal
  clear hal
  have kdi := Lib.hid hdi
  clear hdi
  have khe := Lib.hid hhe
  clear hhe
  have kbl := Lib.hid hbl
  clear hbl
  have hc := Lib.hid (allowed_ch kal.out)
  have hs1 := Lib.hid (one_size hc.out)
  have hs2 := Lib.hid (two_size hc.out)
  have hz1 : (⟨#[97]⟩ : ByteArray).size + (runesBytes [r]).size ≤ 9223372036854775807 := by have := hs1.out.2; have e : (⟨#[97]⟩ : ByteArray).size = 1 := rfl; omega
  have hz2 : 1 + (runesBytes [r]).size ≤ 9223372036854775807 := by have := hs1.out.2; omega
  have h0 : ¬ r < 0 := by have := hc.out; unfold Ch at this; omega
  have h1 : ¬ 1114111 < r := by have := hc.out; unfold Ch at this; omega
  go_enter Tryd.func7, Tryd.ntmps7
  go_wp2_with fail
  refine (fixed_calls w hT).mono ?_
  rintro e w1 ⟨rfl, b1⟩
  have hT1 := hT.below b1
  go_wp2_with fail
  have cN := is_calls w1 2 r hT1.tab
  rw [kst.out] at cN
  refine cN.mono ?_
  clear cN
  rintro e w2 ⟨rfl, hb2⟩
  have b2 := b1.trans (hb2.mono b1.size)
  have hT2 := hT1.below hb2
  go_wp2_with fail
  have cN := is_calls w2 3 r hT2.tab
  rw [kre.out] at cN
  refine cN.mono ?_
  clear cN
  rintro e w3 ⟨rfl, hb3⟩
  have b3 := b2.trans (hb3.mono b2.size)
  have hT3 := hT2.below hb3
  go_wp2_with fail
  have cN := is_calls w3 0 r hT3.tab
  rw [kal.out] at cN
  refine cN.mono ?_
  clear cN
  rintro e w4 ⟨rfl, hb4⟩
  have b4 := b3.trans (hb4.mono b3.size)
  have hT4 := hT3.below hb4
  go_wp2_with fail
  have cN := is_calls w4 4 r hT4.tab
  rw [kdi.out] at cN
  refine cN.mono ?_
  clear cN
  rintro e w5 ⟨rfl, hb5⟩
  have b5 := b4.trans (hb5.mono b4.size)
  have hT5 := hT4.below hb5
  go_wp2_with fail
  have cN := is_calls w5 5 r hT5.tab
  rw [khe.out] at cN
  refine cN.mono ?_
  clear cN
  rintro e w6 ⟨rfl, hb6⟩
  have b6 := b5.trans (hb6.mono b5.size)
  have hT6 := hT5.below hb6
  go_wp2_with fail
  have cN := is_calls w6 1 r hT6.tab
  rw [kbl.out] at cN
  refine cN.mono ?_
  clear cN
  rintro e w7 ⟨rfl, hb7⟩
  have b7 := b6.trans (hb7.mono b6.size)
  have hT7 := hT6.below hb7
  go_wp2_with fail
  refine (join_calls _ _ _ _ _ (rd_one w7 r _)).mono ?_
  rintro e w8 ⟨rfl, hb8⟩
  have b8 := (b7.alloc b7.size _).trans (hb8.below w.heap.size)
  have hT8 := hT.below b8
  go_wp2_with fail
  have cN := texts_calls (runesBytes [r]) w8 (by have := hs1.out.2; omega) hT8
  rw [text_one hc.out, kal.out] at cN
  refine cN.mono ?_
  clear cN
  rintro e w9 ⟨rfl, hb9⟩
  have b9 := b8.trans (hb9.mono b8.size)
  have hT9 := hT8.below hb9
  go_wp2_with fail
  have cN := name_calls (runesBytes [r]) w9 (by have := hs1.out.2; omega) hT9
  rw [name_one hc.out, kst.out] at cN
  refine cN.mono ?_
  clear cN
  rintro e w10 ⟨rfl, hb10⟩
  have b10 := b9.trans (hb10.mono b9.size)
  have hT10 := hT9.below hb10
  go_wp2_with fail
  have cN := name_calls (⟨#[97]⟩ ++ runesBytes [r]) w10 (by have := hs2.out.2; omega) hT10
  rw [name_two hc.out, kre.out] at cN
  refine cN.mono ?_
  clear cN
  rintro e w11 ⟨rfl, hb11⟩
  have b11 := b10.trans (hb11.mono b10.size)
  go_wp2
  go_ret
  exact ⟨rfl, b11⟩
set_option maxHeartbeats 4000000 in
theorem within2f (r : Int) (w : World) (hT : Laid w) (hlo : 57343 < r) (hst : isF (cls 2) r = true) (hre : isF (cls 3) r = true) (hal : isF (cls 0) r = true) (hdi : isF (cls 4) r = false) (hhe : isF (cls 5) r = true) (hbl : isF (cls 1) r = false) :
    Calls Tryd.prog 7 #[.int .i32 r] w fun e w' => e = .returned (.bool true) ∧ Below w.heap.size w w' := by
  have kst := Lib.hid hst
  clear hst
  have kre := Lib.hid hre
  clear hre
  have kal := Lib.hid hal
  clear hal
  have kdi := Lib.hid hdi
  clear hdi
  have khe := Lib.hid hhe
  clear hhe
  have kbl := Lib.hid hbl
  clear hbl
  have hc := Lib.hid (allowed_ch kal.out)
  have hs1 := Lib.hid (one_size hc.out)
  have hs2 := Lib.hid (two_size hc.out)
  have hz1 : (⟨#[97]⟩ : ByteArray).size + (runesBytes [r]).size ≤ 9223372036854775807 := by have := hs1.out.2; have e : (⟨#[97]⟩ : ByteArray).size = 1 := rfl; omega
  have hz2 : 1 + (runesBytes [r]).size ≤ 9223372036854775807 := by have := hs1.out.2; omega
  have h0 : ¬ r < 0 := by have := hc.out; unfold Ch at this; omega
  have h1 : ¬ 1114111 < r := by have := hc.out; unfold Ch at this; omega
  go_enter Tryd.func7, Tryd.ntmps7
  go_wp2_with fail
  refine (fixed_calls w hT).mono ?_
  rintro e w1 ⟨rfl, b1⟩
  have hT1 := hT.below b1
  go_wp2_with fail
  have cN := is_calls w1 2 r hT1.tab
  rw [kst.out] at cN
  refine cN.mono ?_
  clear cN
  rintro e w2 ⟨rfl, hb2⟩
  have b2 := b1.trans (hb2.mono b1.size)
  have hT2 := hT1.below hb2
  go_wp2_with fail
  have cN := is_calls w2 3 r hT2.tab
  rw [kre.out] at cN
  refine cN.mono ?_
  clear cN
  rintro e w3 ⟨rfl, hb3⟩
  have b3 := b2.trans (hb3.mono b2.size)
  have hT3 := hT2.below hb3
  go_wp2_with fail
  have cN := is_calls w3 0 r hT3.tab
  rw [kal.out] at cN
  refine cN.mono ?_
  clear cN
  rintro e w4 ⟨rfl, hb4⟩
  have b4 := b3.trans (hb4.mono b3.size)
  have hT4 := hT3.below hb4
  go_wp2_with fail
  have cN := is_calls w4 4 r hT4.tab
  rw [kdi.out] at cN
  refine cN.mono ?_
  clear cN
  rintro e w5 ⟨rfl, hb5⟩
  have b5 := b4.trans (hb5.mono b4.size)
  have hT5 := hT4.below hb5
  go_wp2_with fail
  have cN := is_calls w5 5 r hT5.tab
  rw [khe.out] at cN
  refine cN.mono ?_
  clear cN
  rintro e w6 ⟨rfl, hb6⟩
  have b6 := b5.trans (hb6.mono b5.size)
  have hT6 := hT5.below hb6
  go_wp2_with fail
  have cN := is_calls w6 1 r hT6.tab
  rw [kbl.out] at cN
  refine cN.mono ?_
  clear cN
  rintro e w7 ⟨rfl, hb7⟩
  have b7 := b6.trans (hb7.mono b6.size)
  have hT7 := hT6.below hb7
  go_wp2_with fail
  refine (join_calls _ _ _ _ _ (rd_one w7 r _)).mono ?_
  rintro e w8 ⟨rfl, hb8⟩
  have b8 := (b7.alloc b7.size _).trans (hb8.below w.heap.size)
  have hT8 := hT.below b8
  go_wp2_with fail
  have cN := texts_calls (runesBytes [r]) w8 (by have := hs1.out.2; omega) hT8
  rw [text_one hc.out, kal.out] at cN
  refine cN.mono ?_
  clear cN
  rintro e w9 ⟨rfl, hb9⟩
  have b9 := b8.trans (hb9.mono b8.size)
  have hT9 := hT8.below hb9
  go_wp2_with fail
  have cN := name_calls (runesBytes [r]) w9 (by have := hs1.out.2; omega) hT9
  rw [name_one hc.out, kst.out] at cN
  refine cN.mono ?_
  clear cN
  rintro e w10 ⟨rfl, hb10⟩
  have b10 := b9.trans (hb10.mono b9.size)
  have hT10 := hT9.below hb10
  go_wp2_with fail
  have cN := name_calls (⟨#[97]⟩ ++ runesBytes [r]) w10 (by have := hs2.out.2; omega) hT10
  rw [name_two hc.out, kre.out] at cN
  refine cN.mono ?_
  clear cN
  rintro e w11 ⟨rfl, hb11⟩
  have b11 := b10.trans (hb11.mono b10.size)
  go_wp2
  go_ret
  exact ⟨rfl, b11⟩
set_option maxHeartbeats 4000000 in
theorem within1g (r : Int) (w : World) (hT : Laid w) (hlo : r < 55296) (hst : isF (cls 2) r = false) (hre : isF (cls 3) r = true) (hal : isF (cls 0) r = true) (hdi : isF (cls 4) r = true) (hhe : isF (cls 5) r = true) (hbl : isF (cls 1) r = false) :
    Calls Tryd.prog 7 #[.int .i32 r] w fun e w' => e = .returned (.bool true) ∧ Below w.heap.size w w' := by
  have kst := Lib.hid hst
  clear hst
  have kre := Lib.hid hre
  clear hre
  have kal := Lib.hid hal
  clear hal
  have kdi := Lib.hid hdi
  clear hdi
  have khe := Lib.hid hhe
  clear hhe
  have kbl := Lib.hid hbl
  clear hbl
  have hc := Lib.hid (allowed_ch kal.out)
  have hs1 := Lib.hid (one_size hc.out)
  have hs2 := Lib.hid (two_size hc.out)
  have hz1 : (⟨#[97]⟩ : ByteArray).size + (runesBytes [r]).size ≤ 9223372036854775807 := by have := hs1.out.2; have e : (⟨#[97]⟩ : ByteArray).size = 1 := rfl; omega
  have hz2 : 1 + (runesBytes [r]).size ≤ 9223372036854775807 := by have := hs1.out.2; omega
  have h0 : ¬ r < 0 := by have := hc.out; unfold Ch at this; omega
  have h1 : ¬ 1114111 < r := by have := hc.out; unfold Ch at this; omega
  go_enter Tryd.func7, Tryd.ntmps7
  go_wp2_with fail
  refine (fixed_calls w hT).mono ?_
  rintro e w1 ⟨rfl, b1⟩
  have hT1 := hT.below b1
  go_wp2_with fail
  have cN := is_calls w1 2 r hT1.tab
  rw [kst.out] at cN
  refine cN.mono ?_
  clear cN
  rintro e w2 ⟨rfl, hb2⟩
  have b2 := b1.trans (hb2.mono b1.size)
  have hT2 := hT1.below hb2
  go_wp2_with fail
  have cN := is_calls w2 3 r hT2.tab
  rw [kre.out] at cN
  refine cN.mono ?_
  clear cN
  rintro e w3 ⟨rfl, hb3⟩
  have b3 := b2.trans (hb3.mono b2.size)
  have hT3 := hT2.below hb3
  go_wp2_with fail
  have cN := is_calls w3 0 r hT3.tab
  rw [kal.out] at cN
  refine cN.mono ?_
  clear cN
  rintro e w4 ⟨rfl, hb4⟩
  have b4 := b3.trans (hb4.mono b3.size)
  have hT4 := hT3.below hb4
  go_wp2_with fail
  have cN := is_calls w4 4 r hT4.tab
  rw [kdi.out] at cN
  refine cN.mono ?_
  clear cN
  rintro e w5 ⟨rfl, hb5⟩
  have b5 := b4.trans (hb5.mono b4.size)
  have hT5 := hT4.below hb5
  go_wp2_with fail
  have cN := is_calls w5 5 r hT5.tab
  rw [khe.out] at cN
  refine cN.mono ?_
  clear cN
  rintro e w6 ⟨rfl, hb6⟩
  have b6 := b5.trans (hb6.mono b5.size)
  have hT6 := hT5.below hb6
  go_wp2_with fail
  have cN := is_calls w6 1 r hT6.tab
  rw [kbl.out] at cN
  refine cN.mono ?_
  clear cN
  rintro e w7 ⟨rfl, hb7⟩
  have b7 := b6.trans (hb7.mono b6.size)
  have hT7 := hT6.below hb7
  go_wp2_with fail
  refine (join_calls _ _ _ _ _ (rd_one w7 r _)).mono ?_
  rintro e w8 ⟨rfl, hb8⟩
  have b8 := (b7.alloc b7.size _).trans (hb8.below w.heap.size)
  have hT8 := hT.below b8
  go_wp2_with fail
  have cN := texts_calls (runesBytes [r]) w8 (by have := hs1.out.2; omega) hT8
  rw [text_one hc.out, kal.out] at cN
  refine cN.mono ?_
  clear cN
  rintro e w9 ⟨rfl, hb9⟩
  have b9 := b8.trans (hb9.mono b8.size)
  have hT9 := hT8.below hb9
  go_wp2_with fail
  have cN := name_calls (runesBytes [r]) w9 (by have := hs1.out.2; omega) hT9
  rw [name_one hc.out, kst.out] at cN
  refine cN.mono ?_
  clear cN
  rintro e w10 ⟨rfl, hb10⟩
  have b10 := b9.trans (hb10.mono b9.size)
  have hT10 := hT9.below hb10
  go_wp2_with fail
  have cN := name_calls (⟨#[97]⟩ ++ runesBytes [r]) w10 (by have := hs2.out.2; omega) hT10
  rw [name_two hc.out, kre.out] at cN
  refine cN.mono ?_
  clear cN
  rintro e w11 ⟨rfl, hb11⟩
  have b11 := b10.trans (hb11.mono b10.size)
  go_wp2
  go_ret
  exact ⟨rfl, b11⟩
set_option maxHeartbeats 4000000 in
theorem within2g (r : Int) (w : World) (hT : Laid w) (hlo : 57343 < r) (hst : isF (cls 2) r = false) (hre : isF (cls 3) r = true) (hal : isF (cls 0) r = true) (hdi : isF (cls 4) r = true) (hhe : isF (cls 5) r = true) (hbl : isF (cls 1) r = false) :
    Calls Tryd.prog 7 #[.int .i32 r] w fun e w' => e = .returned (.bool true) ∧ Below w.heap.size w w' := by
  have kst := Lib.hid hst
  clear hst
  have kre := Lib.hid hre
  clear hre
  have kal := Lib.hid hal
  clear hal
  have kdi := Lib.hid hdi
  clear hdi
  have khe := Lib.hid hhe
  clear hhe
  have kbl := Lib.hid hbl
  clear hbl
  have hc := Lib.hid (allowed_ch kal.out)
  have hs1 := Lib.hid (one_size hc.out)
  have hs2 := Lib.hid (two_size hc.out)
  have hz1 : (⟨#[97]⟩ : ByteArray).size + (runesBytes [r]).size ≤ 9223372036854775807 := by have := hs1.out.2; have e : (⟨#[97]⟩ : ByteArray).size = 1 := rfl; omega
  have hz2 : 1 + (runesBytes [r]).size ≤ 9223372036854775807 := by have := hs1.out.2; omega
  have h0 : ¬ r < 0 := by have := hc.out; unfold Ch at this; omega
  have h1 : ¬ 1114111 < r := by have := hc.out; unfold Ch at this; omega
  go_enter Tryd.func7, Tryd.ntmps7
  go_wp2_with fail
  refine (fixed_calls w hT).mono ?_
  rintro e w1 ⟨rfl, b1⟩
  have hT1 := hT.below b1
  go_wp2_with fail
  have cN := is_calls w1 2 r hT1.tab
  rw [kst.out] at cN
  refine cN.mono ?_
  clear cN
  rintro e w2 ⟨rfl, hb2⟩
  have b2 := b1.trans (hb2.mono b1.size)
  have hT2 := hT1.below hb2
  go_wp2_with fail
  have cN := is_calls w2 3 r hT2.tab
  rw [kre.out] at cN
  refine cN.mono ?_
  clear cN
  rintro e w3 ⟨rfl, hb3⟩
  have b3 := b2.trans (hb3.mono b2.size)
  have hT3 := hT2.below hb3
  go_wp2_with fail
  have cN := is_calls w3 0 r hT3.tab
  rw [kal.out] at cN
  refine cN.mono ?_
  clear cN
  rintro e w4 ⟨rfl, hb4⟩
  have b4 := b3.trans (hb4.mono b3.size)
  have hT4 := hT3.below hb4
  go_wp2_with fail
  have cN := is_calls w4 4 r hT4.tab
  rw [kdi.out] at cN
  refine cN.mono ?_
  clear cN
  rintro e w5 ⟨rfl, hb5⟩
  have b5 := b4.trans (hb5.mono b4.size)
  have hT5 := hT4.below hb5
  go_wp2_with fail
  have cN := is_calls w5 5 r hT5.tab
  rw [khe.out] at cN
  refine cN.mono ?_
  clear cN
  rintro e w6 ⟨rfl, hb6⟩
  have b6 := b5.trans (hb6.mono b5.size)
  have hT6 := hT5.below hb6
  go_wp2_with fail
  have cN := is_calls w6 1 r hT6.tab
  rw [kbl.out] at cN
  refine cN.mono ?_
  clear cN
  rintro e w7 ⟨rfl, hb7⟩
  have b7 := b6.trans (hb7.mono b6.size)
  have hT7 := hT6.below hb7
  go_wp2_with fail
  refine (join_calls _ _ _ _ _ (rd_one w7 r _)).mono ?_
  rintro e w8 ⟨rfl, hb8⟩
  have b8 := (b7.alloc b7.size _).trans (hb8.below w.heap.size)
  have hT8 := hT.below b8
  go_wp2_with fail
  have cN := texts_calls (runesBytes [r]) w8 (by have := hs1.out.2; omega) hT8
  rw [text_one hc.out, kal.out] at cN
  refine cN.mono ?_
  clear cN
  rintro e w9 ⟨rfl, hb9⟩
  have b9 := b8.trans (hb9.mono b8.size)
  have hT9 := hT8.below hb9
  go_wp2_with fail
  have cN := name_calls (runesBytes [r]) w9 (by have := hs1.out.2; omega) hT9
  rw [name_one hc.out, kst.out] at cN
  refine cN.mono ?_
  clear cN
  rintro e w10 ⟨rfl, hb10⟩
  have b10 := b9.trans (hb10.mono b9.size)
  have hT10 := hT9.below hb10
  go_wp2_with fail
  have cN := name_calls (⟨#[97]⟩ ++ runesBytes [r]) w10 (by have := hs2.out.2; omega) hT10
  rw [name_two hc.out, kre.out] at cN
  refine cN.mono ?_
  clear cN
  rintro e w11 ⟨rfl, hb11⟩
  have b11 := b10.trans (hb11.mono b10.size)
  go_wp2
  go_ret
  exact ⟨rfl, b11⟩
theorem charsWithin_walk (r : Int) (w : World) (hT : Laid w) :
    Calls Tryd.prog 7 #[.int .i32 r] w fun e w' => e = .returned (.bool true) ∧ Below w.heap.size w w' := by
  obtain ⟨al, st, re, di, he, bl, hal, hbl, hst, hre, hdi, hhe, hcs⟩ := combos r
  have hch : al = true → r < 55296 ∨ 57343 < r := fun h => by
    have := allowed_ch (hal.symm.trans h)
    unfold Ch at this
    omega
  rcases hcs with ⟨rfl, rfl, rfl, rfl, rfl, rfl⟩ | ⟨rfl, rfl, rfl, rfl, rfl⟩ | ⟨rfl, rfl, rfl, rfl, rfl⟩ | ⟨rfl, rfl, rfl, rfl, rfl⟩ | ⟨rfl, rfl, rfl, rfl, rfl, rfl⟩
  · exact within0 r w hT hst.symm hre.symm hal.symm hdi.symm hhe.symm hbl.symm
  · cases bl
    · rcases hch rfl with hlo | hlo
      · exact within1a r w hT hlo hst.symm hre.symm hal.symm hdi.symm hhe.symm hbl.symm
      · exact within2a r w hT hlo hst.symm hre.symm hal.symm hdi.symm hhe.symm hbl.symm
    · rcases hch rfl with hlo | hlo
      · exact within1b r w hT hlo hst.symm hre.symm hal.symm hdi.symm hhe.symm hbl.symm
      · exact within2b r w hT hlo hst.symm hre.symm hal.symm hdi.symm hhe.symm hbl.symm
  · cases he
    · rcases hch rfl with hlo | hlo
      · exact within1c r w hT hlo hst.symm hre.symm hal.symm hdi.symm hhe.symm hbl.symm
      · exact within2c r w hT hlo hst.symm hre.symm hal.symm hdi.symm hhe.symm hbl.symm
    · rcases hch rfl with hlo | hlo
      · exact within1d r w hT hlo hst.symm hre.symm hal.symm hdi.symm hhe.symm hbl.symm
      · exact within2d r w hT hlo hst.symm hre.symm hal.symm hdi.symm hhe.symm hbl.symm
  · cases he
    · rcases hch rfl with hlo | hlo
      · exact within1e r w hT hlo hst.symm hre.symm hal.symm hdi.symm hhe.symm hbl.symm
      · exact within2e r w hT hlo hst.symm hre.symm hal.symm hdi.symm hhe.symm hbl.symm
    · rcases hch rfl with hlo | hlo
      · exact within1f r w hT hlo hst.symm hre.symm hal.symm hdi.symm hhe.symm hbl.symm
      · exact within2f r w hT hlo hst.symm hre.symm hal.symm hdi.symm hhe.symm hbl.symm
  · rcases hch rfl with hlo | hlo
    · exact within1g r w hT hlo hst.symm hre.symm hal.symm hdi.symm hhe.symm hbl.symm
    · exact within2g r w hT hlo hst.symm hre.symm hal.symm hdi.symm hhe.symm hbl.symm
end Go.Proofs.YtianmebhmjdakaaDoor
