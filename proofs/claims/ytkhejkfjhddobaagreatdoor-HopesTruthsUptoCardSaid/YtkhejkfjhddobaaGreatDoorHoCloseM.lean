/- (*Check).closes of gimlet/tree, at a Close that may come next. -/
import Derived.Test.YtkhejkfjhddobaaGreatDoorUpWM
set_option maxHeartbeats 32000000
namespace Gim
open Go Go.RowKit
theorem osC_last {os : List (Int × Int × ByteArray)} {p : Nat} (h : os.length = p + 1) {j : Nat} {v : Value} (hv : (cellE (os.getD p zo).1 (os.getD p zo).2.1 (os.getD p zo).2.2)[j]? = some v) : (osC os)[p * 8 + j]? = some v := by
 have h8 : (osC os.dropLast).length = p * 8 := by rw [osC_len, List.length_dropLast, h]; rfl
 rw [osC_split (by omega), show os.length - 1 = p by omega, List.getElem?_append_right (by omega), h8, Nat.add_sub_cancel_left]
 exact hv
end Gim
namespace Go.Proofs.YtkhejkfjhddobaaGreatDoor
open Go.RowKit Gim
section
attribute [local go_sem ↓] Go.wp_at_zero Go.wp_at_succ
set_option maxRecDepth 100000 in
theorem closes_ok {tg : Nat → Nat × Nat} {K : Nat} {vO : Value} {os : List (Int × Int × ByteArray)} {num : Int} {tx dn : Bool} (kd : Int) (aa : Option Addr) (ac : Nat) (c6 c7 : Value) (p : Nat) (n d : Int) (nm : ByteArray) (w : World) (h : ChkP w tg K vO os.length (osC os) num tx dn) (hp : os.length = p + 1) (ho : os.getD p zo = (n, d, nm)) (hpl : p ≤ 1099511627776) :
  Calls Tryz.prog 57 #[.pointer (some ⟨K, 0, none⟩), .agg #[.int .i64 kd, .int .i64 n, .int .i64 d, .string nm, .slice aa 0 ac, .string ⟨#[]⟩, c6, c7]] w fun e w' => e = .returned (.bool true) ∧ Below w.heap.size w w' := by
 obtain ⟨W1, hW1⟩ := je (w.alloc (.cells #[.int .i64 kd, .int .i64 n, .int .i64 d, .string nm, .slice aa 0 ac, .string ⟨#[]⟩, c6, c7] 45))
 have b1 : Below w.heap.size w W1 := by rw [← hW1]; exact (jf _ _).alloc (jr _) _
 have hX1 : W1.heap[w.heap.size]? = some (.cells #[.int .i64 kd, .int .i64 n, .int .i64 d, .string nm, .slice aa 0 ac, .string ⟨#[]⟩, c6, c7] 45) := by rw [← hW1]; exact jw _ _
 obtain ⟨oa, oc, hvO, hol, hocm, hog⟩ := own_slice h.row
 obtain ⟨g, hoa, _, hgs⟩ := hog p (by omega)
 subst hoa
 subst hvO
 have hK1 := (b1.block K (jl h.hK)).trans h.hK
 rw [hp] at hK1 hol
 have hrow := h.row
 rw [hp] at hrow
 have hcl : ∀ (j : Nat) (v : Value), (cellE n d nm)[j]? = some v → W1.cell? ⟨g, p * 8 + j, none⟩ = some v := fun j v hj => by
  have e1 := ownsRow_at hrow (osC_last hp (by rw [ho]; exact hj))
  exact (b1.cell (p := ⟨g, _, none⟩) hgs).trans e1
 have y1 := jc hX1 1 rfl; have y2 := jc hX1 2 rfl; have y3 := jc hX1 3 rfl; have y4 := jc hX1 4 rfl; have y5 := jc hX1 5 rfl
 have k0 := jc hK1 0 rfl
 have x0 : W1.cell? ⟨g, p * 8, none⟩ = some (.int .i64 0) := hcl 0 _ rfl
 have x1 : W1.cell? ⟨g, p * 8 + 1, none⟩ = some (.int .i64 n) := hcl 1 _ rfl
 have x2 : W1.cell? ⟨g, p * 8 + 2, none⟩ = some (.int .i64 d) := hcl 2 _ rfl
 have x3 : W1.cell? ⟨g, p * 8 + 3, none⟩ = some (.string nm) := hcl 3 _ rfl
 have x4 : W1.cell? ⟨g, p * 8 + 4, none⟩ = some (.slice none 0 0) := hcl 4 _ rfl
 have x5 : W1.cell? ⟨g, p * 8 + 5, none⟩ = some (.string ⟨#[]⟩) := hcl 5 _ rfl
 have x6 : W1.cell? ⟨g, p * 8 + 6, none⟩ = some (.int .i64 0) := hcl 6 _ rfl
 have x7 : W1.cell? ⟨g, p * 8 + 7, none⟩ = some (.int .i64 0) := hcl 7 _ rfl
 have hgs1 : g < W1.heap.size := jt hgs b1.size
 have h1s : w.heap.size < W1.heap.size := jl hX1
 have hK1s : K < W1.heap.size := jl hK1
 have e1 : (n == n) = true := beq_self_eq_true _
 have e2 : (d == d) = true := beq_self_eq_true _
 have e4 : IntKind.i64.wrap ((p : Int) + 1 - 1) = (p : Int) := by rw [show ((p : Int) + 1 - 1) = (p : Int) by omega]; exact IntWalk.i64_in _ (by omega)
 have e6 : IntKind.i64.wrap (p : Int) = (p : Int) := IntWalk.i64_in _ (by omega)
 have hpc : (p : Int) < (p : Int) + 1 := by omega
 have HB1 := jh b1
 have HX1 := jh hX1
 have HW1 := jh hW1
 clear hX1 b1 hW1 hK1 h hrow hcl hp ho hog
 go_enter Tryz.func57, Tryz.ntmps57
 go_upto_region 1 with fail
 rw [HW1.out]
 go_upto_region 3 with fail
 go_region
 all_goals
  go_wp2_with fail
  go_ret
  exact ⟨rfl, HB1.out.trans ((by first | exact ((jf _ _).alloc (jr _) _) | exact (((jf _ _).alloc (jr _) _).drew) : Below W1.heap.size W1 _).mono HB1.out.size)⟩
end
section
attribute [local irreducible] Go.wpQuiet
attribute [local go_sem ↓] Go.wp_at_zero Go.wp_at_succ
set_option maxRecDepth 100000 in
theorem ctake_text {tg : Nat → Nat × Nat} {K : Nat} {vO : Value} {en : Nat} {es : List Value} {num : Int} (s : ByteArray) (w : World) (h : ChkP w tg K vO en es num false false) (hT : Laid w) (hs : s.size ≤ 9223372036854775807) (hen : en ≤ 1048576) (hb : textsB s = true) (hne : ¬ s = ⟨#[]⟩) (h0 : 0 < en) (hnum : 0 ≤ num ∧ num ≤ 1099511627776)
  (aa : Option Addr) (ac : Nat) (c6 c7 : Int) :
  Calls Tryz.prog 30 #[.pointer (some ⟨K, 0, none⟩), .agg #[.int .i64 1, .int .i64 num, .int .i64 ((en : Int) + 1), .string ⟨#[]⟩, .slice aa 0 ac, .string s, .int .i64 c6, .int .i64 c7]] w fun e w' => e = .returned (.bool true) ∧ CkM 0 w w' K vO vO en es (num + 1) true false := by
 obtain ⟨W1, hW1⟩ := je (w.alloc (.cells #[.int .i64 1, .int .i64 num, .int .i64 ((en : Int) + 1), .string ⟨#[]⟩, .slice aa 0 ac, .string s, .int .i64 c6, .int .i64 c7] 45))
 have b1 : Below w.heap.size w W1 := by rw [← hW1]; exact (jf _ _).alloc (jr _) _
 have hX1 : W1.heap[w.heap.size]? = some (.cells #[.int .i64 1, .int .i64 num, .int .i64 ((en : Int) + 1), .string ⟨#[]⟩, .slice aa 0 ac, .string s, .int .i64 c6, .int .i64 c7] 45) := by rw [← hW1]; exact jw _ _
 obtain ⟨oa, oc, rfl, _⟩ := own_slice h.row
 have h1 : ChkP W1 tg K (.slice oa en oc) en es num false false := h.keep fun b hl _ => ⟨b1.block b hl, rfl⟩
 have hK1 := h1.hK
 have h1s : w.heap.size < W1.heap.size := jl hX1
 have hK1s : K < W1.heap.size := jl hK1
 have y0 := jc hX1 0 rfl
 have k3 := jc hK1 3 rfl
 have u1 := up_cell h1s (show W1.cell? ⟨w.heap.size, 1, none⟩ = some (.int .i64 num) by simp [World.cell?, hX1])
 have u2 := up_cell h1s (show W1.cell? ⟨w.heap.size, 2, none⟩ = some (.int .i64 ((en : Int) + 1)) by simp [World.cell?, hX1])
 have u3 := up_cell h1s (show W1.cell? ⟨w.heap.size, 3, none⟩ = some (.string ⟨#[]⟩) by simp [World.cell?, hX1])
 have u4 := up_cell h1s (show W1.cell? ⟨w.heap.size, 4, none⟩ = some (.slice aa 0 ac) by simp [World.cell?, hX1])
 have u5 := up_cell h1s (show W1.cell? ⟨w.heap.size, 5, none⟩ = some (.string s) by simp [World.cell?, hX1])
 have v0 := up_cell hK1s (show W1.cell? ⟨K, 0, none⟩ = some (.slice oa en oc) by simp [World.cell?, hK1])
 have v1 := up_cell hK1s (show W1.cell? ⟨K, 1, none⟩ = some (.int .i64 num) by simp [World.cell?, hK1])
 have v2 := up_cell hK1s (show W1.cell? ⟨K, 2, none⟩ = some (.bool false) by simp [World.cell?, hK1])
 have hct : Hid (∀ p : UpW W1, Calls Tryz.prog 56 #[.string s] p.W fun e w'' => e = .returned (.bool true) ∧ ∃ q : UpW W1, w'' = q.W) := jh fun p => calls_up (by
  have := texts_calls s p.W hs ((hT.below b1).below p.h)
  rw [hb] at this
  exact this)
 have HB1 := jh b1
 have HW1 := jh hW1
 have HX1 := jh hX1
 have HK1 := jh hK1
 have HROW := jh h1.row
 have HNE : Hid (∀ g, (Value.slice oa en oc).ownBlock = some g → g ≠ K) := jh fun g e => by
  have h2 := h.tg4 g e
  rintro rfl
  rw [h.tK] at h2
  cases h2
 have HNUM := jh hnum
 have HKL := jh (jl h.hK)
 have e1 : (num == num) = true := beq_self_eq_true _
 have e2 : ((en : Int) + 1 == (en : Int) + 1) = true := beq_self_eq_true _
 have e4 : IntKind.i64.wrap ((en : Int) + 1) = (en : Int) + 1 := IntWalk.i64_in _ (by omega)
 have e5 : (0 : Int) < (en : Int) := by omega
 have e6 : ¬ s.toList = [] := list_ne hne
 have e7 : (s.toList == []) = false := jn.2 e6
 clear hX1 b1 hW1 hK1 h h1 hT hs hb hnum hne
 go_enter Tryz.func30, Tryz.ntmps30
 go_upto_region 1 with fail
 rw [HW1.out]
 go_upto_region 7 with fail
 refine wp_region_up (by kernel_rfl) (by kernel_rfl) ?_
 repeat (quiet_step (first | (go_at_call 56; with_reducible exact hct.out _)))
 refine wpQuiet_nil ?_
 intro w6 hw'
 obtain ⟨⟨wz, hbz⟩, hw''⟩ := hw'
 have hb6 : Below W1.heap.size W1 w6 := by
  rw [hw'']
  exact hbz
 clear hw'' hbz
 clear wz
 have hK6 := (hb6.block K hK1s).trans HK1.out
 have hX6 := (hb6.block _ h1s).trans HX1.out
 have y0 := jc hX6 0 rfl
 have k2 := jc hK6 2 rfl; have k1 := jc hK6 1 rfl
 have z2 := cells_free hK6 2
 have z1 := cells_free hK6 1
 have hK6s : K < w6.heap.size := jl hK6
 have hX6s : w.heap.size < w6.heap.size := jl hX6
 have hKX : w.heap.size ≠ K := by
  intro e
  rw [e] at h1s
  have := HKL.out
  omega
 have hn0 := HNUM.out.1
 have hn1 := HNUM.out.2
 have HFIN : Hid (CkM 0 w ((w6.setCell ⟨K, 2, none⟩ (.bool true)).setCell ⟨K, 1, none⟩ (.int .i64 (num + 1))) K (.slice oa en oc) (.slice oa en oc) en es (num + 1) true false) := jh (by
  have hb := HB1.out.trans (hb6.mono HB1.out.size)
  refine ⟨((Fr.of hb).set K 2 _ (.inl rfl)).set K 1 _ (.inl rfl), by rw [nset_at (nset_at hK6 _) _]; rfl, ownsRow_same HROW.out fun g hg => ?_, .inl rfl⟩
  have hne := HNE.out g hg
  have hlt := (World.ownsRow.lt HROW.out g hg).2
  exact ((js _ ⟨K, 1, none⟩ _ g hne).trans (js w6 ⟨K, 2, none⟩ _ g hne)).trans (hb6.block g hlt))
 clear hb6 hK6 hX6 u1 u2 u3 u4 u5 v0 v1 v2 e1 e2 e4 e5 e6 e7 k3
 go_wp2_with fail
 go_ret
 exact ⟨rfl, HFIN.out⟩
end
section
attribute [local go_sem ↓] Go.wp_at_zero Go.wp_at_succ
set_option maxRecDepth 100000 in
theorem ctake_close {tg : Nat → Nat × Nat} {K : Nat} {vO : Value} {os : List (Int × Int × ByteArray)} {num : Int} {tx : Bool} (aa : Option Addr) (ac : Nat) (c6 c7 : Int) (p : Nat) (n d : Int) (nm : ByteArray) (w : World) (h : ChkP w tg K vO os.length (osC os) num tx false) (hp : os.length = p + 1) (ho : os.getD p zo = (n, d, nm)) (hpl : p ≤ 1048576) :
  Calls Tryz.prog 30 #[.pointer (some ⟨K, 0, none⟩), .agg #[.int .i64 2, .int .i64 n, .int .i64 d, .string nm, .slice aa 0 ac, .string ⟨#[]⟩, .int .i64 c6, .int .i64 c7]] w fun e w' => e = .returned (.bool true) ∧ ∃ vP, CkM 0 w w' K vO vP p (osC os.dropLast) num false (decide (p = 0)) := by
 obtain ⟨W1, hW1⟩ := je (w.alloc (.cells #[.int .i64 2, .int .i64 n, .int .i64 d, .string nm, .slice aa 0 ac, .string ⟨#[]⟩, .int .i64 c6, .int .i64 c7] 45))
 have b1 : Below w.heap.size w W1 := by rw [← hW1]; exact (jf _ _).alloc (jr _) _
 have hX1 : W1.heap[w.heap.size]? = some (.cells #[.int .i64 2, .int .i64 n, .int .i64 d, .string nm, .slice aa 0 ac, .string ⟨#[]⟩, .int .i64 c6, .int .i64 c7] 45) := by rw [← hW1]; exact jw _ _
 have h1 : ChkP W1 tg K vO os.length (osC os) num tx false := h.keep fun b hl _ => ⟨b1.block b hl, rfl⟩
 have HCL := jh (closes_ok 2 aa ac (.int .i64 c6) (.int .i64 c7) p n d nm W1 h1 hp ho (by omega))
 obtain ⟨oa, oc, hvO, hol, hocm, hog⟩ := own_slice h.row
 obtain ⟨g, hoa, _, hgs⟩ := hog p (by omega)
 subst hoa
 subst hvO
 have hrow := h1.row
 have hK1 := h1.hK
 have hsp := osC_split (os := os) (by omega)
 rw [hsp, hp] at hrow
 have hROW2 : W1.ownsRow 0 45 8 (.slice (some ⟨g, 0, none⟩) p oc) p (osC os.dropLast) := ownsRow_pop (by rw [osC_len, List.length_dropLast, hp]; rfl) hrow
 rw [hp] at hK1 hol
 have h1s : w.heap.size < W1.heap.size := jl hX1
 have hK1s : K < W1.heap.size := jl hK1
 have y0 := jc hX1 0 rfl; have y1 := jc hX1 1 rfl; have y2 := jc hX1 2 rfl; have y3 := jc hX1 3 rfl; have y4 := jc hX1 4 rfl; have y5 := jc hX1 5 rfl; have y6 := jc hX1 6 rfl; have y7 := jc hX1 7 rfl
 have k3 := jc hK1 3 rfl
 have hgK : g ≠ K := by
  have h2 := h.tg4 g rfl
  rintro rfl
  rw [h.tK] at h2
  cases h2
 have hKX : w.heap.size ≠ K := by
  have := jl h.hK
  omega
 have HB1 := jh b1
 have HW1 := jh hW1
 have HX1 := jh hX1
 have HK1 := jh hK1
 have HROW := jh hROW2
 have HGK := jh hgK
 have e4 : IntKind.i64.wrap ((p : Int) + 1 - 1) = (p : Int) := by rw [show ((p : Int) + 1 - 1) = (p : Int) by omega]; exact IntWalk.i64_in _ (by omega)
 have e6 : IntKind.i64.wrap (p : Int) = (p : Int) := IntWalk.i64_in _ (by omega)
 have hpc : (p : Int) ≤ oc := by omega
 have hpc2 : p ≤ oc := by omega
 have HEB := jh (show ((p : Int) == 0) = decide (p = 0) by rw [Bool.eq_iff_iff, beq_iff_eq, decide_eq_true_eq]; omega)
 have HG1 := jh (jt hgs b1.size)
 rw [hp]
 clear hX1 b1 hW1 hK1 h h1 hrow hROW2 hp ho hog hsp hol hgK hgs
 go_enter Tryz.func30, Tryz.ntmps30
 go_upto_region 1 with fail
 rw [HW1.out]
 go_wp2_with fail
 refine HCL.out.mono ?_
 rintro e w2 ⟨rfl, hb2⟩
 have hK2 := (hb2.block K hK1s).trans HK1.out
 have hX2 := (hb2.block _ h1s).trans HX1.out
 have y0 := jc hX2 0 rfl
 have k2 := jc hK2 2 rfl; have k0 := jc hK2 0 rfl; have k3 := jc hK2 3 rfl
 have z0 := cells_free hK2 0
 have z2 := cells_free hK2 2
 have z3 := cells_free hK2 3
 have hK2s : K < w2.heap.size := jl hK2
 have hX2s : w.heap.size < w2.heap.size := jl hX2
 have HB2 := jh hb2
 have HK2 := jh hK2
 have HX2 := jh hX2
 clear hb2 hK2 hX2 y1 y2 y3 y4 y5 y6 y7
 go_upto_region 20 with fail
 have HFIN : Hid (∀ (b : Bool) (wz : World), b = decide (p = 0) → Fr (fun b => b = K) w2 wz → wz.heap[K]? = some (.cells #[.slice (some ⟨g, 0, none⟩) p oc, .int .i64 num, .bool false, .bool b] 101) → ∃ vP, CkM 0 w wz K (.slice (some ⟨g, 0, none⟩) (p + 1) oc) vP p (osC os.dropLast) num false (decide (p = 0))) := jh fun b wz hb hf hz => by
  subst hb
  have hb := HB1.out.trans (HB2.out.mono HB1.out.size)
  refine ⟨.slice (some ⟨g, 0, none⟩) p oc, (Fr.of hb).trans (hf.mono fun b e => .inl e), hz, ownsRow_same HROW.out fun g' hg => ?_, .inl rfl⟩
  have hg : some g = some g' := hg
  injection hg with hg
  subst hg
  have h1 := HG1.out
  exact (hf.block g (jt h1 HB2.out.size) HGK.out).trans (HB2.out.block g h1)
 go_region
 all_goals
  go_wp2_with fail
  go_ret
  refine ⟨rfl, HFIN.out ((p : Int) == 0) _ HEB.out ?_ ?_⟩
  ·exact ((((Fr.refl (fun b => b = K) w2).set K 2 _ rfl).set K 0 _ rfl).set K 3 _ rfl).trans (Fr.of ((jf _ _).drew))
  ·show ((_ : World).setCell _ _).heap[K]? = _
   rw [nset_at (nset_at (nset_at HK2.out _) _) _]
   rfl
end
end Go.Proofs.YtkhejkfjhddobaaGreatDoor
