/- kleene.simple of any formula. Printed by wip/mksimple.py. -/
import Derived.Test.YtmdanfeilgeoaaaKParts
import Derived.Test.YtmdanfeilgeoaaaKTurnLaw
import Derived.BigQuiet
namespace Gim
open Go Go.RowKit Go.Sort Go.Proofs Go.Lib
/-- what simple answers: the formula, in memory of the call's own -/
def Simped (W : World) (r : Fm) (e : Ending) (w' : World) : Prop :=
  ∃ op v x gs a n cap, e = .returned (.agg #[.int .i64 op, .int .i64 v, .int .i64 x, .slice a n cap]) ∧ r = .mk op v x gs ∧ FitR W.heap.size w'.heap.size w' gs a n cap ∧ Below W.heap.size W w'
theorem fitR_nil (lo hi : Nat) (W : World) (h : hi ≤ W.heap.size) : FitR lo hi W [] none 0 0 := ⟨h, fun _ _ => ⟨rfl, Nat.le_refl _, Nat.zero_le _, fun _ hj => absurd hj (Nat.not_lt_zero _)⟩⟩
theorem fitS_nil (W : World) : FitS W [] none 0 0 := ⟨rfl, Nat.le_refl _, Nat.zero_le _, fun _ hj => absurd hj (Nat.not_lt_zero _)⟩
theorem simpF_not (vs : List Int) (v x : Int) (f : Fm) : simpF vs (.mk 4 v x [f]) = notF (simpF vs f) := by
  conv => lhs; unfold simpF
  rw [if_neg (by omega), if_neg (by omega), if_pos rfl]
  conv => lhs; unfold simpL
  rfl
def flK (op : Int) (l : List Fm) : List Fm := l.flatMap fun a => if opF a = op then arF a else if ordF a (cst (keptV op)) = 0 then [] else [a]
theorem flK_snoc (op : Int) (l : List Fm) (a : Fm) : flK op (l ++ [a]) = flK op l ++ (if opF a = op then arF a else if ordF a (cst (keptV op)) = 0 then [] else [a]) := by
  unfold flK
  rw [List.flatMap_append]
  simp
theorem flK_len (op : Int) : ∀ l : List Fm, (flK op l).length ≤ szL l
  | [] => by simp [flK]
  | a :: r => by
    have ih := flK_len op r
    unfold flK at ih ⊢
    rw [List.flatMap_cons, List.length_append]
    generalize (List.flatMap _ r).length = q at ih ⊢
    have ha := szF_pos a
    simp only [szL]
    by_cases k : opF a = op
    · rw [if_pos k]
      obtain ⟨o, v, x, gs⟩ := a
      have := fm_len gs
      simp only [arF, szF]
      omega
    · rw [if_neg k]
      by_cases m : ordF a (cst (keptV op)) = 0
      · rw [if_pos m]
        simp only [List.length_nil]
        omega
      · rw [if_neg m]
        simp only [List.length_cons, List.length_nil]
        omega
theorem simpL_take (vs : List Int) (gs : List Fm) (q : Nat) (f : Fm) (h : gs[q]? = some f) : simpL vs (gs.take (q + 1)) = simpL vs (gs.take q) ++ [simpF vs f] := by
  rw [take_next h, simpL_map, simpL_map, List.map_append]
  rfl
theorem isL_take {gs : List Fm} (h : isL gs = true) (q : Nat) : isL (gs.take q) = true := (isL_iff _).2 fun g hg => (isL_iff _).1 h g (List.mem_of_mem_take hg)
/-- four cells written over -/
theorem out4 {t : TypeId} {w : World} {R : Nat} {p q r s : Value} (h : w.heap[R]? = some (.cells #[p, q, r, s] t)) (p' q' r' s' : Value) :
    ((((w.setCell ⟨R, 0, none⟩ p').setCell ⟨R, 1, none⟩ q').setCell ⟨R, 2, none⟩ r').setCell ⟨R, 3, none⟩ s').heap[R]? = some (.cells #[p', q', r', s'] t) ∧ w.grownBy ((((w.setCell ⟨R, 0, none⟩ p').setCell ⟨R, 1, none⟩ q').setCell ⟨R, 2, none⟩ r').setCell ⟨R, 3, none⟩ s') (some R) :=
  ⟨Go.Joins.block_setCell (Go.Joins.block_setCell (Go.Joins.block_setCell (Go.Joins.block_setCell h (i := 0) p') (i := 1) q') (i := 2) r') (i := 3) s', World.grownBy.trans (World.grownBy.trans (World.grownBy.trans (grownBy_setAt _ _ _ _) (grownBy_setAt _ _ _ _)) (grownBy_setAt _ _ _ _)) (grownBy_setAt _ _ _ _)⟩
theorem cells4_of {t : TypeId} {w : World} {R : Nat} {p q r s : Value} (h : w.heap[R]? = some (.cells #[p, q, r, s] t)) : (w.cell? ⟨R, 0, none⟩ = some p ∧ w.cell? ⟨R, 1, none⟩ = some q ∧ w.cell? ⟨R, 2, none⟩ = some r ∧ w.cell? ⟨R, 3, none⟩ = some s) ∧ w.frozen? ⟨R, 0, none⟩ = false ∧ w.frozen? ⟨R, 1, none⟩ = false ∧ w.frozen? ⟨R, 2, none⟩ = false ∧ w.frozen? ⟨R, 3, none⟩ = false := by
  simp [World.cell?, World.frozen?, h]
end Gim
namespace Go.Proofs.Ytmdanfeilgeoaaa
open Go.RowKit Gim Go.Sort Go.Lib
def SimpAt (vs : List Int) (va : Option Addr) (vn vc : Nat) (f : Fm) : Prop := ∀ op v x gs a n cap W, f = .mk op v x gs → FitS W gs a n cap → Rd W .i64 va vn vc vs →
  Calls Try.prog 31 #[.agg #[.int .i64 op, .int .i64 v, .int .i64 x, .slice a n cap], .slice va vn vc] W (Simped W (simpF vs f))
set_option maxRecDepth 100000 in
set_option maxHeartbeats 4000000 in
theorem simple_const (vs : List Int) (va : Option Addr) (vn vc : Nat) (v x : Int) (gs : List Fm) (a : Option Addr) (n cap : Nat) (w : World) :
    Calls Try.prog 31 #[.agg #[.int .i64 0, .int .i64 v, .int .i64 x, .slice a n cap], .slice va vn vc] w (Simped w (simpF vs (.mk 0 v x gs))) := by
  rw [show simpF vs (.mk 0 v x gs) = cst v by unfold simpF; rw [if_pos rfl]]
  obtain ⟨S0, hS0⟩ : ∃ S0, w.heap.size = S0 := ⟨_, rfl⟩
  have hb0 : Below w.heap.size w ((w.alloc (.cells #[.int .i64 0, .int .i64 v, .int .i64 x, .slice a n cap] 26)).alloc (.cells #[.int .i64 0, .int .i64 0, .int .i64 0, .slice none 0 0] 26)) := ((Below.refl _ _).alloc (Nat.le_refl _) _).alloc (by simp) _
  have hs0 : ((w.alloc (.cells #[.int .i64 0, .int .i64 v, .int .i64 x, .slice a n cap] 26)).alloc (.cells #[.int .i64 0, .int .i64 0, .int .i64 0, .slice none 0 0] 26)).heap.size = S0 + 2 := by simp [hS0]
  have hx0 : ((w.alloc (.cells #[.int .i64 0, .int .i64 v, .int .i64 x, .slice a n cap] 26)).alloc (.cells #[.int .i64 0, .int .i64 0, .int .i64 0, .slice none 0 0] 26)).heap[S0]? = some (.cells #[.int .i64 0, .int .i64 v, .int .i64 x, .slice a n cap] 26) := by rw [← hS0]; exact (heap_alloc_old _ _ (by simp)).trans (heap_alloc_new _ _)
  have hr0 : ((w.alloc (.cells #[.int .i64 0, .int .i64 v, .int .i64 x, .slice a n cap] 26)).alloc (.cells #[.int .i64 0, .int .i64 0, .int .i64 0, .slice none 0 0] 26)).heap[S0 + 1]? = some (.cells #[.int .i64 0, .int .i64 0, .int .i64 0, .slice none 0 0] 26) := by
    have := heap_alloc_new (w.alloc (.cells #[.int .i64 0, .int .i64 v, .int .i64 x, .slice a n cap] 26)) (.cells #[.int .i64 0, .int .i64 0, .int .i64 0, .slice none 0 0] 26)
    rw [World.size_alloc, hS0] at this
    exact this
  go_enter Try.func31, Try.ntmps31
  go_upto_region 1 with fail
  obtain ⟨w0, hw0⟩ : ∃ w0, ((w.alloc (.cells #[.int .i64 0, .int .i64 v, .int .i64 x, .slice a n cap] 26)).alloc (.cells #[.int .i64 0, .int .i64 0, .int .i64 0, .slice none 0 0] 26)) = w0 := ⟨_, rfl⟩
  rw [hw0] at hb0 hs0 hx0 hr0 ⊢
  try rw [hS0]
  clear hw0
  obtain ⟨⟨cx0, cx1, cx2, cx3⟩, _⟩ := cells4_of hx0
  have HX0 := Lib.hid hx0
  have HR0 := Lib.hid hr0
  have HB0 := Lib.hid hb0
  have HS00 := Lib.hid hS0
  have HS0 := Lib.hid hs0
  clear hx0 hr0 hb0 hs0 hS0
  go_wp2_with fail
  refine (constant_calls v w0).mono ?_
  rintro e w1 ⟨rfl, g1⟩
  have HR1 := Lib.hid ((g1.below.block _ (Array.getElem?_eq_some_iff.1 HR0.out).1).trans HR0.out)
  have HB1 := Lib.hid (HB0.out.trans (g1.below.mono HB0.out.size))
  clear cx0 cx1 cx2 cx3 g1
  obtain ⟨⟨r0, r1, r2, r3⟩, z0, z1, z2, z3⟩ := cells4_of HR1.out
  go_wp2_with fail
  obtain ⟨h8, g8⟩ := out4 HR1.out (.int .i64 0) (.int .i64 v) (.int .i64 0) (.slice none 0 0)
  obtain ⟨W8, hW8⟩ : ∃ W8, Hid (W8 = (((w1.setCell ⟨S0 + 1, 0, none⟩ (.int .i64 0)).setCell ⟨S0 + 1, 1, none⟩ (.int .i64 v)).setCell ⟨S0 + 1, 2, none⟩ (.int .i64 0)).setCell ⟨S0 + 1, 3, none⟩ (.slice none 0 0)) := ⟨_, Lib.hid rfl⟩
  rw [← hW8.out] at h8 g8 ⊢
  obtain ⟨⟨j0, j1, j2, j3⟩, _⟩ := cells4_of h8
  refine bodyPost_ret (v := .agg #[.int .i64 0, .int .i64 v, .int .i64 0, .slice none 0 0]) ?_ rfl ?_
  · simp [results, Try.f31, go_sem, j0, j1, j2, j3]
  · exact ⟨0, v, 0, [], none, 0, 0, rfl, rfl, fitR_nil _ _ _ (Nat.le_refl _), HB1.out.grown g8 HB1.out.size (fun j e => by have := Option.some.inj e; have := HS00.out; omega)⟩
set_option maxRecDepth 100000 in
set_option maxHeartbeats 4000000 in
theorem simple_vari (vs : List Int) (va : Option Addr) (vn vc : Nat) (v x : Int) (gs : List Fm) (a : Option Addr) (n cap : Nat) (w : World) (hx : 0 ≤ x) (hV : Rd w .i64 va vn vc vs) :
    Calls Try.prog 31 #[.agg #[.int .i64 1, .int .i64 v, .int .i64 x, .slice a n cap], .slice va vn vc] w (Simped w (simpF vs (.mk 1 v x gs))) := by
  rw [show simpF vs (.mk 1 v x gs) = (if valB vs x = 1 then .mk 1 0 x [] else cst (valB vs x)) by unfold simpF; rw [if_neg (by omega), if_pos rfl]]
  obtain ⟨X, rfl⟩ := Int.eq_ofNat_of_zero_le hx
  have hvn := hV.len
  have hvl := hV.le
  have hvc := hV.cap_le
  have hvb : vn ≤ 9223372036854775807 := by unfold maxLen at hvc; omega
  obtain ⟨t, ht⟩ : ∃ t, valB vs (X : Int) = t := ⟨_, rfl⟩
  rw [ht]
  have HT := Lib.hid ht
  have hVb := fun W (hb : Below w.heap.size w W) => hV.below hb
  obtain ⟨S0, hS0⟩ : ∃ S0, w.heap.size = S0 := ⟨_, rfl⟩
  have hb0 : Below w.heap.size w ((w.alloc (.cells #[.int .i64 1, .int .i64 v, .int .i64 (X : Int), .slice a n cap] 26)).alloc (.cells #[.int .i64 0, .int .i64 0, .int .i64 0, .slice none 0 0] 26)) := ((Below.refl _ _).alloc (Nat.le_refl _) _).alloc (by simp) _
  have hs0 : ((w.alloc (.cells #[.int .i64 1, .int .i64 v, .int .i64 (X : Int), .slice a n cap] 26)).alloc (.cells #[.int .i64 0, .int .i64 0, .int .i64 0, .slice none 0 0] 26)).heap.size = S0 + 2 := by simp [hS0]
  have hx0 : ((w.alloc (.cells #[.int .i64 1, .int .i64 v, .int .i64 (X : Int), .slice a n cap] 26)).alloc (.cells #[.int .i64 0, .int .i64 0, .int .i64 0, .slice none 0 0] 26)).heap[S0]? = some (.cells #[.int .i64 1, .int .i64 v, .int .i64 (X : Int), .slice a n cap] 26) := by rw [← hS0]; exact (heap_alloc_old _ _ (by simp)).trans (heap_alloc_new _ _)
  have hr0 : ((w.alloc (.cells #[.int .i64 1, .int .i64 v, .int .i64 (X : Int), .slice a n cap] 26)).alloc (.cells #[.int .i64 0, .int .i64 0, .int .i64 0, .slice none 0 0] 26)).heap[S0 + 1]? = some (.cells #[.int .i64 0, .int .i64 0, .int .i64 0, .slice none 0 0] 26) := by
    have := heap_alloc_new (w.alloc (.cells #[.int .i64 1, .int .i64 v, .int .i64 (X : Int), .slice a n cap] 26)) (.cells #[.int .i64 0, .int .i64 0, .int .i64 0, .slice none 0 0] 26)
    rw [World.size_alloc, hS0] at this
    exact this
  go_enter Try.func31, Try.ntmps31
  go_upto_region 1 with fail
  obtain ⟨w0, hw0⟩ : ∃ w0, ((w.alloc (.cells #[.int .i64 1, .int .i64 v, .int .i64 (X : Int), .slice a n cap] 26)).alloc (.cells #[.int .i64 0, .int .i64 0, .int .i64 0, .slice none 0 0] 26)) = w0 := ⟨_, rfl⟩
  rw [hw0] at hb0 hs0 hx0 hr0 ⊢
  try rw [hS0]
  clear hw0
  obtain ⟨⟨cx0, cx1, cx2, cx3⟩, _⟩ := cells4_of hx0
  have HX0 := Lib.hid hx0
  have HR0 := Lib.hid hr0
  have HB0 := Lib.hid hb0
  have HS00 := Lib.hid hS0
  have HS0 := Lib.hid hs0
  clear hx0 hr0 hb0 hs0 hS0
  by_cases hxn : X < vn
  · have hxn' : (X : Int) < vn := by omega
    obtain ⟨b, o, ha, hb, hcl⟩ := (hVb w0 HB0.out).cell X hxn
    subst ha
    have hc := hcl X hxn
    clear hcl
    have hgt : gt vs X = t := by
      have := HT.out
      unfold valB at this
      rw [if_pos (by omega)] at this
      simpa using this
    rw [hgt] at hc
    clear hV hVb ht
    by_cases h1 : t = 1
    · subst h1
      have HB1 := HB0
      clear hgt
      obtain ⟨⟨r0, r1, r2, r3⟩, z0, z1, z2, z3⟩ := cells4_of HR0.out
      go_wp2_with fail
      obtain ⟨h8, g8⟩ := out4 HR0.out (.int .i64 1) (.int .i64 0) (.int .i64 (X : Int)) (.slice none 0 0)
      obtain ⟨W8, hW8⟩ : ∃ W8, Hid (W8 = (((w0.setCell ⟨S0 + 1, 0, none⟩ (.int .i64 1)).setCell ⟨S0 + 1, 1, none⟩ (.int .i64 0)).setCell ⟨S0 + 1, 2, none⟩ (.int .i64 (X : Int))).setCell ⟨S0 + 1, 3, none⟩ (.slice none 0 0)) := ⟨_, Lib.hid rfl⟩
      rw [← hW8.out] at h8 g8 ⊢
      obtain ⟨⟨j0, j1, j2, j3⟩, _⟩ := cells4_of h8
      refine bodyPost_ret (v := .agg #[.int .i64 1, .int .i64 0, .int .i64 (X : Int), .slice none 0 0]) ?_ rfl ?_
      · simp [results, Try.f31, go_sem, j0, j1, j2, j3]
      · try rw [if_pos rfl]
        exact ⟨1, 0, X, [], none, 0, 0, rfl, rfl, fitR_nil _ _ _ (Nat.le_refl _), HB1.out.grown g8 HB1.out.size (fun j e => by have := Option.some.inj e; have := HS00.out; omega)⟩
    · have h1' : (t != 1) = true := by simpa using h1
      clear hgt
      go_wp2_with fail
      refine (constant_calls t w0).mono ?_
      rintro e w1 ⟨rfl, g1⟩
      have HR1 := Lib.hid ((g1.below.block _ (Array.getElem?_eq_some_iff.1 HR0.out).1).trans HR0.out)
      have HB1 := Lib.hid (HB0.out.trans (g1.below.mono HB0.out.size))
      clear cx0 cx1 cx2 cx3 g1
      obtain ⟨⟨r0, r1, r2, r3⟩, z0, z1, z2, z3⟩ := cells4_of HR1.out
      go_wp2_with fail
      obtain ⟨h8, g8⟩ := out4 HR1.out (.int .i64 0) (.int .i64 t) (.int .i64 0) (.slice none 0 0)
      obtain ⟨W8, hW8⟩ : ∃ W8, Hid (W8 = (((w1.setCell ⟨S0 + 1, 0, none⟩ (.int .i64 0)).setCell ⟨S0 + 1, 1, none⟩ (.int .i64 t)).setCell ⟨S0 + 1, 2, none⟩ (.int .i64 0)).setCell ⟨S0 + 1, 3, none⟩ (.slice none 0 0)) := ⟨_, Lib.hid rfl⟩
      rw [← hW8.out] at h8 g8 ⊢
      obtain ⟨⟨j0, j1, j2, j3⟩, _⟩ := cells4_of h8
      refine bodyPost_ret (v := .agg #[.int .i64 0, .int .i64 t, .int .i64 0, .slice none 0 0]) ?_ rfl ?_
      · simp [results, Try.f31, go_sem, j0, j1, j2, j3]
      · try rw [if_neg h1]
        exact ⟨0, t, 0, [], none, 0, 0, rfl, rfl, fitR_nil _ _ _ (Nat.le_refl _), HB1.out.grown g8 HB1.out.size (fun j e => by have := Option.some.inj e; have := HS00.out; omega)⟩
  · have hxn' : ¬ (X : Int) < vn := by omega
    have h1 : t = 1 := by
      rw [← HT.out]
      unfold valB
      rw [if_neg (by omega)]
    subst h1
    have HB1 := HB0
    clear hV hVb ht
    obtain ⟨⟨r0, r1, r2, r3⟩, z0, z1, z2, z3⟩ := cells4_of HR0.out
    go_wp2_with fail
    obtain ⟨h8, g8⟩ := out4 HR0.out (.int .i64 1) (.int .i64 0) (.int .i64 (X : Int)) (.slice none 0 0)
    obtain ⟨W8, hW8⟩ : ∃ W8, Hid (W8 = (((w0.setCell ⟨S0 + 1, 0, none⟩ (.int .i64 1)).setCell ⟨S0 + 1, 1, none⟩ (.int .i64 0)).setCell ⟨S0 + 1, 2, none⟩ (.int .i64 (X : Int))).setCell ⟨S0 + 1, 3, none⟩ (.slice none 0 0)) := ⟨_, Lib.hid rfl⟩
    rw [← hW8.out] at h8 g8 ⊢
    obtain ⟨⟨j0, j1, j2, j3⟩, _⟩ := cells4_of h8
    refine bodyPost_ret (v := .agg #[.int .i64 1, .int .i64 0, .int .i64 (X : Int), .slice none 0 0]) ?_ rfl ?_
    · simp [results, Try.f31, go_sem, j0, j1, j2, j3]
    · try rw [if_pos rfl]
      exact ⟨1, 0, X, [], none, 0, 0, rfl, rfl, fitR_nil _ _ _ (Nat.le_refl _), HB1.out.grown g8 HB1.out.size (fun j e => by have := Option.some.inj e; have := HS00.out; omega)⟩
set_option maxRecDepth 100000 in
set_option maxHeartbeats 4000000 in
theorem simple_not (vs : List Int) (va : Option Addr) (vn vc : Nat) (v x : Int) (f : Fm) (a : Option Addr) (n cap : Nat) (w : World) (hF : FitS w [f] a n cap) (hV : Rd w .i64 va vn vc vs) (hnf : nfF (simpF vs f)) (ih : SimpAt vs va vn vc f) :
    Calls Try.prog 31 #[.agg #[.int .i64 4, .int .i64 v, .int .i64 x, .slice a n cap], .slice va vn vc] w (Simped w (simpF vs (.mk 4 v x [f]))) := by
  rw [simpF_not]
  obtain ⟨rf, hrf⟩ : ∃ rf, simpF vs f = rf := ⟨_, rfl⟩
  have HNF := Lib.hid hnf
  rw [hrf] at HNF ⊢
  have HF := Lib.hid hF
  have HV := Lib.hid hV
  have IH := Lib.hid ih
  have hn1 := hF.len
  have hnb : n ≤ 9223372036854775807 := by have := hF.le; have := hF.cap_le; unfold maxLen at this; omega
  have HRF := Lib.hid hrf
  clear hF hV ih hnf hrf
  obtain ⟨S0, hS0⟩ : ∃ S0, w.heap.size = S0 := ⟨_, rfl⟩
  have hb0 : Below w.heap.size w ((w.alloc (.cells #[.int .i64 4, .int .i64 v, .int .i64 x, .slice a n cap] 26)).alloc (.cells #[.int .i64 0, .int .i64 0, .int .i64 0, .slice none 0 0] 26)) := ((Below.refl _ _).alloc (Nat.le_refl _) _).alloc (by simp) _
  have hs0 : ((w.alloc (.cells #[.int .i64 4, .int .i64 v, .int .i64 x, .slice a n cap] 26)).alloc (.cells #[.int .i64 0, .int .i64 0, .int .i64 0, .slice none 0 0] 26)).heap.size = S0 + 2 := by simp [hS0]
  have hx0 : ((w.alloc (.cells #[.int .i64 4, .int .i64 v, .int .i64 x, .slice a n cap] 26)).alloc (.cells #[.int .i64 0, .int .i64 0, .int .i64 0, .slice none 0 0] 26)).heap[S0]? = some (.cells #[.int .i64 4, .int .i64 v, .int .i64 x, .slice a n cap] 26) := by rw [← hS0]; exact (heap_alloc_old _ _ (by simp)).trans (heap_alloc_new _ _)
  have hr0 : ((w.alloc (.cells #[.int .i64 4, .int .i64 v, .int .i64 x, .slice a n cap] 26)).alloc (.cells #[.int .i64 0, .int .i64 0, .int .i64 0, .slice none 0 0] 26)).heap[S0 + 1]? = some (.cells #[.int .i64 0, .int .i64 0, .int .i64 0, .slice none 0 0] 26) := by
    have := heap_alloc_new (w.alloc (.cells #[.int .i64 4, .int .i64 v, .int .i64 x, .slice a n cap] 26)) (.cells #[.int .i64 0, .int .i64 0, .int .i64 0, .slice none 0 0] 26)
    rw [World.size_alloc, hS0] at this
    exact this
  go_enter Try.func31, Try.ntmps31
  go_upto_region 1 with fail
  obtain ⟨w0, hw0⟩ : ∃ w0, ((w.alloc (.cells #[.int .i64 4, .int .i64 v, .int .i64 x, .slice a n cap] 26)).alloc (.cells #[.int .i64 0, .int .i64 0, .int .i64 0, .slice none 0 0] 26)) = w0 := ⟨_, rfl⟩
  rw [hw0] at hb0 hs0 hx0 hr0 ⊢
  try rw [hS0]
  clear hw0
  obtain ⟨⟨cx0, cx1, cx2, cx3⟩, _⟩ := cells4_of hx0
  have HX0 := Lib.hid hx0
  have HR0 := Lib.hid hr0
  have HB0 := Lib.hid hb0
  have HS00 := Lib.hid hS0
  have HS0 := Lib.hid hs0
  clear hx0 hr0 hb0 hs0 hS0
  obtain ⟨b, o, op1, v1, x1, bs, a1, n1, cap1, ha, hb, hel, d0, d1, d2, d3, hF2⟩ := (HF.out.below HB0.out).elem 0 (by rw [← hn1]; simp)
  subst ha
  simp only [Nat.zero_mul, Nat.add_zero] at d0 d1 d2 d3
  have hn1' : (0 : Int) < n := by rw [← hn1]; simp
  have hC := IH.out op1 v1 x1 bs a1 n1 cap1 w0 (by simpa using hel) hF2 (HV.out.below HB0.out)
  rw [HRF.out] at hC
  have HN1 := Lib.hid hn1
  clear hel hF2 hn1
  go_wp2_with fail
  refine hC.mono ?_
  rintro e w1 ⟨op, vv, xx, ss, sa, sn, sc, rfl, hre, hFR, hb1⟩
  have hB1 := HB0.out.trans (hb1.mono HB0.out.size)
  have hr1 := (hb1.block _ (Array.getElem?_eq_some_iff.1 HR0.out).1).trans HR0.out
  have hbx : Below w1.heap.size w1 (w1.alloc (.cells #[.int .i64 op, .int .i64 vv, .int .i64 xx, .slice sa sn sc] 26)) := (Below.refl _ _).alloc (Nat.le_refl _) _
  have hx2 := heap_alloc_new w1 (.cells #[.int .i64 op, .int .i64 vv, .int .i64 xx, .slice sa sn sc] 26)
  clear hC d0 d1 d2 d3 cx0 cx1 cx2 cx3
  go_upto_region 10 with fail
  obtain ⟨R, hR⟩ : ∃ R, w1.heap.size = R := ⟨_, rfl⟩
  obtain ⟨w2, hw2⟩ : ∃ w2, w1.alloc (.cells #[.int .i64 op, .int .i64 vv, .int .i64 xx, .slice sa sn sc] 26) = w2 := ⟨_, rfl⟩
  have HFR := Lib.hid (hFR.keeps (Keeps.of_below hbx (Nat.le_refl _)))
  have HR2 := Lib.hid ((hbx.block _ (Array.getElem?_eq_some_iff.1 hr1).1).trans hr1)
  have HB2 := Lib.hid (hB1.trans (hbx.mono hB1.size))
  have HS2 := Lib.hid (show S0 + 1 < w1.heap.size by exact (Array.getElem?_eq_some_iff.1 hr1).1)
  have HSB := Lib.hid hb1.size
  have HSX := Lib.hid hbx.size
  rw [hw2] at hx2 HFR HR2 HB2 HSX ⊢
  try rw [hR] at hx2 HFR HSX HS2 HSB
  try rw [hR]
  clear hw2 hR hFR hb1 hbx hr1 hB1
  have HRE := Lib.hid hre
  have HX2 := Lib.hid hx2
  obtain ⟨⟨e0, e1, e2, e3⟩, _⟩ := cells4_of hx2
  clear hre hx2
  have HNF2 : Hid (nfF (.mk op vv xx ss)) := Lib.hid (by rw [← HRE.out]; exact HNF.out)
  by_cases h0 : op = 0
  · subst h0
    have hN := fun W => not_calls vv W
    go_wp2_with fail
    refine (hN _).mono ?_
    rintro e wz ⟨rfl, rfl⟩
    go_wp2_with fail
    refine (constant_calls (2 - seenB vv) wz).mono ?_
    rintro e w3 ⟨rfl, g3⟩
    have HR3 := Lib.hid ((g3.below.block _ (Array.getElem?_eq_some_iff.1 HR2.out).1).trans HR2.out)
    have HB3 := Lib.hid (HB2.out.trans (g3.below.mono HB2.out.size))
    clear e0 e1 e2 e3 g3 hN
    obtain ⟨⟨r0, r1, r2, r3⟩, z0, z1, z2, z3⟩ := cells4_of HR3.out
    go_wp2_with fail
    obtain ⟨h8, g8⟩ := out4 HR3.out (.int .i64 0) (.int .i64 (2 - seenB vv)) (.int .i64 0) (.slice none 0 0)
    obtain ⟨W8, hW8⟩ : ∃ W8, Hid (W8 = (((w3.setCell ⟨S0 + 1, 0, none⟩ (.int .i64 0)).setCell ⟨S0 + 1, 1, none⟩ (.int .i64 (2 - seenB vv))).setCell ⟨S0 + 1, 2, none⟩ (.int .i64 0)).setCell ⟨S0 + 1, 3, none⟩ (.slice none 0 0)) := ⟨_, Lib.hid rfl⟩
    rw [← hW8.out] at h8 g8 ⊢
    obtain ⟨⟨j0, j1, j2, j3⟩, _⟩ := cells4_of h8
    refine bodyPost_ret (v := .agg #[.int .i64 0, .int .i64 (2 - seenB vv), .int .i64 0, .slice none 0 0]) ?_ rfl ?_
    · simp [results, Try.f31, go_sem, j0, j1, j2, j3]
    · refine ⟨0, 2 - seenB vv, 0, [], none, 0, 0, rfl, ?_, fitR_nil _ _ _ (Nat.le_refl _), HB3.out.grown g8 HB3.out.size (fun j e => by have := Option.some.inj e; have := HS00.out; omega)⟩
      rw [HRE.out]
      simp [notF, cst]
  · have h0' : (op == 0) = false := beq_eq_false_iff_ne.2 h0
    by_cases h4 : op = 4
    · subst h4
      obtain ⟨hsh, _⟩ := nf_ar HNF2.out
      have hl1 : ss.length = 1 := by rcases hsh with k | k | k | k <;> omega
      obtain ⟨s1, rfl⟩ := List.length_eq_one_iff.1 hl1
      have hsn : 1 = sn := HFR.out.here.len
      subst hsn
      obtain ⟨b2, o2, cs2, ha2, hb2, hcl, hcell, hsub⟩ := HFR.out.elems (by omega)
      subst ha2
      rcases cs2 with _ | ⟨⟨q0, q1, q2, qa, qn, qc⟩, _ | ⟨_, _⟩⟩
      · simp at hcl
      · obtain ⟨k0, k1, k2, k3⟩ := hcell 0 _ rfl
        obtain ⟨bs2, hs2, hFR2⟩ := hsub 0 _ _ rfl rfl
        dsimp only at k0 k1 k2 k3 hs2 hFR2
        simp only [Nat.zero_mul, Nat.add_zero] at k0 k1 k2 k3
        have HFR2 := Lib.hid hFR2
        have HSS := Lib.hid hs2
        clear hcell hsub hFR2 hs2 hl1 hsh
        obtain ⟨⟨r0, r1, r2, r3⟩, z0, z1, z2, z3⟩ := cells4_of HR2.out
        go_wp2_with fail
        obtain ⟨h8, g8⟩ := out4 HR2.out (.int .i64 q0) (.int .i64 q1) (.int .i64 q2) (.slice qa qn qc)
        obtain ⟨W8, hW8⟩ : ∃ W8, Hid (W8 = (((w2.setCell ⟨S0 + 1, 0, none⟩ (.int .i64 q0)).setCell ⟨S0 + 1, 1, none⟩ (.int .i64 q1)).setCell ⟨S0 + 1, 2, none⟩ (.int .i64 q2)).setCell ⟨S0 + 1, 3, none⟩ (.slice qa qn qc)) := ⟨_, Lib.hid rfl⟩
        rw [← hW8.out] at h8 g8 ⊢
        obtain ⟨⟨j0, j1, j2, j3⟩, _⟩ := cells4_of h8
        refine bodyPost_ret (v := .agg #[.int .i64 q0, .int .i64 q1, .int .i64 q2, .slice qa qn qc]) ?_ rfl ?_
        · simp [results, Try.f31, go_sem, j0, j1, j2, j3]
        · have hs := HS0.out
          have hw := HS00.out
          have hkp : Keeps w0.heap.size R w2 W8 := Keeps.of_grown g8 HSX.out (fun j e => by have := Option.some.inj e; omega)
          refine ⟨q0, q1, q2, bs2, qa, qn, qc, rfl, ?_, (HFR2.out.keeps hkp).mono (by omega) (Nat.le_trans HSX.out g8.size) (Nat.le_refl _), HB2.out.grown g8 HB2.out.size (fun j e => by have := Option.some.inj e; omega)⟩
          rw [HRE.out]
          simp only [notF]
          simp [HSS.out]
      · simp at hcl
    · have h4' : (op == 4) = false := beq_eq_false_iff_ne.2 h4
      have hby : Below w2.heap.size w2 (w2.alloc (.cells #[.int .i64 op, .int .i64 vv, .int .i64 xx, .slice sa sn sc] 26)) := (Below.refl _ _).alloc (Nat.le_refl _) _
      have hx3 := heap_alloc_new w2 (.cells #[.int .i64 op, .int .i64 vv, .int .i64 xx, .slice sa sn sc] 26)
      have HR3 := Lib.hid ((hby.block _ (Array.getElem?_eq_some_iff.1 HR2.out).1).trans HR2.out)
      have HB3 := Lib.hid (HB2.out.trans (hby.mono HB2.out.size))
      have HFR3 := Lib.hid (HFR.out.keeps (Keeps.of_below hby HSX.out))
      have HRY : Hid (R < w2.heap.size) := Lib.hid (Array.getElem?_eq_some_iff.1 HX2.out).1
      obtain ⟨⟨y0, y1, y2, y3⟩, f0, f1, f2, f3⟩ := cells4_of HR3.out
      go_wp2_with fail
      obtain ⟨w3, hw3⟩ : ∃ w3, w2.alloc (.cells #[.int .i64 op, .int .i64 vv, .int .i64 xx, .slice sa sn sc] 26) = w3 := ⟨_, rfl⟩
      rw [hw3] at hx3 HR3 HB3 HFR3 hby ⊢
      clear hw3
      have HX3 := Lib.hid hx3
      clear hx3 y0 y1 y2 y3 f0 f1 f2 f3
      obtain ⟨h8, g8⟩ := out4 HR3.out (.int .i64 4) (.int .i64 0) (.int .i64 0) (.slice (some ⟨w2.heap.size, 0, none⟩) 1 1)
      obtain ⟨W8, hW8⟩ : ∃ W8, Hid (W8 = (((w3.setCell ⟨S0 + 1, 0, none⟩ (.int .i64 4)).setCell ⟨S0 + 1, 1, none⟩ (.int .i64 0)).setCell ⟨S0 + 1, 2, none⟩ (.int .i64 0)).setCell ⟨S0 + 1, 3, none⟩ (.slice (some ⟨w2.heap.size, 0, none⟩) 1 1)) := ⟨_, Lib.hid rfl⟩
      rw [← hW8.out] at h8 g8 ⊢
      obtain ⟨⟨j0, j1, j2, j3⟩, _⟩ := cells4_of h8
      refine bodyPost_ret (v := .agg #[.int .i64 4, .int .i64 0, .int .i64 0, .slice (some ⟨w2.heap.size, 0, none⟩) 1 1]) ?_ rfl ?_
      · simp [results, Try.f31, go_sem, j0, j1, j2, j3]
      · have hs := HS0.out
        have hw := HS00.out
        have hs2 := HS2.out
        have hRY := HRY.out
        have hRx : w2.heap.size < w3.heap.size := (Array.getElem?_eq_some_iff.1 HX3.out).1
        have hk1 : Keeps w0.heap.size R w3 W8 := Keeps.of_grown g8 HFR3.out.top (fun j e => by have := Option.some.inj e; omega)
        refine ⟨4, 0, 0, [.mk op vv xx ss], _, _, _, rfl, ?_, ⟨Nat.le_refl _, fun W9 hk9 => ⟨rfl, Nat.le_refl _, by decide, fun j hj => ⟨_, 0, rfl, ?_⟩⟩⟩, HB3.out.grown g8 HB3.out.size (fun j e => by have := Option.some.inj e; omega)⟩
        · rw [HRE.out]
          simp only [notF]
          rw [if_neg h0, if_neg h4]
        · have hblk : W9.heap[w2.heap.size]? = some (.cells #[.int .i64 op, .int .i64 vv, .int .i64 xx, .slice sa sn sc] 26) := (hk9.2 _ (by omega) (Nat.lt_of_lt_of_le hRx g8.size)).trans ((g8.block _ hRx (fun e => by have := Option.some.inj e; omega)).trans HX3.out)
          obtain ⟨⟨m0, m1, m2, m3⟩, _⟩ := cells4_of hblk
          have hfit := HFR3.out.fit W9 (hk1.trans (hk9.mono (by omega) (Nat.le_trans HFR3.out.top g8.size)))
          unfold FitL
          refine ⟨?_, by unfold FitL; trivial⟩
          unfold FitA
          exact ⟨(Array.getElem?_eq_some_iff.1 hblk).1, m0, m1, m2, _, _, _, m3, hfit.len, hfit.le, hfit.cap_le, hfit.fit⟩
end Go.Proofs.Ytmdanfeilgeoaaa
