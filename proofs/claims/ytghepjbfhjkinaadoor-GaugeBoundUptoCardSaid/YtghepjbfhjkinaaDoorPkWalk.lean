/- gauge.Peak, and the walk of gimletlaw24.GaugePeak. -/
import Derived.Test.YtghepjbfhjkinaaDoorPkAwake
import Derived.Test.YtghepjbfhjkinaaDoorPkHanded
import Derived.Lib.SmallJoins
namespace Gim
open Go Go.RowKit
abbrev mx (a b : Int) : Int := max a b
def mxT (a b : Int × Int × Int) : Int × Int × Int := (mx a.1 b.1, mx a.2.1 b.2.1, mx a.2.2 b.2.2)
/-- the greatest of each field; zeros of no list -/
def pkF : List (Int × Int × Int) → Int × Int × Int
  | [] => (0, 0, 0)
  | z :: r => r.foldl mxT z
theorem mx_self (a : Int) : mx a a = a := by unfold mx; omega
theorem mxT_self (a : Int × Int × Int) : mxT a a = a := by unfold mxT; simp only [mx_self]
theorem pkF_snoc (l : List (Int × Int × Int)) (x : Int × Int × Int) : pkF (l ++ [x]) = mxT (if l.length = 0 then x else pkF l) x := by
  cases l with
  | nil => simp [pkF, mxT_self]
  | cons a l => simp [pkF, List.foldl_append]
theorem pk_fold (f : Int × Int × Int → Int) (hf : ∀ a b, f (mxT a b) = mx (f a) (f b)) : ∀ (l : List (Int × Int × Int)) (a : Int × Int × Int), (∀ y, y = a ∨ y ∈ l → f y ≤ f (l.foldl mxT a)) ∧ (∃ y, (y = a ∨ y ∈ l) ∧ f y = f (l.foldl mxT a))
  | [], a => ⟨fun y h => (by
    rcases h with rfl | h
    · exact Int.le_refl _
    · cases h), a, .inl rfl, rfl⟩
  | b :: l, a => by
    obtain ⟨h1, y, h2, h3⟩ := pk_fold f hf l (mxT a b)
    have hm := hf a b
    have hmx : f a ≤ mx (f a) (f b) ∧ f b ≤ mx (f a) (f b) ∧ (mx (f a) (f b) = f a ∨ mx (f a) (f b) = f b) := by unfold mx; omega
    have hA := h1 (mxT a b) (.inl rfl)
    rw [hm] at hA
    refine ⟨fun z hz => ?_, ?_⟩
    · show f z ≤ f (l.foldl mxT (mxT a b))
      rcases hz with rfl | hz
      · omega
      · rcases List.mem_cons.1 hz with rfl | hz
        · omega
        · exact h1 z (.inr hz)
    · show ∃ z, _ ∧ f z = f (l.foldl mxT (mxT a b))
      rcases h2 with rfl | h2
      · rw [← h3, hm]
        rcases hmx.2.2 with e | e
        · exact ⟨a, .inl rfl, e.symm⟩
        · exact ⟨b, .inr (by simp), e.symm⟩
      · exact ⟨y, .inr (List.mem_cons_of_mem _ h2), h3⟩
theorem pkF_law (f : Int × Int × Int → Int) (hf : ∀ a b, f (mxT a b) = mx (f a) (f b)) {l : List (Int × Int × Int)} (hl : l ≠ []) : (∀ y ∈ l, f y ≤ f (pkF l)) ∧ (l.any fun y => f y == f (pkF l)) = true := by
  cases l with
  | nil => exact absurd rfl hl
  | cons a l =>
    obtain ⟨h1, y, h2, h3⟩ := pk_fold f hf l a
    refine ⟨fun z hz => h1 z (by rcases List.mem_cons.1 hz with e | e; exact .inl e; exact .inr e), ?_⟩
    rw [List.any_eq_true]
    exact ⟨y, by rcases h2 with rfl | h2; simp; simp [h2], by show (f y == f (l.foldl mxT a)) = true; simp [h3]⟩
theorem any_take {l : List (Int × Int × Int)} {q : Nat} {z : Int × Int × Int} (hz : l[q]? = some z) (p : Int × Int × Int → Bool) : ((l.take (q + 1)).any p) = ((l.take q).any p || p z) := by
  rw [List.take_add_one, hz, List.any_append]
  simp
theorem flag3 (b : Bool) (x y : Int) (n : Bool) (h : n = (b || (x == y))) : (b = true ∧ n = true) ∨ (b = false ∧ x = y ∧ n = true) ∨ (b = false ∧ (x == y) = false ∧ n = false) := by
  cases b
  · by_cases e : x = y
    · exact .inr (.inl ⟨rfl, e, by rw [h]; simp [e]⟩)
    · exact .inr (.inr ⟨rfl, by simpa using e, by rw [h]; simp [e]⟩)
  · exact .inl ⟨rfl, by rw [h]; rfl⟩
theorem set3 {w : World} {C : Nat} {x y z a b c : Value} {t : TypeId} (h : w.heap[C]? = some (.cells #[x, y, z] t)) : (((w.setCell ⟨C, 0, none⟩ a).setCell ⟨C, 1, none⟩ b).setCell ⟨C, 2, none⟩ c).heap[C]? = some (.cells #[a, b, c] t) :=
  Go.Joins.block_setCell (Go.Joins.block_setCell (Go.Joins.block_setCell h (i := 0) a) (i := 1) b) (i := 2) c
theorem grownBy_set1 (w : World) (g o : Nat) (v : Value) : w.grownBy (w.setCell ⟨g, o, none⟩ v) (some g) := by
  refine ⟨rfl, rfl, rfl, by simp [World.setCell], fun j _ hne => ?_⟩
  have hne' : g ≠ j := fun e => hne (by rw [e])
  simp only [World.setCell, Array.getElem?_modify]
  rw [if_neg hne']
theorem grownBy_trans {a b c : World} {g : Option Nat} (h : a.grownBy b g) (k : b.grownBy c g) : a.grownBy c g :=
  ⟨k.os.trans h.os, k.tape.trans h.tape, k.output.trans h.output, Nat.le_trans h.size k.size, fun j hj hne => (k.block j (Nat.lt_of_lt_of_le hj h.size) hne).trans (h.block j hj hne)⟩
theorem grownBy_set3 (w : World) (C : Nat) (a b c : Value) : w.grownBy (((w.setCell ⟨C, 0, none⟩ a).setCell ⟨C, 1, none⟩ b).setCell ⟨C, 2, none⟩ c) (some C) := grownBy_trans (grownBy_trans (grownBy_set1 _ _ _ _) (grownBy_set1 _ _ _ _)) (grownBy_set1 _ _ _ _)
/-- block b holds one triple of numbers -/
def B3 (t : TypeId) (w : World) (b : Nat) (x : Int × Int × Int) : Prop := w.heap[b]? = some (.cells #[.int .i64 x.1, .int .i64 x.2.1, .int .i64 x.2.2] t)
theorem B3.lt {t : TypeId} {w : World} {b : Nat} {x : Int × Int × Int} (h : B3 t w b x) : b < w.heap.size := (Array.getElem?_eq_some_iff.1 h).1
theorem B3.below {t : TypeId} {w w' : World} {b : Nat} {x : Int × Int × Int} (h : B3 t w b x) (hb : Below w.heap.size w w') : B3 t w' b x := (hb.block _ h.lt).trans h
theorem B3.grown {t : TypeId} {w w' : World} {b C : Nat} {x : Int × Int × Int} (h : B3 t w b x) (hb : w.grownBy w' (some C)) (hne : b ≠ C) : B3 t w' b x := (hb.block _ h.lt (fun e => hne (Option.some.inj e))).trans h
theorem B3.cells {t : TypeId} {w : World} {b : Nat} {x : Int × Int × Int} (h : B3 t w b x) : w.cell? ⟨b, 0, none⟩ = some (.int .i64 x.1) ∧ w.cell? ⟨b, 1, none⟩ = some (.int .i64 x.2.1) ∧ w.cell? ⟨b, 2, none⟩ = some (.int .i64 x.2.2) ∧ w.frozen? ⟨b, 0, none⟩ = false ∧ w.frozen? ⟨b, 1, none⟩ = false ∧ w.frozen? ⟨b, 2, none⟩ = false := by
  have h' : w.heap[b]? = some (.cells #[.int .i64 x.1, .int .i64 x.2.1, .int .i64 x.2.2] t) := h
  simp [World.cell?, World.frozen?, h']
theorem B3.new (t : TypeId) (w : World) (x : Int × Int × Int) : B3 t (w.alloc (.cells #[.int .i64 x.1, .int .i64 x.2.1, .int .i64 x.2.2] t)) w.heap.size x := heap_alloc_new w _
end Gim
namespace Go.Proofs.YtghepjbfhjkinaaDoor
open Go.RowKit Gim
set_option maxRecDepth 100000 in
set_option maxHeartbeats 4000000 in
theorem peak_calls (ao : Option Addr) (n cap : Nat) (zs : List (Int × Int × Int)) (w : World) (h : Cd w ao n cap zs) : Calls Tryd.prog 9 #[.slice ao n cap] w fun e w' => e = .returned (.agg #[.int .i64 (pkF zs).1, .int .i64 (pkF zs).2.1, .int .i64 (pkF zs).2.2]) ∧ Below w.heap.size w w' := by
  have HC := Lib.hid h
  have HL := Lib.hid h.len
  have hle := h.le
  have hcm := h.cap_le
  have hnb : n ≤ 9223372036854775807 := by unfold maxLen at hcm; omega
  clear h
  obtain ⟨S0, hS0⟩ : ∃ S0, w.heap.size = S0 := ⟨_, rfl⟩
  have b0 : Below w.heap.size w ((w.alloc (.cells #[.int .i64 0, .int .i64 0, .int .i64 0] 39)).alloc (.cells #[.int .i64 0, .int .i64 0, .int .i64 0] 39)) := ((Below.refl _ _).alloc (Nat.le_refl _) _).alloc (by simp) _
  have x0 : B3 39 ((w.alloc (.cells #[.int .i64 0, .int .i64 0, .int .i64 0] 39)).alloc (.cells #[.int .i64 0, .int .i64 0, .int .i64 0] 39)) S0 (0, 0, 0) := by rw [← hS0]; exact (heap_alloc_old _ _ (by simp)).trans (heap_alloc_new _ _)
  have x1 : B3 39 ((w.alloc (.cells #[.int .i64 0, .int .i64 0, .int .i64 0] 39)).alloc (.cells #[.int .i64 0, .int .i64 0, .int .i64 0] 39)) (S0 + 1) (0, 0, 0) := by
    have := heap_alloc_new (w.alloc (.cells #[.int .i64 0, .int .i64 0, .int .i64 0] 39)) (.cells #[.int .i64 0, .int .i64 0, .int .i64 0] 39)
    rw [World.size_alloc, hS0] at this
    exact this
  go_enter Tryd.func9, Tryd.ntmps9
  go_upto_region 2 with fail
  obtain ⟨w0, hw0⟩ : ∃ w0, (w.alloc (.cells #[.int .i64 0, .int .i64 0, .int .i64 0] 39)).alloc (.cells #[.int .i64 0, .int .i64 0, .int .i64 0] 39) = w0 := ⟨_, rfl⟩
  rw [hw0] at b0 x0 x1 ⊢
  try rw [hS0]
  clear hw0
  have HS0 := Lib.hid hS0
  clear hS0
  go_wp2_with fail
  go_loopw [8] (fun i wr => ∃ q : Nat, i = .int .i64 q ∧ q ≤ n ∧ Below w.heap.size w wr ∧ B3 39 wr S0 (0, 0, 0) ∧ B3 39 wr (S0 + 1) (pkF (zs.take q))) (fun i _ => n - (RowKit.intOf i).toNat)
  case atStart => exact ⟨0, rfl, Nat.zero_le _, b0, x0, x1⟩
  case round =>
    obtain ⟨q, rfl, hq, hb, hx, hp⟩ := hrel
    by_cases hqn : q < n
    · have hqn' : (q : Int) < n := by omega
      obtain ⟨b, o, rfl, hb1, hc⟩ := (HC.out.below hb).cell q hqn
      have hqz : q < zs.length := by rw [HL.out]; exact hqn
      obtain ⟨y, hy⟩ : ∃ y, zs[q]? = some y := ⟨_, List.getElem?_eq_getElem hqz⟩
      obtain ⟨k0, k1, k2⟩ := hc q y hy
      rw [← Nat.add_assoc] at k1 k2
      have HN := Lib.hid (show pkF (zs.take (q + 1)) = mxT (if q = 0 then y else pkF (zs.take q)) y by
        rw [List.take_add_one, hy]
        show pkF (zs.take q ++ [y]) = _
        rw [pkF_snoc, List.length_take, Nat.min_eq_left (by omega)])
      obtain ⟨c, hcq⟩ : ∃ c, pkF (zs.take q) = c := ⟨_, rfl⟩
      rw [hcq] at hp HN
      have hn5 := B3.new 39 wr y
      have gA : Below wr.heap.size wr (wr.alloc (.cells #[.int .i64 y.1, .int .i64 y.2.1, .int .i64 y.2.2] 39)) := (Below.refl _ _).alloc (Nat.le_refl _) _
      have hpA := hp.below gA
      have hxA := hx.below gA
      have hRp : S0 + 1 < wr.heap.size := hp.lt
      have HBA := Lib.hid (hb.trans (gA.mono hb.size))
      clear hc hcq hy gA hp hx
      obtain ⟨y1, y2, y3⟩ := y
      obtain ⟨c1, c2, c3⟩ := c
      go_upto_region 5 with fail
      obtain ⟨R, hR⟩ : ∃ R, wr.heap.size = R := ⟨_, rfl⟩
      obtain ⟨w5, hw5⟩ : ∃ w5, wr.alloc (.cells #[.int .i64 y1, .int .i64 y2, .int .i64 y3] 39) = w5 := ⟨_, rfl⟩
      (try dsimp only at hn5 hpA hxA HBA)
      rw [hw5] at hn5 hpA hxA HBA ⊢
      rw [hR] at hn5 hRp ⊢
      clear hw5 hR k0 k1 k2 hb
      obtain ⟨e0, e1, e2, _, _, _⟩ := hn5.cells
      obtain ⟨p0, p1, p2, z0, z1, z2⟩ := hpA.cells
      (try dsimp only at e0 e1 e2 p0 p1 p2)
      have hne : R ≠ S0 + 1 := by omega
      have hne2 : S0 + 1 ≠ R := by omega
      have HPA := Lib.hid hpA
      have HXA := Lib.hid hxA
      clear hn5 hpA hxA
      by_cases hq0 : q = 0
      · subst hq0
        have HN2 := Lib.hid (show pkF (zs.take 1) = (y1, y2, y3) by rw [show 1 = 0 + 1 from rfl, HN.out, if_pos rfl, mxT_self])
        clear HN
        go_wp2_with fail
        go_roundw
        case rel =>
          have s3 := set3 (a := .int .i64 y1) (b := .int .i64 y2) (c := .int .i64 y3) (set3 (a := .int .i64 y1) (b := .int .i64 y2) (c := .int .i64 y3) HPA.out)
          have g3 := grownBy_trans (grownBy_set3 w5 (S0 + 1) (.int .i64 y1) (.int .i64 y2) (.int .i64 y3)) (grownBy_set3 _ (S0 + 1) (.int .i64 y1) (.int .i64 y2) (.int .i64 y3))
          refine ⟨1, rfl, by omega, HBA.out.grown g3 HBA.out.size (fun j e => by have := Option.some.inj e; have := HS0.out; omega), HXA.out.grown g3 (by omega), ?_⟩
          rw [HN2.out]
          exact s3
        case measure => simp [RowKit.intOf]; omega
      · have hq0' : ((q : Int) == 0) = false := beq_eq_false_iff_ne.2 (by omega)
        rw [if_neg hq0] at HN
        go_wp2_with fail
        go_roundw
        case rel =>
          have s3 := set3 (a := .int .i64 (max c1 y1)) (b := .int .i64 (max c2 y2)) (c := .int .i64 (max c3 y3)) HPA.out
          have g3 := grownBy_set3 w5 (S0 + 1) (.int .i64 (max c1 y1)) (.int .i64 (max c2 y2)) (.int .i64 (max c3 y3))
          refine ⟨q + 1, by go_num, by omega, HBA.out.grown g3 HBA.out.size (fun j e => by have := Option.some.inj e; have := HS0.out; omega), HXA.out.grown g3 (by omega), ?_⟩
          rw [HN.out]
          exact s3
        case measure => simp [RowKit.intOf]; omega
    · obtain rfl : q = n := by omega
      rw [List.take_of_length_le (by rw [HL.out]; exact Nat.le_refl _)] at hp
      obtain ⟨c, hcq⟩ : ∃ c, pkF zs = c := ⟨_, rfl⟩
      rw [hcq] at hp
      have HQ := Lib.hid hcq
      clear hcq
      obtain ⟨c1, c2, c3⟩ := c
      obtain ⟨p0, p1, p2, _, _, _⟩ := hp.cells
      obtain ⟨x0, x1, x2, z0, z1, z2⟩ := hx.cells
      (try dsimp only at p0 p1 p2 x0 x1 x2)
      have HX := Lib.hid hx
      have HB := Lib.hid hb
      clear hx hp hb
      go_wp2_with fail
      have s3 := set3 (a := .int .i64 c1) (b := .int .i64 c2) (c := .int .i64 c3) HX.out
      have g3 := grownBy_set3 wr S0 (.int .i64 c1) (.int .i64 c2) (.int .i64 c3)
      obtain ⟨W8, hW8⟩ : ∃ W8, ((wr.setCell ⟨S0, 0, none⟩ (.int .i64 c1)).setCell ⟨S0, 1, none⟩ (.int .i64 c2)).setCell ⟨S0, 2, none⟩ (.int .i64 c3) = W8 := ⟨_, rfl⟩
      rw [hW8] at s3 g3 ⊢
      have j0 : W8.cell? ⟨S0, 0, none⟩ = some (.int .i64 c1) := by simp [World.cell?, s3]
      have j1 : W8.cell? ⟨S0, 1, none⟩ = some (.int .i64 c2) := by simp [World.cell?, s3]
      have j2 : W8.cell? ⟨S0, 2, none⟩ = some (.int .i64 c3) := by simp [World.cell?, s3]
      refine bodyPost_ret (v := .agg #[.int .i64 c1, .int .i64 c2, .int .i64 c3]) ?_ rfl ?_
      · simp [results, Tryd.f9, go_sem, j0, j1, j2]
      · exact ⟨by rw [HQ.out], HB.out.grown g3 HB.out.size (fun j e => by have := Option.some.inj e; have := HS0.out; omega)⟩
end Go.Proofs.YtghepjbfhjkinaaDoor
