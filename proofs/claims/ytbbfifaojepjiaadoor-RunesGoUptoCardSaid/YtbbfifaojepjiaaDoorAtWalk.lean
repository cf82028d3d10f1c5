/- The walk of runes.At. -/
import Derived.Test.YtbbfifaojepjiaaDoorAllWalk
import Derived.Test.YtbbfifaojepjiaaDoorNext2Walk
import Derived.Laws.BytesArg
namespace Gim
open Go Go.RowKit
theorem Rd.convB {P : Program} {w : World} {ao : Option Addr} {n cap : Nat} {xs : List Int} (h : Rd w .u8 ao n cap xs) {src dst e : TypeId}
    (hs : P.underlying src = some (.slice e)) (he : P.underlying e = some (.int .u8)) (hd : P.underlying dst = some .string) :
    (convert src dst (.slice ao n cap)).run P w = .ok (.string (strOfNums xs)) w := by
  have hl := h.len
  by_cases h0 : n = 0
  · subst h0
    obtain rfl : xs = [] := List.eq_nil_of_length_eq_zero hl
    cases ao with
    | none => exact run_convert_bytes_nil w src e hs he _ _ dst hd
    | some a =>
      obtain ⟨b, o, pa⟩ := a
      rw [run_convert_bytes_string w src dst e _ _ _ hs he hd, run_bytesToString w _ 0 cap [] (by simp [loadCells, loadCellsFrom])]
      rfl
  · obtain ⟨b, o, rfl, h2, h3⟩ := h.cell 0 (by omega)
    exact run_convert_bytes_arg w src e hs he b o n cap xs hl h3 dst hd
/-- does a line end with the character r at the place i? -/
def lineEnd (xs : List Int) (i : Nat) (r : Int) : Bool := decide (r = 10) || (decide (r = 13) && !(decide (i + 1 < xs.length) && decide (gt xs (i + 1) = 10)))
/-- one character more: how many, the line, the column -/
def stepP (xs : List Int) (s : Int × Int × Int) (p : Nat × Int) : Int × Int × Int :=
  (s.1 + 1, if lineEnd xs p.1 p.2 then s.2.1 + 1 else s.2.1, if lineEnd xs p.1 p.2 then 1 else s.2.2 + 1)
def placeB (xs : List Int) (m : Nat) : Int × Int × Int := (prAt (strOfNums (xs.take m)) 0).foldl (stepP xs) (0, 1, 1)
theorem prF_length (s : ByteArray) : ∀ (f p : Nat), (prF s f p).length ≤ f := by
  intro f
  induction f with
  | zero => intro p; simp [prF]
  | succ f ih => intro p; simp only [prF]; split <;> simp [ih _]
theorem prAt_length (s : ByteArray) (p : Nat) : (prAt s p).length ≤ s.size - p := prF_length s _ p
theorem lineEnd_min (xs : List Int) (i : Nat) (r : Int) (h : xs.length ≤ 1125899906842624) : lineEnd xs (min i 1125899906842624) r = lineEnd xs i r := by
  rcases Nat.le_total i 1125899906842624 with hi | hi
  · rw [Nat.min_eq_left hi]
  · rw [Nat.min_eq_right hi]
    unfold lineEnd
    rw [decide_eq_false (show ¬ 1125899906842624 + 1 < xs.length by omega), decide_eq_false (show ¬ i + 1 < xs.length by omega)]
    simp
/-- the bounds of what has been counted -/
theorem fold_bounds (xs : List Int) : ∀ (l : List (Nat × Int)) (s : Int × Int × Int) (k : Int), 0 ≤ s.1 → s.1 ≤ k → 1 ≤ s.2.1 → s.2.1 ≤ k + 1 → 1 ≤ s.2.2 → s.2.2 ≤ k + 1 →
    0 ≤ (l.foldl (stepP xs) s).1 ∧ (l.foldl (stepP xs) s).1 ≤ k + l.length ∧ 1 ≤ (l.foldl (stepP xs) s).2.1 ∧ (l.foldl (stepP xs) s).2.1 ≤ k + l.length + 1 ∧ 1 ≤ (l.foldl (stepP xs) s).2.2 ∧ (l.foldl (stepP xs) s).2.2 ≤ k + l.length + 1
  | [], s, k, h1, h2, h3, h4, h5, h6 => by simp; omega
  | p :: l, s, k, h1, h2, h3, h4, h5, h6 => by
    have hs : 0 ≤ (stepP xs s p).1 ∧ (stepP xs s p).1 ≤ k + 1 ∧ 1 ≤ (stepP xs s p).2.1 ∧ (stepP xs s p).2.1 ≤ k + 1 + 1 ∧ 1 ≤ (stepP xs s p).2.2 ∧ (stepP xs s p).2.2 ≤ k + 1 + 1 := by
      unfold stepP
      cases lineEnd xs p.1 p.2 <;> simp <;> omega
    have := fold_bounds xs l (stepP xs s p) (k + 1) hs.1 hs.2.1 hs.2.2.1 hs.2.2.2.1 hs.2.2.2.2.1 hs.2.2.2.2.2
    simp only [List.foldl_cons, List.length_cons, Int.natCast_add, Int.natCast_one]
    omega
theorem fold_snoc (xs : List Int) (l : List (Nat × Int)) (x : Nat × Int) (s : Int × Int × Int) : (l ++ [x]).foldl (stepP xs) s = stepP xs (l.foldl (stepP xs) s) x := by rw [List.foldl_append]; rfl
/-- what At's variables hold: the slice, the answer's room, the place so far -/
structure AtI (B : Nat) (sl : Value) (m u v z : Int) (W : World) : Prop where
  c0 : W.cell? ⟨B, 0, none⟩ = some sl
  c10 : W.cell? ⟨B + 1, 0, none⟩ = some (.int .i64 0)
  c11 : W.cell? ⟨B + 1, 1, none⟩ = some (.int .i64 0)
  c12 : W.cell? ⟨B + 1, 2, none⟩ = some (.int .i64 0)
  c13 : W.cell? ⟨B + 1, 3, none⟩ = some (.int .i64 0)
  f10 : W.frozen? ⟨B + 1, 0, none⟩ = false
  f11 : W.frozen? ⟨B + 1, 1, none⟩ = false
  f12 : W.frozen? ⟨B + 1, 2, none⟩ = false
  f13 : W.frozen? ⟨B + 1, 3, none⟩ = false
  c20 : W.cell? ⟨B + 1 + 1, 0, none⟩ = some (.int .i64 m)
  c21 : W.cell? ⟨B + 1 + 1, 1, none⟩ = some (.int .i64 u)
  c22 : W.cell? ⟨B + 1 + 1, 2, none⟩ = some (.int .i64 v)
  c23 : W.cell? ⟨B + 1 + 1, 3, none⟩ = some (.int .i64 z)
  f21 : W.frozen? ⟨B + 1 + 1, 1, none⟩ = false
  f22 : W.frozen? ⟨B + 1 + 1, 2, none⟩ = false
  f23 : W.frozen? ⟨B + 1 + 1, 3, none⟩ = false
theorem AtI.put {B : Nat} {sl : Value} {m u v z : Int} {W : World} (h : AtI B sl m u v z W) : 
    (∀ u', AtI B sl m u' v z (W.setCell ⟨B + 1 + 1, 1, none⟩ (.int .i64 u'))) ∧ (∀ v', AtI B sl m u v' z (W.setCell ⟨B + 1 + 1, 2, none⟩ (.int .i64 v'))) ∧ (∀ z', AtI B sl m u v z' (W.setCell ⟨B + 1 + 1, 3, none⟩ (.int .i64 z'))) := by
  obtain ⟨c0, c10, c11, c12, c13, f10, f11, f12, f13, c20, c21, c22, c23, f21, f22, f23⟩ := h
  have other : ∀ (p q : Addr) (x y : Value), W.cell? q = some y → p ≠ q → (W.setCell p x).cell? q = some y := fun p q x y hq hne => (World.cell?_setCell_other _ _ _ _ hne).trans hq
  have same : ∀ (p : Addr) (x y : Value), W.cell? p = some y → (W.setCell p x).cell? p = some x := fun p x y hq => World.cell?_setCell_same _ _ _ hq
  refine ⟨fun u' => ?_, fun v' => ?_, fun z' => ?_⟩
  all_goals constructor
  all_goals first
    | exact other _ _ _ _ (by assumption) (by simp)
    | exact same _ _ _ (by assumption)
    | (rw [World.frozen?_setCell]; assumption)
/-- four cells written one behind the other -/
theorem four_set (W : World) (b : Nat) (y0 y1 y2 y3 a0 a1 a2 a3 : Value) (h0 : W.cell? ⟨b, 0, none⟩ = some y0) (h1 : W.cell? ⟨b, 1, none⟩ = some y1) (h2 : W.cell? ⟨b, 2, none⟩ = some y2) (h3 : W.cell? ⟨b, 3, none⟩ = some y3) :
    ((((W.setCell ⟨b, 0, none⟩ a0).setCell ⟨b, 1, none⟩ a1).setCell ⟨b, 2, none⟩ a2).setCell ⟨b, 3, none⟩ a3).cell? ⟨b, 0, none⟩ = some a0 ∧
    ((((W.setCell ⟨b, 0, none⟩ a0).setCell ⟨b, 1, none⟩ a1).setCell ⟨b, 2, none⟩ a2).setCell ⟨b, 3, none⟩ a3).cell? ⟨b, 1, none⟩ = some a1 ∧
    ((((W.setCell ⟨b, 0, none⟩ a0).setCell ⟨b, 1, none⟩ a1).setCell ⟨b, 2, none⟩ a2).setCell ⟨b, 3, none⟩ a3).cell? ⟨b, 2, none⟩ = some a2 ∧
    ((((W.setCell ⟨b, 0, none⟩ a0).setCell ⟨b, 1, none⟩ a1).setCell ⟨b, 2, none⟩ a2).setCell ⟨b, 3, none⟩ a3).cell? ⟨b, 3, none⟩ = some a3 := by
  have other : ∀ (V : World) (i j : Nat) (x y : Value), V.cell? ⟨b, j, none⟩ = some y → i ≠ j → (V.setCell ⟨b, i, none⟩ x).cell? ⟨b, j, none⟩ = some y := fun V i j x y hq hne => (World.cell?_setCell_other _ _ _ _ (fun e => hne (by cases e; rfl))).trans hq
  have same : ∀ (V : World) (i : Nat) (x y : Value), V.cell? ⟨b, i, none⟩ = some y → (V.setCell ⟨b, i, none⟩ x).cell? ⟨b, i, none⟩ = some x := fun V i x y hq => World.cell?_setCell_same _ _ _ hq
  have s0 := same W 0 a0 _ h0
  have p1 := other W 0 1 a0 _ h1 (by decide)
  have p2 := other W 0 2 a0 _ h2 (by decide)
  have p3 := other W 0 3 a0 _ h3 (by decide)
  have q0 := other _ 1 0 a1 _ s0 (by decide)
  have s1 := same _ 1 a1 _ p1
  have q2 := other _ 1 2 a1 _ p2 (by decide)
  have q3 := other _ 1 3 a1 _ p3 (by decide)
  have r0 := other _ 2 0 a2 _ q0 (by decide)
  have r1 := other _ 2 1 a2 _ s1 (by decide)
  have s2 := same _ 2 a2 _ q2
  have r3 := other _ 2 3 a2 _ q3 (by decide)
  exact ⟨other _ 3 0 a3 _ r0 (by decide), other _ 3 1 a3 _ r1 (by decide), other _ 3 2 a3 _ s2 (by decide), same _ 3 a3 _ r3⟩
theorem AtI.own {B B' : Nat} {sl : Value} {m : Int} {f : List (Nat × Int) → Int × Int × Int} : OwnFrom B' (fun (pre : List (Nat × Int)) W => AtI B sl m (f pre).1 (f pre).2.1 (f pre).2.2 W) :=
  Own.from (fun _ _ _ _ hs hg hr => ⟨cell_kept hs.c0 hg hr, cell_kept hs.c10 hg hr, cell_kept hs.c11 hg hr, cell_kept hs.c12 hg hr, cell_kept hs.c13 hg hr,
    (frozen_kept hs.c10 hg hr).trans hs.f10, (frozen_kept hs.c11 hg hr).trans hs.f11, (frozen_kept hs.c12 hg hr).trans hs.f12, (frozen_kept hs.c13 hg hr).trans hs.f13,
    cell_kept hs.c20 hg hr, cell_kept hs.c21 hg hr, cell_kept hs.c22 hg hr, cell_kept hs.c23 hg hr,
    (frozen_kept hs.c21 hg hr).trans hs.f21, (frozen_kept hs.c22 hg hr).trans hs.f22, (frozen_kept hs.c23 hg hr).trans hs.f23⟩) _
end Gim
namespace Go.Proofs.YtbbfifaojepjiaaDoor
open Go.RowKit Go.Shelf Gim
attribute [local go_sem] Oper.semAt_some
set_option maxRecDepth 100000 in
set_option maxHeartbeats 4000000 in
theorem at_in (m : Nat) (w : World) (ao : Option Addr) (n cap : Nat) (xs : List Int) (h : Rb w ao n cap xs) (hn : n ≤ 1125899906842624) (hm : m ≤ n) :
    CallsIn Fence.wide 6 Tryd.prog 29 #[.slice ao n cap, .int .i64 m] w fun e w' => e = .returned (.tuple #[.agg #[.int .i64 m, .int .i64 (placeB xs m).1, .int .i64 (placeB xs m).2.1, .int .i64 (placeB xs m).2.2], .int .i64 0]) ∧ Below w.heap.size w w' := by
  have hle := h.rd.le
  have hcap := h.rd.cap_le
  have hB3 : Below w.heap.size w (((w.alloc (.cells #[.slice ao n cap] 32)).alloc (.cells #[.int .i64 0, .int .i64 0, .int .i64 0, .int .i64 0] 61)).alloc (.cells #[.int .i64 m, .int .i64 0, .int .i64 1, .int .i64 1] 61)) := (((Below.refl _ _).alloc (Nat.le_refl _) _).alloc (by simp) _).alloc (by simp; omega) _
  have hcv := ((h.take hm).rd.below hB3).convB (P := Tryd.prog) (src := 32) (dst := 9) (e := 5) rfl rfl rfl
  obtain ⟨S, hS⟩ : ∃ S, S = strOfNums (xs.take m) := ⟨_, rfl⟩
  rw [← hS] at hcv
  have HS := Lib.hid hS
  clear hS
  refine callsIn_of_wp_marks Tryd.func29 rfl trivial ?_ rfl
  simp only [Tryd.ntmps29, List.size_toArray, List.length_cons, List.length_nil, Nat.reduceAdd, Nat.reduceSub, Array.replicate_succ, Array.replicate_zero, List.push_toArray, List.append_toArray, List.nil_append, List.cons_append]
  gi_wp2_with (refine ⟨trivial, ?_⟩; gi_at_call 12; refine (all_in Fence.wide _ trivial rfl S _).mono ?_; rintro e w' ⟨rfl, rfl⟩)
  obtain ⟨W3, hW3⟩ : ∃ W3, W3 = (((w.alloc (.cells #[.slice ao n cap] 32)).alloc (.cells #[.int .i64 0, .int .i64 0, .int .i64 0, .int .i64 0] 61)).alloc (.cells #[.int .i64 m, .int .i64 0, .int .i64 1, .int .i64 1] 61)) := ⟨_, rfl⟩
  rw [← hW3] at hB3 ⊢
  have hz3 : W3.heap.size = w.heap.size + 1 + 1 + 1 := by rw [hW3]; simp
  have g0 : W3.heap[w.heap.size]? = some (.cells #[.slice ao n cap] 32) := by
    rw [hW3]; exact (heap_alloc_old _ _ (by simp; omega)).trans ((heap_alloc_old _ _ (by simp)).trans (heap_alloc_new _ _))
  have g1 : W3.heap[w.heap.size + 1]? = some (.cells #[.int .i64 0, .int .i64 0, .int .i64 0, .int .i64 0] 61) := by
    rw [hW3]; exact (heap_alloc_old _ _ (by simp)).trans (by have := heap_alloc_new (w.alloc (.cells #[.slice ao n cap] 32)) (.cells #[.int .i64 0, .int .i64 0, .int .i64 0, .int .i64 0] 61); rwa [World.size_alloc] at this)
  have g2 : W3.heap[w.heap.size + 1 + 1]? = some (.cells #[.int .i64 m, .int .i64 0, .int .i64 1, .int .i64 1] 61) := by
    rw [hW3]; have := heap_alloc_new ((w.alloc (.cells #[.slice ao n cap] 32)).alloc (.cells #[.int .i64 0, .int .i64 0, .int .i64 0, .int .i64 0] 61)) (.cells #[.int .i64 m, .int .i64 0, .int .i64 1, .int .i64 1] 61); rwa [World.size_alloc, World.size_alloc] at this
  clear hW3 hcv
  have hSz : S.size = m := by rw [HS.out, strOfNums_size, List.length_take, h.rd.len]; omega
  have HL := Lib.hid h.rd.len
  apply wpIn_rangeFunc_ownF (encs := encP) (Kp := KeepsWalks) rfl (by omega) (gf := 28) (lb := #[.pointer (some ⟨w.heap.size + 1 + 1 + 1, 0, none⟩)]) rfl trivial (enters_of Tryd.func28 (by kernel_rfl) rfl)
    (all_stops Fence.wide 5 trivial rfl (by omega) (w.heap.size + 1 + 1 + 1) S (by omega) (W3.alloc (.cells #[.string S] 9)) (by simp; omega) (by have hh := heap_alloc_new W3 (.cells #[.string S] 9); rw [hz3] at hh; unfold World.cell?; rw [hh]; rfl)) walksK_t walksK_b (Below.refl _ _) (fun _ => rfl)
    (fun pre W => AtI w.heap.size (.slice ao n cap) m (pre.foldl (stepP xs) (0, 1, 1)).1 (pre.foldl (stepP xs) (0, 1, 1)).2.1 (pre.foldl (stepP xs) (0, 1, 1)).2.2 W ∧ Below w.heap.size w W)
    (fun _ _ _ => False)
    (OwnFrom.and (AtI.own (f := fun pre => pre.foldl (stepP xs) (0, 1, 1))) (ownFrom_below (Nat.le_refl _) (by simp; omega)))
    (fun _ _ _ _ _ hs _ _ => hs)
    ?h0
  case h0 =>
    have hA : ∀ (k : Nat) (o : Obj), W3.heap[k]? = some o → (W3.alloc (.cells #[.string S] 9)).heap[k]? = some o := fun k o hk => (heap_alloc_old _ _ (Array.getElem?_eq_some_iff.1 hk).1).trans hk
    have k0 := hA _ _ g0
    have k1 := hA _ _ g1
    have k2 := hA _ _ g2
    refine ⟨?_, hB3.alloc (by omega) _⟩
    constructor
    all_goals simp [World.cell?, World.frozen?, k0, k1, k2]
  case hassign =>
    intro l x W K hK
    gi_wp2
    exact hK
  case hbody =>
    rintro l pre x W ⟨hI, hB⟩ hlen
    have hN := prAt_length S 0
    obtain ⟨b1, b2, b3, b4, b5, b6⟩ := fold_bounds xs pre (0, 1, 1) 0 (by decide) (by decide) (by decide) (by decide) (by decide) (by decide)
    have hst := Lib.hid (fold_snoc xs pre x (0, 1, 1))
    obtain ⟨st, hs⟩ : ∃ st, st = pre.foldl (stepP xs) (0, 1, 1) := ⟨_, rfl⟩
    rw [← hs] at hI b1 b2 b3 b4 b5 b6 hst
    clear hs
    obtain ⟨u, v, z⟩ := st
    obtain ⟨i, r⟩ := x
    simp only [] at hI b1 b2 b3 b4 b5 b6
    obtain ⟨c0, c10, c11, c12, c13, f10, f11, f12, f13, c20, c21, c22, c23, f21, f22, f23⟩ := id hI
    simp only []
    obtain ⟨j, hj⟩ : ∃ j, j = min i 1125899906842624 := ⟨_, rfl⟩
    have hj47 : j ≤ 1125899906842624 := by omega
    have HE := Lib.hid (show lineEnd xs i r = lineEnd xs j r by rw [hj, lineEnd_min xs i r (by rw [HL.out]; exact hn)])
    rw [← hj]
    clear hj
    by_cases r10 : r = 10
    · subst r10
      have HT := Lib.hid (HE.out.trans (by simp [lineEnd]) : lineEnd xs i 10 = true)
      gi_wp2
      all_goals (try (rename_i hz1 hz2; simp [undef] at hz1; done))
      all_goals exact ⟨(((KeepsOthers.setCell _ _ _).trans (KeepsOthers.setCell _ _ _)).trans (KeepsOthers.setCell _ _ _)).trans (KeepsOthers.setCell _ _ _), ((((KeepsOthers.setCell _ _ _).trans (KeepsOthers.setCell _ _ _)).trans (KeepsOthers.setCell _ _ _)).trans (KeepsOthers.setCell _ _ _)).walks, by
        rw [hst.out]; unfold stepP; rw [HT.out]; exact (((hI.put.1 _).put.2.2 _).put.2.1 _).put.2.2 _, (((hB.setCell (p := ⟨w.heap.size + 1 + 1, 1, none⟩) (by simp; omega) _).setCell (p := ⟨w.heap.size + 1 + 1, 3, none⟩) (by simp; omega) _).setCell (p := ⟨w.heap.size + 1 + 1, 2, none⟩) (by simp; omega) _).setCell (p := ⟨w.heap.size + 1 + 1, 3, none⟩) (by simp; omega) _⟩
    by_cases r13 : r = 13
    · subst r13
      by_cases hjn : j + 1 < n
      · have hjn' : (j : Int) + 1 < n := by omega
        obtain ⟨b0, o0, rfl, hb0, _⟩ := h.rd.cell 0 (by omega)
        have hne : ¬ w.heap.size + 1 + 1 = b0 := by omega
        have hy := ((h.rd.below hB).cell (j + 1) hjn)
        obtain ⟨b0', o0', e0, _, hy⟩ := hy
        simp only [Option.some.injEq, Addr.mk.injEq, and_true] at e0
        obtain ⟨rfl, rfl⟩ := e0
        replace hy := hy (j + 1) hjn
        obtain ⟨y, hyy⟩ : ∃ y, y = gt xs (j + 1) := ⟨_, rfl⟩
        rw [← hyy] at hy
        by_cases y10 : y = 10
        · have HT := Lib.hid (HE.out.trans (by simp [lineEnd, HL.out, hjn, ← hyy, y10]) : lineEnd xs i 13 = false)
          subst y10
          clear hyy
          gi_wp2
          all_goals (try (rename_i hz1 hz2; simp [undef] at hz1; done))
          all_goals exact ⟨(KeepsOthers.setCell _ _ _).trans (KeepsOthers.setCell _ _ _), ((KeepsOthers.setCell _ _ _).trans (KeepsOthers.setCell _ _ _)).walks, by
            rw [hst.out]; unfold stepP; rw [HT.out]; exact (hI.put.1 _).put.2.2 _, (hB.setCell (p := ⟨w.heap.size + 1 + 1, 1, none⟩) (by simp; omega) _).setCell (p := ⟨w.heap.size + 1 + 1, 3, none⟩) (by simp; omega) _⟩
        · have HT := Lib.hid (HE.out.trans (by simp [lineEnd, HL.out, hjn, ← hyy, y10]) : lineEnd xs i 13 = true)
          have y11 : (y != 10) = true := by simpa using y10
          clear hyy
          gi_wp2
          all_goals (try (rename_i hz1 hz2; simp [undef] at hz1; done))
          all_goals exact ⟨(((KeepsOthers.setCell _ _ _).trans (KeepsOthers.setCell _ _ _)).trans (KeepsOthers.setCell _ _ _)).trans (KeepsOthers.setCell _ _ _), ((((KeepsOthers.setCell _ _ _).trans (KeepsOthers.setCell _ _ _)).trans (KeepsOthers.setCell _ _ _)).trans (KeepsOthers.setCell _ _ _)).walks, by
            rw [hst.out]; unfold stepP; rw [HT.out]; exact (((hI.put.1 _).put.2.2 _).put.2.1 _).put.2.2 _, (((hB.setCell (p := ⟨w.heap.size + 1 + 1, 1, none⟩) (by simp; omega) _).setCell (p := ⟨w.heap.size + 1 + 1, 3, none⟩) (by simp; omega) _).setCell (p := ⟨w.heap.size + 1 + 1, 2, none⟩) (by simp; omega) _).setCell (p := ⟨w.heap.size + 1 + 1, 3, none⟩) (by simp; omega) _⟩
      · have HT := Lib.hid (HE.out.trans (by simp [lineEnd, HL.out, hjn]) : lineEnd xs i 13 = true)
        have hjn' : ¬ ((j : Int) + 1 < n) := by omega
        gi_wp2
        all_goals (try (rename_i hz1 hz2; simp [undef] at hz1; done))
        all_goals exact ⟨(((KeepsOthers.setCell _ _ _).trans (KeepsOthers.setCell _ _ _)).trans (KeepsOthers.setCell _ _ _)).trans (KeepsOthers.setCell _ _ _), ((((KeepsOthers.setCell _ _ _).trans (KeepsOthers.setCell _ _ _)).trans (KeepsOthers.setCell _ _ _)).trans (KeepsOthers.setCell _ _ _)).walks, by
          rw [hst.out]; unfold stepP; rw [HT.out]; exact (((hI.put.1 _).put.2.2 _).put.2.1 _).put.2.2 _, (((hB.setCell (p := ⟨w.heap.size + 1 + 1, 1, none⟩) (by simp; omega) _).setCell (p := ⟨w.heap.size + 1 + 1, 3, none⟩) (by simp; omega) _).setCell (p := ⟨w.heap.size + 1 + 1, 2, none⟩) (by simp; omega) _).setCell (p := ⟨w.heap.size + 1 + 1, 3, none⟩) (by simp; omega) _⟩
    · have HT := Lib.hid (HE.out.trans (by simp [lineEnd, r10, r13]) : lineEnd xs i r = false)
      have e10 : (r == 10) = false := by simpa using r10
      have e13 : (r == 13) = false := by simpa using r13
      gi_wp2
      all_goals (try (rename_i hz1 hz2; simp [undef] at hz1; done))
      all_goals exact ⟨(KeepsOthers.setCell _ _ _).trans (KeepsOthers.setCell _ _ _), ((KeepsOthers.setCell _ _ _).trans (KeepsOthers.setCell _ _ _)).walks, by
        rw [hst.out]; unfold stepP; rw [HT.out]; exact (hI.put.1 _).put.2.2 _, (hB.setCell (p := ⟨w.heap.size + 1 + 1, 1, none⟩) (by simp; omega) _).setCell (p := ⟨w.heap.size + 1 + 1, 3, none⟩) (by simp; omega) _⟩
  case hdone =>
    rintro D ys W hD rfl ⟨hI, hB⟩ hK
    have HP := Lib.hid (show placeB xs m = (prAt S 0).foldl (stepP xs) (0, 1, 1) by rw [placeB, HS.out])
    obtain ⟨st, hs⟩ : ∃ st, st = (prAt S 0).foldl (stepP xs) (0, 1, 1) := ⟨_, rfl⟩
    rw [← hs] at hI HP
    clear hs
    obtain ⟨u, v, z⟩ := st
    simp only [] at hI
    obtain ⟨c0, c10, c11, c12, c13, f10, f11, f12, f13, c20, c21, c22, c23, f21, f22, f23⟩ := id hI
    gi_wp2
    obtain ⟨e0, e1, e2, e3⟩ := four_set W (w.heap.size + 1) _ _ _ _ (.int .i64 m) (.int .i64 u) (.int .i64 v) (.int .i64 z) c10 c11 c12 c13
    have hko : KeepsOthers W ((((W.setCell ⟨w.heap.size + 1, 0, none⟩ (.int .i64 m)).setCell ⟨w.heap.size + 1, 1, none⟩ (.int .i64 u)).setCell ⟨w.heap.size + 1, 2, none⟩ (.int .i64 v)).setCell ⟨w.heap.size + 1, 3, none⟩ (.int .i64 z)) :=
      (((KeepsOthers.setCell _ _ _).trans (KeepsOthers.setCell _ _ _)).trans (KeepsOthers.setCell _ _ _)).trans (KeepsOthers.setCell _ _ _)
    have hbb := (((hB.setCell (p := ⟨w.heap.size + 1, 0, none⟩) (by simp) (.int .i64 m)).setCell (p := ⟨w.heap.size + 1, 1, none⟩) (by simp) (.int .i64 u)).setCell (p := ⟨w.heap.size + 1, 2, none⟩) (by simp) (.int .i64 v)).setCell (p := ⟨w.heap.size + 1, 3, none⟩) (by simp) (.int .i64 z)
    have hK' := hko.same D _ hK rfl
    obtain ⟨V, hV⟩ : ∃ V, V = ((((W.setCell ⟨w.heap.size + 1, 0, none⟩ (.int .i64 m)).setCell ⟨w.heap.size + 1, 1, none⟩ (.int .i64 u)).setCell ⟨w.heap.size + 1, 2, none⟩ (.int .i64 v)).setCell ⟨w.heap.size + 1, 3, none⟩ (.int .i64 z)) := ⟨_, rfl⟩
    rw [← hV] at e0 e1 e2 e3 hbb hK' ⊢
    clear hV hko
    refine ⟨by simp, .inl ⟨_, _, rfl, run_takeDeferred hK', ?_⟩⟩
    have k0 := cell_kept e0 (grownBy_putObj' _ D (.deferred none)) (fun r e => by cases e; exact ⟨_, hK', rfl⟩)
    have k1 := cell_kept e1 (grownBy_putObj' _ D (.deferred none)) (fun r e => by cases e; exact ⟨_, hK', rfl⟩)
    have k2 := cell_kept e2 (grownBy_putObj' _ D (.deferred none)) (fun r e => by cases e; exact ⟨_, hK', rfl⟩)
    have k3 := cell_kept e3 (grownBy_putObj' _ D (.deferred none)) (fun r e => by cases e; exact ⟨_, hK', rfl⟩)
    refine ⟨.tuple #[.agg #[.int .i64 m, .int .i64 u, .int .i64 v, .int .i64 z], .int .i64 0], ?_, by rw [HP.out], hbb.trans (belowK_b (w := w) (Nat.le_refl _) V D _ _ (by simp at hD; omega) hK' rfl rfl)⟩
    simp [results, Tryd.f29, go_sem, k0, k1, k2, k3]
  case hstop =>
    rintro D c pre W _ _ h _
    exact h.elim
end Go.Proofs.YtbbfifaojepjiaaDoor
