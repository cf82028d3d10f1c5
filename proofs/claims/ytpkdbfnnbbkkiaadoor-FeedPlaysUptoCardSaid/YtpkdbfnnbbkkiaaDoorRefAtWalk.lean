/- The walk of gimletref01.At. -/
import Derived.Test.YtpkdbfnnbbkkiaaDoorCharsWalk
import Derived.Test.YtpkdbfnnbbkkiaaDoorAt2Walk
namespace Gim
open Go Go.RowKit
/-- characters in memory, to be read -/
structure Rd3 (w : World) (B : Nat) (ao : Option Addr) (n cap : Nat) (cs : List (Int × Int × Int)) : Prop where
  len : cs.length = n
  le : n ≤ cap
  cap_le : cap ≤ maxLen
  cell : 0 < n → ∃ g, ao = some ⟨g, 0, none⟩ ∧ B ≤ g ∧ g < w.heap.size ∧ ∀ i c, cs[i]? = some c → w.cell? ⟨g, i * 3, none⟩ = some (.int .i64 c.1) ∧ w.cell? ⟨g, i * 3 + 1, none⟩ = some (.int .i64 c.2.1) ∧ w.cell? ⟨g, i * 3 + 2, none⟩ = some (.int .i64 c.2.2)
theorem Row3.rd {w : World} {B : Nat} {e : TypeId} {v : Value} {cs : List (Int × Int × Int)} (h : Row3 w B e v cs) : ∃ ao cap, v = .slice ao cs.length cap ∧ Rd3 w B ao cs.length cap cs := by
  rcases h.2 with ⟨rfl, h0⟩ | ⟨g, cap, cur, rfl, hb, hg, hn, hc, hs, ht⟩
  · exact ⟨none, 0, by rw [h0], rfl, by omega, by unfold maxLen; omega, fun hh => by omega⟩
  · refine ⟨_, cap, rfl, rfl, hn, hc, fun _ => ⟨g, rfl, hb, (Array.getElem?_eq_some_iff.1 hg).1, fun i c hi => ?_⟩⟩
    have hc3 := cells3_get hi
    have h0 := World.ownsRow.cells (g := g) h rfl _ _ hc3.1
    have h1 := World.ownsRow.cells (g := g) h rfl _ _ hc3.2.1
    have h2 := World.ownsRow.cells (g := g) h rfl _ _ hc3.2.2
    rw [Addr.add_lit, Nat.zero_add, Nat.mul_comm 3 i] at h0 h1 h2
    exact ⟨h0, h1, h2⟩
theorem Rd3.below {w w' : World} {B : Nat} {ao : Option Addr} {n cap : Nat} {cs : List (Int × Int × Int)} (h : Rd3 w B ao n cap cs) (hb : Below w.heap.size w w') : Rd3 w' B ao n cap cs :=
  ⟨h.len, h.le, h.cap_le, fun h0 => by
    obtain ⟨g, e, hB, hg, hc⟩ := h.cell h0
    exact ⟨g, e, hB, Nat.lt_of_lt_of_le hg hb.size, fun i c hi => by
      have := hc i c hi
      exact ⟨(hb.cell (p := ⟨g, i * 3, none⟩) hg).trans this.1, (hb.cell (p := ⟨g, i * 3 + 1, none⟩) hg).trans this.2.1, (hb.cell (p := ⟨g, i * 3 + 2, none⟩) hg).trans this.2.2⟩⟩⟩
/-- what At's variables hold: the answer's room, the place so far -/
structure PI (R P : Nat) (m u v z : Int) (W : World) : Prop where
  c10 : W.cell? ⟨R, 0, none⟩ = some (.int .i64 0)
  c11 : W.cell? ⟨R, 1, none⟩ = some (.int .i64 0)
  c12 : W.cell? ⟨R, 2, none⟩ = some (.int .i64 0)
  c13 : W.cell? ⟨R, 3, none⟩ = some (.int .i64 0)
  f10 : W.frozen? ⟨R, 0, none⟩ = false
  f11 : W.frozen? ⟨R, 1, none⟩ = false
  f12 : W.frozen? ⟨R, 2, none⟩ = false
  f13 : W.frozen? ⟨R, 3, none⟩ = false
  c20 : W.cell? ⟨P, 0, none⟩ = some (.int .i64 m)
  c21 : W.cell? ⟨P, 1, none⟩ = some (.int .i64 u)
  c22 : W.cell? ⟨P, 2, none⟩ = some (.int .i64 v)
  c23 : W.cell? ⟨P, 3, none⟩ = some (.int .i64 z)
  f21 : W.frozen? ⟨P, 1, none⟩ = false
  f22 : W.frozen? ⟨P, 2, none⟩ = false
  f23 : W.frozen? ⟨P, 3, none⟩ = false
theorem PI.put {R P : Nat} (hRP : R ≠ P) {m u v z : Int} {W : World} (h : PI R P m u v z W) : 
    (∀ u', PI R P m u' v z (W.setCell ⟨P, 1, none⟩ (.int .i64 u'))) ∧ (∀ v', PI R P m u v' z (W.setCell ⟨P, 2, none⟩ (.int .i64 v'))) ∧ (∀ z', PI R P m u v z' (W.setCell ⟨P, 3, none⟩ (.int .i64 z'))) := by
  obtain ⟨c10, c11, c12, c13, f10, f11, f12, f13, c20, c21, c22, c23, f21, f22, f23⟩ := h
  have other : ∀ (p q : Addr) (x y : Value), W.cell? q = some y → p ≠ q → (W.setCell p x).cell? q = some y := fun p q x y hq hne => (World.cell?_setCell_other _ _ _ _ hne).trans hq
  have same : ∀ (p : Addr) (x y : Value), W.cell? p = some y → (W.setCell p x).cell? p = some x := fun p x y hq => World.cell?_setCell_same _ _ _ hq
  refine ⟨fun u' => ?_, fun v' => ?_, fun z' => ?_⟩
  all_goals constructor
  all_goals first
    | exact other _ _ _ _ (by assumption) (by simp only [ne_eq, Addr.mk.injEq, not_and]; intro hh; first | (intro hh2; cases hh2; done) | exact absurd hh.symm hRP)
    | exact same _ _ _ (by assumption)
    | (rw [World.frozen?_setCell]; assumption)
theorem PI.drewN {R P : Nat} {m u v z : Int} {W : World} (h : PI R P m u v z W) (n : Nat) : PI R P m u v z (W.drewN n) :=
  ⟨h.c10, h.c11, h.c12, h.c13, h.f10, h.f11, h.f12, h.f13, h.c20, h.c21, h.c22, h.c23, h.f21, h.f22, h.f23⟩
theorem Fr.cell {p : Nat → Prop} {w w' : World} (h : Fr p w w') {b o : Nat} (hb : b < w.heap.size) (hp : ¬ p b) : w'.cell? ⟨b, o, none⟩ = w.cell? ⟨b, o, none⟩ := World.cell?_of_block (a := ⟨b, o, none⟩) (h.block b hb hp)
theorem foldQ_bounds (xs : List Int) : ∀ (l : List (Int × Int × Int)) (s : Int × Int × Int) (k : Int), 0 ≤ s.1 → s.1 ≤ k → 1 ≤ s.2.1 → s.2.1 ≤ k + 1 → 1 ≤ s.2.2 → s.2.2 ≤ k + 1 →
    0 ≤ (l.foldl (stepQ xs) s).1 ∧ (l.foldl (stepQ xs) s).1 ≤ k + l.length ∧ 1 ≤ (l.foldl (stepQ xs) s).2.1 ∧ (l.foldl (stepQ xs) s).2.1 ≤ k + l.length + 1 ∧ 1 ≤ (l.foldl (stepQ xs) s).2.2 ∧ (l.foldl (stepQ xs) s).2.2 ≤ k + l.length + 1
  | [], s, k, h1, h2, h3, h4, h5, h6 => by simp; omega
  | p :: l, s, k, h1, h2, h3, h4, h5, h6 => by
    have hs : 0 ≤ (stepQ xs s p).1 ∧ (stepQ xs s p).1 ≤ k + 1 ∧ 1 ≤ (stepQ xs s p).2.1 ∧ (stepQ xs s p).2.1 ≤ k + 1 + 1 ∧ 1 ≤ (stepQ xs s p).2.2 ∧ (stepQ xs s p).2.2 ≤ k + 1 + 1 := by
      unfold stepQ
      dsimp only
      split <;> omega
    have := foldQ_bounds xs l (stepQ xs s p) (k + 1) hs.1 hs.2.1 hs.2.2.1 hs.2.2.2.1 hs.2.2.2.2.1 hs.2.2.2.2.2
    simp only [List.foldl_cons, List.length_cons, Int.natCast_add, Int.natCast_one]
    omega
theorem foldQ_snoc (xs : List Int) (l : List (Int × Int × Int)) (x : Int × Int × Int) (s : Int × Int × Int) : (l ++ [x]).foldl (stepQ xs) s = stepQ xs (l.foldl (stepQ xs) s) x := by rw [List.foldl_append]; rfl
end Gim
namespace Go.Proofs.YtpkdbfnnbbkkiaaDoor
open Go.RowKit Gim
set_option maxRecDepth 100000 in
set_option maxHeartbeats 4000000 in
theorem refAt_calls (i : Int) (w : World) (ao : Option Addr) (n cap : Nat) (xs : List Int) (h : Rb w ao n cap xs) (hxs : ∀ x ∈ xs, 0 ≤ x ∧ x ≤ 255) (hn : n ≤ 1099511627770) :
    Calls Tryd.prog 48 #[.slice ao n cap, .int .i64 i] w fun e w' => e = .returned (.tuple #[.agg #[.int .i64 (atB xs i).1.1, .int .i64 (atB xs i).1.2.1, .int .i64 (atB xs i).1.2.2.1, .int .i64 (atB xs i).1.2.2.2], .int .i64 (atB xs i).2]) ∧ Below w.heap.size w w' := by
  have hl := h.rd.len
  by_cases hr : i < 0 ∨ (n : Int) < i
  · rw [show atB xs i = ((0, 0, 0, 0), 2) by rw [atB, if_pos (by rw [hl]; exact hr)]]
    rcases hr with hr | hr
    all_goals
      go_enter Tryd.func48, Tryd.ntmps48
      go_wp2
      have hh := heap_alloc_new w (.cells #[.int .i64 0, .int .i64 0, .int .i64 0, .int .i64 0] 77)
      obtain ⟨V, hV⟩ : ∃ V, V = w.alloc (.cells #[.int .i64 0, .int .i64 0, .int .i64 0, .int .i64 0] 77) := ⟨_, rfl⟩
      have hbV : Below w.heap.size w V := by rw [hV]; exact (Below.refl _ _).alloc (Nat.le_refl _) _
      rw [← hV] at hh ⊢
      have k0 : V.cell? ⟨w.heap.size, 0, none⟩ = some (.int .i64 0) := by simp [World.cell?, hh]
      have k1 : V.cell? ⟨w.heap.size, 1, none⟩ = some (.int .i64 0) := by simp [World.cell?, hh]
      have k2 : V.cell? ⟨w.heap.size, 2, none⟩ = some (.int .i64 0) := by simp [World.cell?, hh]
      have k3 : V.cell? ⟨w.heap.size, 3, none⟩ = some (.int .i64 0) := by simp [World.cell?, hh]
      refine ⟨rfl, .tuple #[.agg #[.int .i64 0, .int .i64 0, .int .i64 0, .int .i64 0], .int .i64 2], ?_, rfl, hbV⟩
      simp [results, Tryd.f48, go_sem, k0, k1, k2, k3]
  obtain ⟨m, rfl⟩ := Int.eq_ofNat_of_zero_le (show 0 ≤ i by omega)
  have hm : m ≤ n := by omega
  rw [show atB xs m = (((m : Int), (placeB xs m).1, (placeB xs m).2.1, (placeB xs m).2.2), 0) by rw [atB, if_neg (by rw [hl]; exact hr)]; rfl]
  rw [placeB_ch hxs]
  have hz4 := heap_alloc_new w (.cells #[.int .i64 0, .int .i64 0, .int .i64 0, .int .i64 0] 77)
  obtain ⟨Y0, hY0⟩ : ∃ Y0, Y0 = w.alloc (.cells #[.int .i64 0, .int .i64 0, .int .i64 0, .int .i64 0] 77) := ⟨_, rfl⟩
  have hp4 := heap_alloc_new Y0 (.cells #[.int .i64 m, .int .i64 0, .int .i64 1, .int .i64 1] 77)
  obtain ⟨Y1, hY1⟩ : ∃ Y1, Y1 = Y0.alloc (.cells #[.int .i64 m, .int .i64 0, .int .i64 1, .int .i64 1] 77) := ⟨_, rfl⟩
  have s0 : Y0.heap.size = w.heap.size + 1 := by rw [hY0]; simp
  have s1 : Y1.heap.size = w.heap.size + 1 + 1 := by rw [hY1, World.size_alloc, s0]
  have hb1 : Below w.heap.size w Y1 := by rw [hY1, hY0]; exact ((Below.refl _ _).alloc (Nat.le_refl _) _).alloc (by simp) _
  rw [s0, ← hY1] at hp4
  have hz4 : Y1.heap[w.heap.size]? = some (.cells #[.int .i64 0, .int .i64 0, .int .i64 0, .int .i64 0] 77) := by
    rw [hY1]
    exact (heap_alloc_old Y0 _ (by omega)).trans (hY0 ▸ hz4)
  have rb1 := h.below hb1
  have HY1 := Lib.hid hY1
  have HY0 := Lib.hid hY0
  clear hY1 hY0
  have cC := chars_calls Y1 _ _ _ _ (rb1.take hm) (fun x hx => hxs x (List.mem_of_mem_take hx)) (by omega)
  have hinv := chB_inv (xs := xs.take m) (fun x hx => hxs x (List.mem_of_mem_take hx))
  have hlt : (xs.take m).length = m := by rw [List.length_take]; omega
  have hcl := chB_length (xs.take m)
  obtain ⟨cs, hcs⟩ : ∃ cs, cs = chB (xs.take m) := ⟨_, rfl⟩
  rw [← hcs] at cC hinv hcl ⊢
  rw [hlt] at hinv hcl
  obtain ⟨⟨F1, F2, F3⟩, hF⟩ : ∃ F, F = cs.foldl (stepQ xs) (0, 1, 1) := ⟨_, rfl⟩
  rw [← hF]
  have HF := Lib.hid hF
  dsimp only
  clear hcs hlt hF
  have HI := Lib.hid hinv
  have HL := Lib.hid hl
  have hle := h.rd.le
  have hcap := h.rd.cap_le
  have hmd : decide ((m : Int) < 0) = false := by simp
  clear hinv hr hl
  go_enter Tryd.func48, Tryd.ntmps48
  go_wp2_with fail
  rw [← HY0.out, ← HY1.out]
  refine cC.mono ?_
  rintro e w1 ⟨v, rfl, hrow, hb⟩
  obtain ⟨a1, c1, rfl, rd⟩ := hrow.rd
  obtain ⟨l, hll⟩ : ∃ l, l = cs.length := ⟨_, rfl⟩
  have HLL := Lib.hid hll
  rw [← hll] at rd hcl ⊢
  have hR := (hb.block _ (by omega)).trans hz4
  have hP := (hb.block _ (by omega)).trans hp4
  have rb := rb1.below hb
  have hz1 := hb.size
  have hbw1 := hb1.trans (hb.mono hb1.size)
  rw [s1] at rd
  clear cC hrow hll hz4 hp4 rb1 hb1 hb HY0 HY1
  have hI : PI w.heap.size (w.heap.size + 1) m 0 1 1 w1 := by
    constructor <;> simp [World.cell?, World.frozen?, hR, hP]
  clear hR hP
  have HB := Lib.hid (fun j (hj : j < n) (W : World) (hf : Fr (fun k => k = w.heap.size + 1) w1 W) => show ∃ b o, ao = some ⟨b, o, none⟩ ∧ W.cell? ⟨b, o + j, none⟩ = some (.int .u8 (gt xs j)) by
    obtain ⟨b, o, e, hbz, hc⟩ := h.rd.cell j hj
    exact ⟨b, o, e, (hf.cell (by omega) (by omega)).trans ((hbw1.cell (p := ⟨b, o + j, none⟩) hbz).trans (hc j hj))⟩)
  have HC := Lib.hid (fun i c (hi : cs[i]? = some c) (W : World) (hf : Fr (fun k => k = w.heap.size + 1) w1 W) => show ∃ g, a1 = some ⟨g, 0, none⟩ ∧ w.heap.size + 1 < g ∧ W.cell? ⟨g, i * 3, none⟩ = some (.int .i64 c.1) ∧ W.cell? ⟨g, i * 3 + 1, none⟩ = some (.int .i64 c.2.1) ∧ W.cell? ⟨g, i * 3 + 2, none⟩ = some (.int .i64 c.2.2) by
    have hil : i < cs.length := (List.getElem?_eq_some_iff.1 hi).1
    obtain ⟨g, e, hB, hg, hc⟩ := rd.cell (by rw [HLL.out]; omega)
    have := hc i c hi
    exact ⟨g, e, by omega, (hf.cell hg (by omega)).trans this.1, (hf.cell hg (by omega)).trans this.2.1, (hf.cell hg (by omega)).trans this.2.2⟩)
  have hbn : ∀ (b : Nat) (o j : Nat), ao = some ⟨b, o, none⟩ → j < n → b < w.heap.size := fun b o j e hj => by
    obtain ⟨b', o', e', hbz, _⟩ := h.rd.cell j hj
    rw [e] at e'
    simp only [Option.some.injEq, Addr.mk.injEq, and_true] at e'
    omega
  have HBN := Lib.hid hbn
  clear rd rb h hbn
  have hRP : w.heap.size ≠ w.heap.size + 1 := by omega
  go_wp2
  go_loopw [8] (fun y wr => ∃ (i : Nat) (st : Int × Int × Int), y = .int .i64 i ∧ i ≤ l ∧ PI w.heap.size (w.heap.size + 1) m st.1 st.2.1 st.2.2 wr ∧ Hid (st = (cs.take i).foldl (stepQ xs) (0, 1, 1)) ∧ Fr (fun k => k = w.heap.size + 1) w1 wr) (fun y _ => l - (RowKit.intOf y).toNat)
  case atStart => exact ⟨0, (0, 1, 1), rfl, by omega, hI, Lib.hid rfl, Fr.refl _ _⟩
  case round =>
    obtain ⟨i, ⟨u, v, z⟩, rfl, hil, hI, hst, hF⟩ := hrel
    dsimp only at hI
    by_cases hi : i < l
    · have hci : cs[i]? = some (cs[i]'(by rw [← HLL.out]; exact hi)) := List.getElem?_eq_getElem _
      obtain ⟨c, hc⟩ : ∃ c, c = cs[i]'(by rw [← HLL.out]; exact hi) := ⟨_, rfl⟩
      rw [← hc] at hci
      have hch := HI.out c (List.mem_of_getElem? hci)
      obtain ⟨g, rfl, hgR, k0, k1, k2⟩ := HC.out i c hci wr hF
      have hbd := foldQ_bounds xs (cs.take i) (0, 1, 1) 0 (by decide) (by decide) (by decide) (by decide) (by decide) (by decide)
      have htl : (cs.take i).length = i := by rw [List.length_take, ← HLL.out]; omega
      rw [htl, ← hst.out] at hbd
      have hstep : (cs.take (i + 1)).foldl (stepQ xs) (0, 1, 1) = stepQ xs (u, v, z) c := by
        rw [List.take_add_one, hci, Option.toList_some, foldQ_snoc, ← hst.out]
      obtain ⟨A, r, d⟩ := c
      obtain ⟨hA0, hCh, hd1, hd4, hAd, hone⟩ := hch
      obtain ⟨c10, c11, c12, c13, f10, f11, f12, f13, c20, c21, c22, c23, f21, f22, f23⟩ := id hI
      dsimp only at k0 k1 k2 hA0 hCh hd1 hd4 hAd hone hbd
      obtain ⟨a, rfl⟩ := Int.eq_ofNat_of_zero_le hA0
      obtain ⟨d, rfl⟩ := Int.eq_ofNat_of_zero_le (show 0 ≤ d by omega)
      obtain ⟨b1, b2, b3, b4, b5, b6⟩ := hbd
      have hFQ : stepQ xs (u, v, z) ((a : Int), r, (d : Int)) = if (decide (r = 10) || (decide (r = 13) && !(decide ((a : Int) + d < xs.length) && decide (gt xs ((a : Int) + d).toNat = 10)))) = true then (u + 1, v + 1, 1) else (u + 1, v, z + 1) := by
        unfold stepQ
        dsimp only
        split <;> rfl
      rw [HL.out] at hFQ
      rw [hFQ] at hstep
      clear hFQ hc htl hCh hone hst hA0 k0 k1 k2
      have hF2 : Fr (fun k => k = w.heap.size + 1) w1 ((wr.setCell ⟨w.heap.size + 1, 1, none⟩ (.int .i64 (u + 1))).setCell ⟨w.heap.size + 1, 3, none⟩ (.int .i64 (z + 1))) := (hF.set (w.heap.size + 1) 1 _ rfl).set (w.heap.size + 1) 3 _ rfl
      have hI2 := (PI.put hRP ((PI.put hRP hI).1 (u + 1))).2.2 (z + 1)
      go_wp2
      obtain ⟨W2, hW2⟩ : ∃ W2, W2 = (wr.setCell ⟨w.heap.size + 1, 1, none⟩ (.int .i64 (u + 1))).setCell ⟨w.heap.size + 1, 3, none⟩ (.int .i64 (z + 1)) := ⟨_, rfl⟩
      rw [← hW2] at hF2 hI2 ⊢
      clear hW2 c10 c11 c12 c13 f10 f11 f12 f13 c20 c21 c22 c23 f21 f22 f23 hI hF
      obtain ⟨g', eg, _, k0, k1, k2⟩ := HC.out i _ hci W2 hF2
      simp only [Option.some.injEq, Addr.mk.injEq, and_true] at eg
      subst eg
      dsimp only at k0 k1 k2
      go_quiet (fail)
      obtain ⟨W3, hW3⟩ : ∃ W3, W3 = W2.drewN nq := ⟨_, rfl⟩
      have hI := hI2.drewN nq
      have hF := hF2.drewN nq
      rw [← hW3] at hI hF ⊢
      clear hW3 k0 k1 k2 hI2 hF2
      obtain ⟨g', eg, _, k0, k1, k2⟩ := HC.out i _ hci W3 hF
      simp only [Option.some.injEq, Addr.mk.injEq, and_true] at eg
      subst eg
      dsimp only at k0 k1 k2
      obtain ⟨c10, c11, c12, c13, f10, f11, f12, f13, c20, c21, c22, c23, f21, f22, f23⟩ := id hI
      have HSTEP := Lib.hid hstep
      clear hstep hci
      by_cases r10 : r = 10
      · subst r10
        have HT := Lib.hid (HSTEP.out.trans (by rw [if_pos (by simp)]) : (cs.take (i + 1)).foldl (stepQ xs) (0, 1, 1) = (u + 1, v + 1, 1))
        clear HSTEP
        go_wp2
        go_roundw
        case rel => exact ⟨i + 1, (u + 1, v + 1, 1), by go_num, by omega, (PI.put hRP ((PI.put hRP hI).2.1 _)).2.2 _, Lib.hid HT.out.symm, (hF.set (w.heap.size + 1) 2 _ rfl).set (w.heap.size + 1) 3 _ rfl⟩
        case measure => simp [RowKit.intOf]; omega
      by_cases r13 : r = 13
      · subst r13
        by_cases he : (a : Int) + d < n
        · obtain ⟨b, o, rfl, hy⟩ := HB.out (a + d) (by omega) W3 hF
          have hbR := HBN.out b o (a + d) rfl (by omega)
          have hyt : ((a : Int) + d).toNat = a + d := by omega
          have hstep := HSTEP.out
          rw [hyt] at hstep
          obtain ⟨y, hyy⟩ : ∃ y, y = gt xs (a + d) := ⟨_, rfl⟩
          rw [← hyy] at hy hstep
          clear hyy HSTEP
          have HSTEP := Lib.hid hstep
          clear hstep
          by_cases y10 : y = 10
          · subst y10
            have HT := Lib.hid (HSTEP.out.trans (by rw [if_neg (by simp [he])]) : (cs.take (i + 1)).foldl (stepQ xs) (0, 1, 1) = (u + 1, v, z + 1))
            clear HSTEP
            go_wp2
            go_roundw
            case rel => exact ⟨i + 1, (u + 1, v, z + 1), by go_num, by omega, hI, Lib.hid HT.out.symm, hF⟩
            case measure => simp [RowKit.intOf]; omega
          · have y11 : (y == 10) = false := by simpa using y10
            have HT := Lib.hid (HSTEP.out.trans (by rw [if_pos (by simp [y10])]) : (cs.take (i + 1)).foldl (stepQ xs) (0, 1, 1) = (u + 1, v + 1, 1))
            clear HSTEP
            go_wp2
            go_roundw
            case rel => exact ⟨i + 1, (u + 1, v + 1, 1), by go_num, by omega, (PI.put hRP ((PI.put hRP hI).2.1 _)).2.2 _, Lib.hid HT.out.symm, (hF.set (w.heap.size + 1) 2 _ rfl).set (w.heap.size + 1) 3 _ rfl⟩
            case measure => simp [RowKit.intOf]; omega
        · have HT := Lib.hid (HSTEP.out.trans (by rw [if_pos (by simp [he])]) : (cs.take (i + 1)).foldl (stepQ xs) (0, 1, 1) = (u + 1, v + 1, 1))
          clear HSTEP
          go_wp2
          go_roundw
          case rel => exact ⟨i + 1, (u + 1, v + 1, 1), by go_num, by omega, (PI.put hRP ((PI.put hRP hI).2.1 _)).2.2 _, Lib.hid HT.out.symm, (hF.set (w.heap.size + 1) 2 _ rfl).set (w.heap.size + 1) 3 _ rfl⟩
          case measure => simp [RowKit.intOf]; omega
      · have e10 : (r == 10) = false := by simpa using r10
        have e13 : (r == 13) = false := by simpa using r13
        have HT := Lib.hid (HSTEP.out.trans (by rw [if_neg (by simp [r10, r13])]) : (cs.take (i + 1)).foldl (stepQ xs) (0, 1, 1) = (u + 1, v, z + 1))
        clear HSTEP
        go_wp2
        go_roundw
        case rel => exact ⟨i + 1, (u + 1, v, z + 1), by go_num, by omega, hI, Lib.hid HT.out.symm, hF⟩
        case measure => simp [RowKit.intOf]; omega
    · obtain rfl : i = l := by omega
      have hE : ((F1, F2, F3) : Int × Int × Int) = (u, v, z) := by
        rw [HF.out, hst.out, List.take_of_length_le (by rw [← HLL.out]; exact Nat.le_refl _)]
      simp only [Prod.mk.injEq] at hE
      obtain ⟨rfl, rfl, rfl⟩ := hE
      obtain ⟨c10, c11, c12, c13, f10, f11, f12, f13, c20, c21, c22, c23, f21, f22, f23⟩ := hI
      go_wp2
      obtain ⟨e0, e1, e2, e3⟩ := four_set wr w.heap.size _ _ _ _ (.int .i64 m) (.int .i64 F1) (.int .i64 F2) (.int .i64 F3) c10 c11 c12 c13
      have hbb : Below w.heap.size w ((((wr.setCell ⟨w.heap.size, 0, none⟩ (.int .i64 m)).setCell ⟨w.heap.size, 1, none⟩ (.int .i64 F1)).setCell ⟨w.heap.size, 2, none⟩ (.int .i64 F2)).setCell ⟨w.heap.size, 3, none⟩ (.int .i64 F3)) :=
        ((((hbw1.trans (hF.below (by omega) (fun j hj => by omega))).setCell (p := ⟨w.heap.size, 0, none⟩) (by simp) _).setCell (p := ⟨w.heap.size, 1, none⟩) (by simp) _).setCell (p := ⟨w.heap.size, 2, none⟩) (by simp) _).setCell (p := ⟨w.heap.size, 3, none⟩) (by simp) _
      obtain ⟨V, hV⟩ : ∃ V, V = ((((wr.setCell ⟨w.heap.size, 0, none⟩ (.int .i64 m)).setCell ⟨w.heap.size, 1, none⟩ (.int .i64 F1)).setCell ⟨w.heap.size, 2, none⟩ (.int .i64 F2)).setCell ⟨w.heap.size, 3, none⟩ (.int .i64 F3)) := ⟨_, rfl⟩
      rw [← hV] at e0 e1 e2 e3 hbb ⊢
      refine ⟨rfl, .tuple #[.agg #[.int .i64 m, .int .i64 F1, .int .i64 F2, .int .i64 F3], .int .i64 0], ?_, rfl, hbb⟩
      simp [results, Tryd.f48, go_sem, e0, e1, e2, e3]
end Go.Proofs.YtpkdbfnnbbkkiaaDoor
