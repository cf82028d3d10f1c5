/- The walk of gimletlaw04.drain. -/
import Derived.Test.YtpkdbfnnbbkkiaaDoorFeedRow
namespace Go.Proofs.YtpkdbfnnbbkkiaaDoor
open Go.RowKit Gim
theorem Row6.mono {w : World} {B B' : Nat} {v : Value} {cs : List Ch6} (h : Row6 w B v cs) (hB : B' ≤ B) : Row6 w B' v cs := by
  refine ⟨h.1, ?_⟩
  rcases h.2 with h2 | ⟨g, cap, cur, a, b, c, rest⟩
  · exact .inl h2
  · exact .inr ⟨g, cap, cur, a, Nat.le_trans hB b, c, rest⟩
/-- utf8's tables lie below B -/
def U8B (w : World) (B : Nat) : Prop := ∃ w0, U8 w0 ∧ Below w0.heap.size w0 w ∧ w0.heap.size ≤ B
theorem U8B.u8 {w : World} {B : Nat} (h : U8B w B) : U8 w := by
  obtain ⟨w0, h1, h2, h3⟩ := h
  exact h1.below h2
theorem U8B.fr {q : Nat → Prop} {w w' : World} {B : Nat} (h : U8B w B) (hf : Fr q w w') (hq : ∀ j, q j → B ≤ j) : U8B w' B := by
  obtain ⟨w0, h1, h2, h3⟩ := h
  exact ⟨w0, h1, h2.trans (hf.below h2.size (fun j hj => Nat.le_trans h3 (hq j hj))), h3⟩
theorem peek_how (xs : List Int) (p : Pl) (e : Bool) : (peekB xs p e).2 = (firstB xs e).2.2 := by
  unfold peekB
  split
  · rename_i h; exact h.symm
  · split
    · rename_i h; exact h.symm
    · rfl
/-- what drain hands back -/
def Drained (w : World) (B F : Nat) (v : Value) (xs : List Int) (p : Pl) (e : Bool) (E : Ending) (w' : World) : Prop :=
  ∃ vs, E = .returned (.tuple #[vs, charV (peekB (drainB xs p e).2.1 (drainB xs p e).2.2 e).1, .int .i64 (peekB (drainB xs p e).2.1 (drainB xs p e).2.2 e).2]) ∧ Row6 w' w.heap.size vs (drainB xs p e).1 ∧
    ∃ v', Fm w' B F v' (drainB xs p e).2.1 (drainB xs p e).2.2 e ∧ Fr (fun j => j = F) w w' ∧ blk v' = blk v
set_option maxRecDepth 100000 in
set_option maxHeartbeats 4000000 in
theorem drain_calls (w : World) (B F : Nat) (v : Value) (xs : List Int) (p : Pl) (e : Bool) (h : Fm w B F v xs p e) (hT : U8B w B) (hp : Pok p xs.length) (m : Nat) (hm : xs.length < m) (hm2 : m ≤ 549755813888) :
    Calls Tryd.prog 15 #[.pointer (some ⟨F, 0, none⟩), .int .i64 m] w (Drained w B F v xs p e) := by
  have b0 : Below w.heap.size w (w.alloc (Obj.cells #[.int .i32 0, .int .i64 0, .int .i64 0, .int .i64 0, .int .i64 0, .int .i64 0] 32)) := (Below.refl _ _).alloc (Nat.le_refl _) _
  have y0 := heap_alloc_new w (Obj.cells #[.int .i32 0, .int .i64 0, .int .i64 0, .int .i64 0, .int .i64 0, .int .i64 0] 32)
  have h1 := h.fresh b0
  have hFl := h.lt.1
  have hvl := h.lt.2
  unfold Drained
  obtain ⟨D, hD⟩ : ∃ D, Hid (D = drainB xs p e) := ⟨_, rfl⟩
  rw [← hD.out]
  go_enter Tryd.func15, Tryd.ntmps15
  go_wp2
  go_loopw [7, 8] (fun vv u wr => ∃ (k : Nat) (done : List Ch6) (ys : List Int) (q : Pl) (v' : Value), u = .int .i64 k ∧ Row6 wr (w.heap.size + 1) vv done ∧ Fm wr B F v' ys q e ∧ Fr (fun j => j = F) w wr ∧ wr.heap[w.heap.size]? = some (.cells #[.int .i32 0, .int .i64 0, .int .i64 0, .int .i64 0, .int .i64 0, .int .i64 0] 32) ∧ blk v' = blk v ∧ k + ys.length ≤ xs.length ∧ done.length ≤ k ∧ Pok q ys.length ∧ Hid (D = (done ++ (drainB ys q e).1, (drainB ys q e).2))) (fun _ u wr => m - (intOf u).toNat)
  case atStart =>
    exact ⟨0, [], xs, p, v, rfl, Row6.nil _ _, h1, Fr.of b0, y0, rfl, by omega, by simp, hp, Lib.hid (by rw [hD.out]; rfl)⟩
  case round =>
    obtain ⟨k, done, ys, q, v', rfl, hrow, hf, hfr, hy, hbl, hk, hdl, hq, H⟩ := hrel
    have hFB : ∀ j, j = F → B ≤ j := fun j hj => by subst hj; exact h.lo
    have hTr := (hT.fr hfr hFB).u8
    have hC := next_feed wr B F v' ys q e hf hTr (by omega) (by unfold Pok at hq; omega) (by unfold Pok at hq; omega)
    have hkm : (k : Int) < (m : Int) := by omega
    have hBr : w.heap.size + 1 ≤ wr.heap.size := (Array.getElem?_eq_some_iff.1 hy).1
    unfold Nexted at hC
    obtain ⟨f, hff⟩ : ∃ f, Hid (f = firstB ys e) := ⟨_, rfl⟩
    obtain ⟨pk, hpk⟩ : ∃ pk, Hid (pk = peekB ys q e) := ⟨_, rfl⟩
    rw [← hff.out, ← hpk.out] at hC
    by_cases hh : f.2.2 = 0
    · have hN : pk = ((f.1, q, f.2.1), 0) := by rw [hpk.out, hff.out]; unfold peekB; rw [if_pos (by rw [← hff.out]; exact hh)]
      subst hN
      have hN2 := H.out
      rw [drainB_have (by rw [← hff.out]; exact hh)] at hN2
      have hw := first_have (xs := ys) (e := e) (by rw [← hff.out]; exact hh)
      have hq2 := Pok.next (k := 0) (e := e) hq (by rw [← hff.out]; exact hh)
      rw [← hff.out] at hN2 hw hq2
      have HN2 := Lib.hid hN2
      have HC := Lib.hid hC
      have HH := Lib.hid hh
      clear hN2 hC hh hpk hff
      obtain ⟨fr, fn, fh⟩ := f
      simp only [] at hw hq2 HN2 HC
      unfold charV at HC
      go_wp2_with fail
      refine HC.out.mono ?_
      rintro E w1 ⟨rfl, hE⟩
      obtain ⟨hE1, _⟩ | ⟨_, v'', hm1, hfr1, hbl1⟩ := hE
      · exact absurd HH.out hE1
      clear HC
      have hown := fun g hg => (Row6.ty hrow g hg).1
      have hfr2 : Fr (fun j => j = F) wr (w1.alloc (Obj.cells #[.int .i32 fr, .int .i64 q.1, .int .i64 q.2.1, .int .i64 q.2.2.1, .int .i64 q.2.2.2, .int .i64 fn] 32)) := hfr1.alloc _
      have hm2 := hm1.fresh ((Below.refl w1.heap.size w1).alloc (Nat.le_refl _) (Obj.cells #[.int .i32 fr, .int .i64 q.1, .int .i64 q.2.1, .int .i64 q.2.2.1, .int .i64 q.2.2.2, .int .i64 fn] 32))
      have hrow2 := hrow.fr hfr2 (fun g hg e => by have e : g = F := e; have := hown g hg; omega)
      have hs2 := hfr2.size
      have y2 : (w1.alloc (Obj.cells #[.int .i32 fr, .int .i64 q.1, .int .i64 q.2.1, .int .i64 q.2.2.1, .int .i64 q.2.2.2, .int .i64 fn] 32)).heap[w.heap.size]? = _ := (hfr2.block w.heap.size (by omega) (fun e => by have e : w.heap.size = F := e; omega)).trans hy
      have hg0 := hm1.lt.1
      have y4 := heap_alloc_new w1 (Obj.cells #[.int .i32 fr, .int .i64 q.1, .int .i64 q.2.1, .int .i64 q.2.2.1, .int .i64 q.2.2.2, .int .i64 fn] 32)
      go_upto_region 6 with fail
      generalize w1.alloc (Obj.cells #[.int .i32 fr, .int .i64 q.1, .int .i64 q.2.1, .int .i64 q.2.2.1, .int .i64 q.2.2.2, .int .i64 fn] 32) = W2 at hfr2 hm2 hrow2 hs2 y2 y4 ⊢
      obtain ⟨C, hCC⟩ : ∃ C, Hid (C = w1.heap.size) := ⟨_, rfl⟩
      rw [← hCC.out] at y4 ⊢
      have c0' : W2.cell? ⟨C, 0, none⟩ = some (.int .i32 fr) := by simp [World.cell?, y4]
      have c1' : W2.cell? ⟨C, 1, none⟩ = some (.int .i64 q.1) := by simp [World.cell?, y4]
      have c2' : W2.cell? ⟨C, 2, none⟩ = some (.int .i64 q.2.1) := by simp [World.cell?, y4]
      have c3' : W2.cell? ⟨C, 3, none⟩ = some (.int .i64 q.2.2.1) := by simp [World.cell?, y4]
      have c4' : W2.cell? ⟨C, 4, none⟩ = some (.int .i64 q.2.2.2) := by simp [World.cell?, y4]
      have c5' : W2.cell? ⟨C, 5, none⟩ = some (.int .i64 fn) := by simp [World.cell?, y4]
      go_wp2_with (at_builtin; refine append6 _ rfl _ _ rfl (w.heap.size + 1) _ done rfl hrow2 (fr, q, fn) rfl (by omega) (by omega) ?_; intro v3 w3 hrow3 hgrow3)
      go_roundw
      case rel =>
        have hfr3 := Fr.grown (p := fun j => j = F) (hfr.trans hfr2) hgrow3 (fun g hg => .inr (by have := hown g hg; omega))
        have hfr4 := Fr.grown (p := fun j => Value.ownBlock _ = some j) (Fr.refl _ _) hgrow3 (fun g hg => .inl hg)
        have y3 := (hfr4.block w.heap.size (by omega) (fun e => by have := hown _ e; omega)).trans y2
        refine ⟨k + 1, _, _, _, _, by go_num, hrow3, hm2.frv hfr4 (fun e => by have := hown _ e; omega) (fun g hg e => ?_), hfr3, y3, hbl1.trans hbl, ?_, ?_, hq2, Lib.hid (by rw [HN2.out]; simp)⟩
        · have := hown _ e
          have := hvl g (by rw [← hbl, ← hbl1]; exact hg)
          omega
        · rw [List.length_drop]; omega
        · simp; omega
      case measure => simp [RowKit.intOf]; omega
    · have hD2 : D = (done, ys, q) := by rw [H.out, drainB_stop (by rw [← hff.out]; exact hh), List.append_nil]
      have HD2 := Lib.hid hD2
      have hp2 : pk.2 = f.2.2 := by rw [hpk.out, hff.out]; exact peek_how _ _ _
      obtain ⟨⟨c0, ⟨c1, c2, c3, c4⟩, c5⟩, hw⟩ := pk
      simp only [] at hp2
      subst hp2
      have hne : (f.2.2 == 0) = false := beq_eq_false_iff_ne.2 hh
      obtain ⟨fh, hfh⟩ : ∃ fh, fh = f.2.2 := ⟨_, rfl⟩
      rw [← hfh] at hh hne hC hpk
      have HC := Lib.hid hC
      have HH := Lib.hid hh
      clear hD2 hC hh hff H hfh
      simp only [] at HC
      unfold charV at HC
      go_wp2_with fail
      refine HC.out.mono ?_
      rintro E w1 ⟨rfl, hE⟩
      obtain ⟨_, b1⟩ | ⟨hE1, _⟩ := hE
      rotate_left
      · exact absurd hE1 HH.out
      clear HC
      go_upto_region 6 with fail
      have hfr1 : Fr (fun j => j = F) wr w1 := Fr.of b1
      have hfr2 : Fr (fun j => j = F) wr (w1.alloc (Obj.cells #[.int .i32 c0, .int .i64 c1, .int .i64 c2, .int .i64 c3, .int .i64 c4, .int .i64 c5] 32)) := hfr1.alloc _
      have hm2 := (hf.fresh b1).fresh ((Below.refl w1.heap.size w1).alloc (Nat.le_refl _) (Obj.cells #[.int .i32 c0, .int .i64 c1, .int .i64 c2, .int .i64 c3, .int .i64 c4, .int .i64 c5] 32))
      have hown := fun g hg => (Row6.ty hrow g hg).1
      have hrow2 := hrow.fr hfr2 (fun g hg e => by have e : g = F := e; have := hown g hg; omega)
      have hs1 := hfr1.size
      have hs2 := hfr2.size
      have y2 : (w1.alloc (Obj.cells #[.int .i32 c0, .int .i64 c1, .int .i64 c2, .int .i64 c3, .int .i64 c4, .int .i64 c5] 32)).heap[w.heap.size]? = _ := (hfr2.block w.heap.size (by omega) (fun e => by have e : w.heap.size = F := e; omega)).trans hy
      have y4 := heap_alloc_new w1 (Obj.cells #[.int .i32 c0, .int .i64 c1, .int .i64 c2, .int .i64 c3, .int .i64 c4, .int .i64 c5] 32)
      generalize w1.alloc (Obj.cells #[.int .i32 c0, .int .i64 c1, .int .i64 c2, .int .i64 c3, .int .i64 c4, .int .i64 c5] 32) = W2 at hfr2 hm2 hrow2 hs2 y2 y4 ⊢
      obtain ⟨C, hCC⟩ : ∃ C, Hid (C = w1.heap.size) := ⟨_, rfl⟩
      obtain ⟨R, hRR⟩ : ∃ R, Hid (R = w.heap.size) := ⟨_, rfl⟩
      have hn1 : R ≠ C := by rw [hCC.out, hRR.out]; omega
      have hn2 : C ≠ R := by rw [hCC.out, hRR.out]; omega
      have hRF : F < R := by rw [hRR.out]; exact hFl
      rw [← hCC.out] at y4 ⊢
      rw [← hRR.out] at y2 ⊢
      have c0' : W2.cell? ⟨C, 0, none⟩ = some (.int .i32 c0) := by simp [World.cell?, y4]
      have c1' : W2.cell? ⟨C, 1, none⟩ = some (.int .i64 c1) := by simp [World.cell?, y4]
      have c2' : W2.cell? ⟨C, 2, none⟩ = some (.int .i64 c2) := by simp [World.cell?, y4]
      have c3' : W2.cell? ⟨C, 3, none⟩ = some (.int .i64 c3) := by simp [World.cell?, y4]
      have c4' : W2.cell? ⟨C, 4, none⟩ = some (.int .i64 c4) := by simp [World.cell?, y4]
      have c5' : W2.cell? ⟨C, 5, none⟩ = some (.int .i64 c5) := by simp [World.cell?, y4]
      have r0' : W2.cell? ⟨R, 0, none⟩ = some (.int .i32 0) := by simp [World.cell?, y2]
      have r1' : W2.cell? ⟨R, 1, none⟩ = some (.int .i64 0) := by simp [World.cell?, y2]
      have r2' : W2.cell? ⟨R, 2, none⟩ = some (.int .i64 0) := by simp [World.cell?, y2]
      have r3' : W2.cell? ⟨R, 3, none⟩ = some (.int .i64 0) := by simp [World.cell?, y2]
      have r4' : W2.cell? ⟨R, 4, none⟩ = some (.int .i64 0) := by simp [World.cell?, y2]
      have r5' : W2.cell? ⟨R, 5, none⟩ = some (.int .i64 0) := by simp [World.cell?, y2]
      have rz : ∀ i, W2.frozen? ⟨R, i, none⟩ = false := fun i => by simp [World.frozen?, y2]
      go_wp2
      go_region
      go_wp2
      have hh := six_heap y2 (.int .i32 c0) (.int .i64 c1) (.int .i64 c2) (.int .i64 c3) (.int .i64 c4) (.int .i64 c5)
      have hg := six_fr (p := fun j => j = R) (w := W2) (R := R) rfl (.int .i32 c0) (.int .i64 c1) (.int .i64 c2) (.int .i64 c3) (.int .i64 c4) (.int .i64 c5)
      generalize hV : ((((((W2.setCell ⟨R, 0, none⟩ (.int .i32 c0)).setCell ⟨R, 1, none⟩ (.int .i64 c1)).setCell ⟨R, 2, none⟩ (.int .i64 c2)).setCell ⟨R, 3, none⟩ (.int .i64 c3)).setCell ⟨R, 4, none⟩ (.int .i64 c4)).setCell ⟨R, 5, none⟩ (.int .i64 c5)) = V at hh hg ⊢
      have j0 : V.cell? ⟨R, 0, none⟩ = some (.int .i32 c0) := by simp [World.cell?, hh]
      have j1 : V.cell? ⟨R, 1, none⟩ = some (.int .i64 c1) := by simp [World.cell?, hh]
      have j2 : V.cell? ⟨R, 2, none⟩ = some (.int .i64 c2) := by simp [World.cell?, hh]
      have j3 : V.cell? ⟨R, 3, none⟩ = some (.int .i64 c3) := by simp [World.cell?, hh]
      have j4 : V.cell? ⟨R, 4, none⟩ = some (.int .i64 c4) := by simp [World.cell?, hh]
      have j5 : V.cell? ⟨R, 5, none⟩ = some (.int .i64 c5) := by simp [World.cell?, hh]
      have hg2 := hg.drewN 1
      have hrow3 := (hrow2.fr hg2 (fun g hgg e => by have e : g = R := e; have := hown g hgg; rw [e, hRR.out] at this; omega)).mono (B' := w.heap.size) (by omega)
      have hm3 := hm2.frv hg2 (fun e => by have e : F = R := e; omega) (fun g hgg e => by
        have e : g = R := e
        have := hvl g (by rw [← hbl]; exact hgg)
        rw [e, hRR.out] at this
        omega)
      have hfr3 := (hfr.trans hfr2).then hg2 (fun j hj e => by have e : j = R := e; rw [e, hRR.out] at hj; omega)
      refine ⟨rfl, .tuple #[u7, .agg #[.int .i32 c0, .int .i64 c1, .int .i64 c2, .int .i64 c3, .int .i64 c4, .int .i64 c5], .int .i64 fh], ?_, u7, ?_, by rw [HD2.out]; exact hrow3, v', by rw [HD2.out]; exact hm3, hfr3, hbl⟩
      rotate_left
      · rw [HD2.out]
        show _ = Ending.returned (.tuple #[_, charV (peekB ys q e).1, .int .i64 (peekB ys q e).2])
        rw [← hpk.out]
        rfl
      · simp [results, Tryd.f15, go_sem, j0, j1, j2, j3, j4, j5]
end Go.Proofs.YtpkdbfnnbbkkiaaDoor
