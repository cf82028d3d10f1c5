/- The walk of feed's Next. -/
import Derived.Test.YtpkdbfnnbbkkiaaDoorFeedPeek
namespace Gim
open Go Go.Lib
/-- the place behind a character -/
def behind (p : Int × Int × Int × Int) (r n : Int) : Int × Int × Int × Int :=
  if r = 10 then (p.1 + n, if n = 2 then p.2.1 + 1 + 1 else p.2.1 + 1, p.2.2.1 + 1, 1) else (p.1 + n, p.2.1 + 1, p.2.2.1, p.2.2.2 + 1)
theorem decB_pos {xs : List Int} (h : 0 < xs.length) : 1 ≤ (decB xs).2 := by
  rw [decB, if_neg (by omega)]
  unfold Lib.decodeN
  repeat' split
  all_goals simp
theorem first_have {xs : List Int} {e : Bool} (h : (firstB xs e).2.2 = 0) : 1 ≤ (firstB xs e).2.1 ∧ (firstB xs e).2.1 ≤ xs.length := by
  by_cases h0 : xs.length = 0
  · unfold firstB at h
    rw [if_pos h0] at h
    cases e <;> cases h
  by_cases h13 : gt xs 0 = 13
  · rw [firstB_cr e h0 h13] at h ⊢
    by_cases h1 : 1 < xs.length ∧ gt xs 1 = 10
    · rw [if_pos h1]
      show (1 : Int) ≤ 2 ∧ (2 : Int) ≤ xs.length
      omega
    · rw [if_neg h1] at h ⊢
      by_cases h2 : 1 < xs.length ∨ e = true
      · rw [if_pos h2]
        show (1 : Int) ≤ 1 ∧ (1 : Int) ≤ xs.length
        omega
      · rw [if_neg h2] at h
        cases h
  · rw [firstB_ne e h0 h13] at h ⊢
    cases hf : fullB xs
    · rw [hf, if_pos rfl] at h
      cases e <;> cases h
    · have tf : ¬ (true = false) := by decide
      rw [hf, if_neg tf] at h
      rw [if_neg tf]
      by_cases hd : (decB xs).1 = 65533 ∧ (decB xs).2 = 1
      · rw [if_pos hd] at h
        cases h
      · rw [if_neg hd]
        have h1 := decB_le (xs := xs) (by omega)
        have h2 := decB_pos (xs := xs) (by omega)
        show (1 : Int) ≤ (decB xs).2 ∧ ((decB xs).2 : Int) ≤ xs.length
        omega
end Gim
namespace Go.Proofs.YtpkdbfnnbbkkiaaDoor
open Go.RowKit Gim
/-- what Next leaves -/
def Nexted (w : World) (B F : Nat) (v : Value) (xs : List Int) (p : Int × Int × Int × Int) (ended : Bool) (e : Ending) (w' : World) : Prop :=
  e = .returned (.tuple #[charV (peekB xs p ended).1, .int .i64 (peekB xs p ended).2]) ∧
    (((firstB xs ended).2.2 ≠ 0 ∧ Below w.heap.size w w') ∨
     ((firstB xs ended).2.2 = 0 ∧ ∃ v', Fm w' B F v' (xs.drop (firstB xs ended).2.1.toNat) (behind p (firstB xs ended).1 (firstB xs ended).2.1) ended ∧ Fr (fun j => j = F) w w' ∧ blk v' = blk v))
theorem six_fr {p : Nat → Prop} {w : World} {R : Nat} (hp : p R) (a0 a1 a2 a3 a4 a5 : Value) : Fr p w ((((((w.setCell ⟨R, 0, none⟩ a0).setCell ⟨R, 1, none⟩ a1).setCell ⟨R, 2, none⟩ a2).setCell ⟨R, 3, none⟩ a3).setCell ⟨R, 4, none⟩ a4).setCell ⟨R, 5, none⟩ a5) := by
  have g0 := (Fr.refl p w).set R 0 a0 hp
  have g1 := g0.set R 1 a1 hp
  have g2 := g1.set R 2 a2 hp
  have g3 := g2.set R 3 a3 hp
  have g4 := g3.set R 4 a4 hp
  exact g4.set R 5 a5 hp
/-- the stores of Next put together -/
theorem next_end {u W U : World} {B F R : Nat} {v nv : Value} {xs xs' : List Int} {p q : Int × Int × Int × Int} {e : Bool} (h : Fm W B F v xs p e) (hFR : F < R) (b : Below u.heap.size u W) (hR : R = u.heap.size) {x0 x1 x2 x3 x4 x5 : Value} {t : TypeId} (y : W.heap[R]? = some (.cells #[x0, x1, x2, x3, x4, x5] t)) (ho : OwnB W B nv xs') (hx : ∀ x ∈ xs', 0 ≤ x ∧ x ≤ 255)
    (hbt : t ≠ 5) (hf : Fr (fun j => j = F) W U) (hU : U.heap[F]? = some (.cells #[nv, .int .i64 q.1, .int .i64 q.2.1, .int .i64 q.2.2.1, .int .i64 q.2.2.2, .bool e] 70)) (a0 a1 a2 a3 a4 a5 : Value) (V : World) (hV : V = ((((((U.setCell ⟨R, 0, none⟩ a0).setCell ⟨R, 1, none⟩ a1).setCell ⟨R, 2, none⟩ a2).setCell ⟨R, 3, none⟩ a3).setCell ⟨R, 4, none⟩ a4).setCell ⟨R, 5, none⟩ a5).drew.drew) :
    Fm V B F nv xs' q e ∧ Fr (fun j => j = F) u V ∧ V.cell? ⟨R, 0, none⟩ = some a0 ∧ V.cell? ⟨R, 1, none⟩ = some a1 ∧ V.cell? ⟨R, 2, none⟩ = some a2 ∧ V.cell? ⟨R, 3, none⟩ = some a3 ∧ V.cell? ⟨R, 4, none⟩ = some a4 ∧ V.cell? ⟨R, 5, none⟩ = some a5 := by
  have hRl := (Array.getElem?_eq_some_iff.1 y).1
  have yU : U.heap[R]? = _ := (hf.block R hRl (by show ¬ R = F; omega)).trans y
  have hm := h.set hf ho hx hU
  have hs := six_heap yU a0 a1 a2 a3 a4 a5
  have hg := six_fr (p := fun j => j = R) (w := U) (R := R) rfl a0 a1 a2 a3 a4 a5
  generalize ((((((U.setCell ⟨R, 0, none⟩ a0).setCell ⟨R, 1, none⟩ a1).setCell ⟨R, 2, none⟩ a2).setCell ⟨R, 3, none⟩ a3).setCell ⟨R, 4, none⟩ a4).setCell ⟨R, 5, none⟩ a5) = S at hg hs hV
  have hVh : V.heap = S.heap := by rw [hV]; rfl
  have hg2 : Fr (fun j => j = R) U V := by rw [hV]; exact (hg.drewN 1).drewN 1
  rw [← hVh] at hs
  have hblk : ∀ g, blk nv = some g → ¬ g = R := fun g hgb e => by
    subst e
    obtain ⟨_, cur, hc⟩ := ho.lt _ hgb
    rw [y] at hc
    injection hc with hc
    injection hc with _ h2
    exact hbt h2
  refine ⟨hm.frv hg2 (by show ¬ F = R; omega) hblk, ?_, ?_⟩
  · exact ((Fr.of b).then hf (fun j _ e => e)).then hg2 (fun j hj e => by have e : j = R := e; omega)
  · simp [World.cell?, hs]
set_option maxRecDepth 100000 in
set_option maxHeartbeats 4000000 in
theorem next_feed (w : World) (B F : Nat) (v : Value) (xs : List Int) (p : Int × Int × Int × Int) (ended : Bool) (h : Fm w B F v xs p ended) (hT : U8 w) (hn : xs.length ≤ 70368744177664) (hp : 0 ≤ p.1 ∧ p.1 ≤ 1152921504606846976 ∧ 0 ≤ p.2.1 ∧ p.2.1 ≤ 1152921504606846976 ∧ 0 ≤ p.2.2.2 ∧ p.2.2.2 ≤ 1152921504606846976) (hp3 : 0 ≤ p.2.2.1 ∧ p.2.2.1 ≤ 1152921504606846976) :
    Calls Tryd.prog 21 #[.pointer (some ⟨F, 0, none⟩)] w (Nexted w B F v xs p ended) := by
  have hb1 : Below w.heap.size w (w.alloc (Obj.cells #[.int .i32 0, .int .i64 0, .int .i64 0, .int .i64 0, .int .i64 0, .int .i64 0] 32)) := (Below.refl _ _).alloc (Nat.le_refl _) _
  have hR := heap_alloc_new w (Obj.cells #[.int .i32 0, .int .i64 0, .int .i64 0, .int .i64 0, .int .i64 0, .int .i64 0] 32)
  have hm := h.fresh hb1
  have hT1 := hT.below hb1
  have hC := peek_calls _ B F v xs p ended hm hT1 hn hp
  have hwd := first_width xs ended
  have hhv := @first_have xs ended
  unfold Nexted
  unfold peekB at hC ⊢
  obtain ⟨f, hf⟩ : ∃ f, Hid (f = firstB xs ended) := ⟨_, rfl⟩
  rw [← hf.out] at hC hwd hhv ⊢
  obtain ⟨fr, fn, fh⟩ := f
  obtain ⟨p1, p2, p3, p4⟩ := p
  simp only [] at hwd hp hp3 hhv hC ⊢
  have HH := Lib.hid hhv
  clear hhv
  by_cases h0 : fh = 0
  · subst h0
    obtain ⟨hw1, hw2⟩ := HH.out rfl
    simp only [if_true] at hC ⊢
    have HC := Lib.hid hC
    clear hC
    go_enter Tryd.func21, Tryd.ntmps21
    go_wp2_with fail
    refine HC.out.mono ?_
    rintro e w2 ⟨rfl, b2⟩
    unfold charV
    go_upto_region 4 with fail
    have hRl := (Array.getElem?_eq_some_iff.1 hR).1
    have hFl := h.lt.1
    have hm2 := hm.fresh b2
    have y2 : w2.heap[w.heap.size]? = _ := (b2.block _ hRl).trans hR
    have hRl2 := (Array.getElem?_eq_some_iff.1 y2).1
    have c3 : Below w2.heap.size w2 (w2.alloc (Obj.cells #[.int .i32 fr, .int .i64 p1, .int .i64 p2, .int .i64 p3, .int .i64 p4, .int .i64 fn] 32)) := (Below.refl _ _).alloc (Nat.le_refl _) _
    have hm3 := hm2.fresh c3
    have y3 : (w2.alloc (Obj.cells #[.int .i32 fr, .int .i64 p1, .int .i64 p2, .int .i64 p3, .int .i64 p4, .int .i64 fn] 32)).heap[w.heap.size]? = _ := (heap_alloc_old _ _ hRl2).trans y2
    have y4 := heap_alloc_new w2 (Obj.cells #[.int .i32 fr, .int .i64 p1, .int .i64 p2, .int .i64 p3, .int .i64 p4, .int .i64 fn] 32)
    have b13 := hb1.trans ((b2.mono hb1.size).trans (c3.mono (Nat.le_trans hb1.size b2.size)))
    generalize w2.alloc (Obj.cells #[.int .i32 fr, .int .i64 p1, .int .i64 p2, .int .i64 p3, .int .i64 p4, .int .i64 fn] 32) = W3 at c3 hm3 y3 y4 b13 ⊢
    clear hm2 c3 y2 b2 hb1 hR hm hT1
    obtain ⟨R, hRR⟩ : ∃ R, Hid (R = w.heap.size) := ⟨_, rfl⟩
    obtain ⟨C, hCC⟩ : ∃ C, Hid (C = w2.heap.size) := ⟨_, rfl⟩
    have hRC : R < C := by rw [hRR.out, hCC.out]; exact hRl2
    have hFR : F < R := by rw [hRR.out]; exact hFl
    rw [← hRR.out] at y3 ⊢
    rw [← hCC.out] at y4 ⊢
    clear hRl hRl2 hFl
    obtain ⟨k, rfl⟩ : ∃ k : Nat, fn = k := ⟨fn.toNat, by omega⟩
    have hk : k ≤ xs.length := by omega
    obtain ⟨va, vc, rfl, rd, _⟩ := hm3.own.rd
    have hd := hm3.own.drop hk
    have hvc := rd.le
    have hn1 : F ≠ R := by omega
    have hn2 : F ≠ C := by omega
    have hn3 : R ≠ C := by omega
    have hn4 : R ≠ F := by omega
    have hn5 : C ≠ F := by omega
    have hn6 : C ≠ R := by omega
    have f0 : W3.cell? ⟨F, 0, none⟩ = some (.slice va xs.length vc) := by simp [World.cell?, hm3.hF]
    have f1 : W3.cell? ⟨F, 1, none⟩ = some (.int .i64 p1) := by simp [World.cell?, hm3.hF]
    have f2 : W3.cell? ⟨F, 2, none⟩ = some (.int .i64 p2) := by simp [World.cell?, hm3.hF]
    have f3 : W3.cell? ⟨F, 3, none⟩ = some (.int .i64 p3) := by simp [World.cell?, hm3.hF]
    have f4 : W3.cell? ⟨F, 4, none⟩ = some (.int .i64 p4) := by simp [World.cell?, hm3.hF]
    have fz : ∀ i, W3.frozen? ⟨F, i, none⟩ = false := fun i => by simp [World.frozen?, hm3.hF]
    have c0 : W3.cell? ⟨C, 0, none⟩ = some (.int .i32 fr) := by simp [World.cell?, y4]
    have c1 : W3.cell? ⟨C, 1, none⟩ = some (.int .i64 p1) := by simp [World.cell?, y4]
    have c2 : W3.cell? ⟨C, 2, none⟩ = some (.int .i64 p2) := by simp [World.cell?, y4]
    have c3 : W3.cell? ⟨C, 3, none⟩ = some (.int .i64 p3) := by simp [World.cell?, y4]
    have c4 : W3.cell? ⟨C, 4, none⟩ = some (.int .i64 p4) := by simp [World.cell?, y4]
    have c5 : W3.cell? ⟨C, 5, none⟩ = some (.int .i64 (k : Int)) := by simp [World.cell?, y4]
    have r0 : W3.cell? ⟨R, 0, none⟩ = some (.int .i32 0) := by simp [World.cell?, y3]
    have r1 : W3.cell? ⟨R, 1, none⟩ = some (.int .i64 0) := by simp [World.cell?, y3]
    have r2 : W3.cell? ⟨R, 2, none⟩ = some (.int .i64 0) := by simp [World.cell?, y3]
    have r3 : W3.cell? ⟨R, 3, none⟩ = some (.int .i64 0) := by simp [World.cell?, y3]
    have r4 : W3.cell? ⟨R, 4, none⟩ = some (.int .i64 0) := by simp [World.cell?, y3]
    have r5 : W3.cell? ⟨R, 5, none⟩ = some (.int .i64 0) := by simp [World.cell?, y3]
    have rz : ∀ i, W3.frozen? ⟨R, i, none⟩ = false := fun i => by simp [World.frozen?, y3]
    go_region
    have hblk : blk (.slice (if vc = k then va else Option.map (fun x => x.add k) va) (xs.length - k) (vc - k)) = blk (.slice va xs.length vc) := by
      obtain ⟨b, o, hva, _, _⟩ := rd.cell 0 (by omega)
      rw [hva]
      split
      · rfl
      · simp only [Option.map_some, Addr.add_lit, blk]
    generalize (if vc = k then va else Option.map (fun x => x.add k) va) = na at hd hblk ⊢
    have hdx : ∀ x ∈ xs.drop k, 0 ≤ x ∧ x ≤ 255 := fun x hx => hm3.by_ x (List.mem_of_mem_drop hx)
    go_upto_region 5 with fail
    go_region
    by_cases h10 : fr = 10
    · subst h10
      by_cases hk2 : k = 2
      · have hbe : behind (p1, p2, p3, p4) 10 (k : Int) = (p1 + k, p2 + 1 + 1, p3 + 1, 1) := by simp [behind, hk2]
        have hk2' : ((k : Int) == 2) = true := by rw [hk2]; rfl
        clear hk2
        go_wp2
        have g0 := Go.Joins.block_setCell hm3.hF (i := 0) (.slice na (xs.length - k) (vc - k))
        have e0 := Fr.set (Fr.refl (fun j => j = F) W3) F 0 (.slice na (xs.length - k) (vc - k)) rfl
        have g1 := Go.Joins.block_setCell g0 (i := 1) (.int .i64 (p1 + k))
        have e1 := Fr.set e0 F 1 (.int .i64 (p1 + k)) rfl
        have g2 := Go.Joins.block_setCell g1 (i := 2) (.int .i64 (p2 + 1))
        have e2 := Fr.set e1 F 2 (.int .i64 (p2 + 1)) rfl
        have g3 := Go.Joins.block_setCell g2 (i := 4) (.int .i64 (p4 + 1))
        have e3 := Fr.set e2 F 4 (.int .i64 (p4 + 1)) rfl
        have g4 := Go.Joins.block_setCell g3 (i := 2) (.int .i64 (p2 + 1 + 1))
        have e4 := Fr.set e3 F 2 (.int .i64 (p2 + 1 + 1)) rfl
        have g5 := Go.Joins.block_setCell g4 (i := 3) (.int .i64 (p3 + 1))
        have e5 := Fr.set e4 F 3 (.int .i64 (p3 + 1)) rfl
        have g6 := Go.Joins.block_setCell g5 (i := 4) (.int .i64 1)
        have e6 := Fr.set e5 F 4 (.int .i64 1) rfl
        obtain ⟨V, hV⟩ : ∃ V, V = (((((((((((((W3.setCell ⟨F, 0, none⟩ (.slice na (xs.length - k) (vc - k))).setCell ⟨F, 1, none⟩ (.int .i64 (p1 + k))).setCell ⟨F, 2, none⟩ (.int .i64 (p2 + 1))).setCell ⟨F, 4, none⟩ (.int .i64 (p4 + 1))).setCell ⟨F, 2, none⟩ (.int .i64 (p2 + 1 + 1))).setCell ⟨F, 3, none⟩ (.int .i64 (p3 + 1))).setCell ⟨F, 4, none⟩ (.int .i64 1)).setCell ⟨R, 0, none⟩ (.int .i32 10)).setCell ⟨R, 1, none⟩ (.int .i64 p1)).setCell ⟨R, 2, none⟩ (.int .i64 p2)).setCell ⟨R, 3, none⟩ (.int .i64 p3)).setCell ⟨R, 4, none⟩ (.int .i64 p4)).setCell ⟨R, 5, none⟩ (.int .i64 (k : Int))).drew.drew := ⟨_, rfl⟩
        have hE := next_end (q := (p1 + k, p2 + 1 + 1, p3 + 1, 1)) hm3 hFR b13 hRR.out y3 hd hdx (by decide) e6 (hU := g6) (.int .i32 10) (.int .i64 p1) (.int .i64 p2) (.int .i64 p3) (.int .i64 p4) (.int .i64 (k : Int)) V hV
        rw [← hV]
        clear hV
        obtain ⟨hE1, hE2, j0, j1, j2, j3, j4, j5⟩ := hE
        refine ⟨rfl, .tuple #[.agg #[.int .i32 10, .int .i64 p1, .int .i64 p2, .int .i64 p3, .int .i64 p4, .int .i64 (k : Int)], .int .i64 0], ?_, rfl, .inr ⟨trivial, _, ?_, hE2, hblk⟩⟩
        · simp [results, Tryd.f21, go_sem, j0, j1, j2, j3, j4, j5]
        · rw [hbe, Int.toNat_natCast]
          exact hE1
      · have hbe : behind (p1, p2, p3, p4) 10 (k : Int) = (p1 + k, p2 + 1, p3 + 1, 1) := by
          have : ¬ (k : Int) = 2 := by omega
          simp [behind, this]
        have hk2' : ((k : Int) == 2) = false := beq_eq_false_iff_ne.2 (by omega)
        go_wp2
        have g0 := Go.Joins.block_setCell hm3.hF (i := 0) (.slice na (xs.length - k) (vc - k))
        have e0 := Fr.set (Fr.refl (fun j => j = F) W3) F 0 (.slice na (xs.length - k) (vc - k)) rfl
        have g1 := Go.Joins.block_setCell g0 (i := 1) (.int .i64 (p1 + k))
        have e1 := Fr.set e0 F 1 (.int .i64 (p1 + k)) rfl
        have g2 := Go.Joins.block_setCell g1 (i := 2) (.int .i64 (p2 + 1))
        have e2 := Fr.set e1 F 2 (.int .i64 (p2 + 1)) rfl
        have g3 := Go.Joins.block_setCell g2 (i := 4) (.int .i64 (p4 + 1))
        have e3 := Fr.set e2 F 4 (.int .i64 (p4 + 1)) rfl
        have g4 := Go.Joins.block_setCell g3 (i := 3) (.int .i64 (p3 + 1))
        have e4 := Fr.set e3 F 3 (.int .i64 (p3 + 1)) rfl
        have g5 := Go.Joins.block_setCell g4 (i := 4) (.int .i64 1)
        have e5 := Fr.set e4 F 4 (.int .i64 1) rfl
        obtain ⟨V, hV⟩ : ∃ V, V = ((((((((((((W3.setCell ⟨F, 0, none⟩ (.slice na (xs.length - k) (vc - k))).setCell ⟨F, 1, none⟩ (.int .i64 (p1 + k))).setCell ⟨F, 2, none⟩ (.int .i64 (p2 + 1))).setCell ⟨F, 4, none⟩ (.int .i64 (p4 + 1))).setCell ⟨F, 3, none⟩ (.int .i64 (p3 + 1))).setCell ⟨F, 4, none⟩ (.int .i64 1)).setCell ⟨R, 0, none⟩ (.int .i32 10)).setCell ⟨R, 1, none⟩ (.int .i64 p1)).setCell ⟨R, 2, none⟩ (.int .i64 p2)).setCell ⟨R, 3, none⟩ (.int .i64 p3)).setCell ⟨R, 4, none⟩ (.int .i64 p4)).setCell ⟨R, 5, none⟩ (.int .i64 (k : Int))).drew.drew := ⟨_, rfl⟩
        have hE := next_end (q := (p1 + k, p2 + 1, p3 + 1, 1)) hm3 hFR b13 hRR.out y3 hd hdx (by decide) e5 (hU := g5) (.int .i32 10) (.int .i64 p1) (.int .i64 p2) (.int .i64 p3) (.int .i64 p4) (.int .i64 (k : Int)) V hV
        rw [← hV]
        clear hV
        obtain ⟨hE1, hE2, j0, j1, j2, j3, j4, j5⟩ := hE
        refine ⟨rfl, .tuple #[.agg #[.int .i32 10, .int .i64 p1, .int .i64 p2, .int .i64 p3, .int .i64 p4, .int .i64 (k : Int)], .int .i64 0], ?_, rfl, .inr ⟨trivial, _, ?_, hE2, hblk⟩⟩
        · simp [results, Tryd.f21, go_sem, j0, j1, j2, j3, j4, j5]
        · rw [hbe, Int.toNat_natCast]
          exact hE1
    · have hbe : behind (p1, p2, p3, p4) fr (k : Int) = (p1 + k, p2 + 1, p3, p4 + 1) := by simp [behind, h10]
      have h10' : (fr == 10) = false := beq_eq_false_iff_ne.2 h10
      go_wp2
      have g0 := Go.Joins.block_setCell hm3.hF (i := 0) (.slice na (xs.length - k) (vc - k))
      have e0 := Fr.set (Fr.refl (fun j => j = F) W3) F 0 (.slice na (xs.length - k) (vc - k)) rfl
      have g1 := Go.Joins.block_setCell g0 (i := 1) (.int .i64 (p1 + k))
      have e1 := Fr.set e0 F 1 (.int .i64 (p1 + k)) rfl
      have g2 := Go.Joins.block_setCell g1 (i := 2) (.int .i64 (p2 + 1))
      have e2 := Fr.set e1 F 2 (.int .i64 (p2 + 1)) rfl
      have g3 := Go.Joins.block_setCell g2 (i := 4) (.int .i64 (p4 + 1))
      have e3 := Fr.set e2 F 4 (.int .i64 (p4 + 1)) rfl
      obtain ⟨V, hV⟩ : ∃ V, V = ((((((((((W3.setCell ⟨F, 0, none⟩ (.slice na (xs.length - k) (vc - k))).setCell ⟨F, 1, none⟩ (.int .i64 (p1 + k))).setCell ⟨F, 2, none⟩ (.int .i64 (p2 + 1))).setCell ⟨F, 4, none⟩ (.int .i64 (p4 + 1))).setCell ⟨R, 0, none⟩ (.int .i32 fr)).setCell ⟨R, 1, none⟩ (.int .i64 p1)).setCell ⟨R, 2, none⟩ (.int .i64 p2)).setCell ⟨R, 3, none⟩ (.int .i64 p3)).setCell ⟨R, 4, none⟩ (.int .i64 p4)).setCell ⟨R, 5, none⟩ (.int .i64 (k : Int))).drew.drew := ⟨_, rfl⟩
      have hE := next_end (q := (p1 + k, p2 + 1, p3, p4 + 1)) hm3 hFR b13 hRR.out y3 hd hdx (by decide) e3 (hU := g3) (.int .i32 fr) (.int .i64 p1) (.int .i64 p2) (.int .i64 p3) (.int .i64 p4) (.int .i64 (k : Int)) V hV
      rw [← hV]
      clear hV
      obtain ⟨hE1, hE2, j0, j1, j2, j3, j4, j5⟩ := hE
      refine ⟨rfl, .tuple #[.agg #[.int .i32 fr, .int .i64 p1, .int .i64 p2, .int .i64 p3, .int .i64 p4, .int .i64 (k : Int)], .int .i64 0], ?_, rfl, .inr ⟨trivial, _, ?_, hE2, hblk⟩⟩
      · simp [results, Tryd.f21, go_sem, j0, j1, j2, j3, j4, j5]
      · rw [hbe, Int.toNat_natCast]
        exact hE1
  · -- not a character
    clear HH
    rw [if_neg h0] at hC ⊢
    obtain ⟨c, hc⟩ : ∃ c : Int × (Int × Int × Int × Int) × Int, Hid ((if fh = 2 then ((0, (p1 + fn, p2 + fn, p3, p4 + fn), 0), 2) else ((0, (0, 0, 0, 0), 0), fh)) = (c, fh)) := by
      by_cases h2 : fh = 2
      · exact ⟨_, Lib.hid (by rw [if_pos h2, h2])⟩
      · exact ⟨_, Lib.hid (by rw [if_neg h2])⟩
    rw [hc.out] at hC ⊢
    obtain ⟨c0, ⟨c1, c2, c3, c4⟩, c5⟩ := c
    simp only [] at hC ⊢
    unfold charV at hC ⊢
    have HC := Lib.hid hC
    have hne : (fh == 0) = false := beq_eq_false_iff_ne.2 h0
    simp only [] at hC
    clear hC
    have H0 := Lib.hid h0
    clear h0
    go_enter Tryd.func21, Tryd.ntmps21
    go_wp2_with fail
    refine HC.out.mono ?_
    rintro e w2 ⟨rfl, b2⟩
    go_upto_region 3 with fail
    have hRl := (Array.getElem?_eq_some_iff.1 hR).1
    have y2 : w2.heap[w.heap.size]? = _ := (b2.block _ hRl).trans hR
    have hRl2 := (Array.getElem?_eq_some_iff.1 y2).1
    have c3' : Below w2.heap.size w2 (w2.alloc (Obj.cells #[.int .i32 c0, .int .i64 c1, .int .i64 c2, .int .i64 c3, .int .i64 c4, .int .i64 c5] 32)) := (Below.refl _ _).alloc (Nat.le_refl _) _
    have y3 : (w2.alloc (Obj.cells #[.int .i32 c0, .int .i64 c1, .int .i64 c2, .int .i64 c3, .int .i64 c4, .int .i64 c5] 32)).heap[w.heap.size]? = _ := (heap_alloc_old _ _ hRl2).trans y2
    have y4 := heap_alloc_new w2 (Obj.cells #[.int .i32 c0, .int .i64 c1, .int .i64 c2, .int .i64 c3, .int .i64 c4, .int .i64 c5] 32)
    have b13 := hb1.trans ((b2.mono hb1.size).trans (c3'.mono (Nat.le_trans hb1.size b2.size)))
    generalize w2.alloc (Obj.cells #[.int .i32 c0, .int .i64 c1, .int .i64 c2, .int .i64 c3, .int .i64 c4, .int .i64 c5] 32) = W3 at c3' y3 y4 b13 ⊢
    clear c3' y2 b2 hb1 hR hm hT1
    obtain ⟨R, hRR⟩ : ∃ R, Hid (R = w.heap.size) := ⟨_, rfl⟩
    obtain ⟨C, hCC⟩ : ∃ C, Hid (C = w2.heap.size) := ⟨_, rfl⟩
    have hRC : R < C := by rw [hRR.out, hCC.out]; exact hRl2
    have hRz : w.heap.size ≤ R := by rw [hRR.out]; exact Nat.le_refl _
    rw [← hRR.out] at y3 ⊢
    rw [← hCC.out] at y4 ⊢
    clear hRl hRl2
    have hn3 : R ≠ C := by omega
    have hn6 : C ≠ R := by omega
    have c0' : W3.cell? ⟨C, 0, none⟩ = some (.int .i32 c0) := by simp [World.cell?, y4]
    have c1' : W3.cell? ⟨C, 1, none⟩ = some (.int .i64 c1) := by simp [World.cell?, y4]
    have c2' : W3.cell? ⟨C, 2, none⟩ = some (.int .i64 c2) := by simp [World.cell?, y4]
    have c3' : W3.cell? ⟨C, 3, none⟩ = some (.int .i64 c3) := by simp [World.cell?, y4]
    have c4' : W3.cell? ⟨C, 4, none⟩ = some (.int .i64 c4) := by simp [World.cell?, y4]
    have c5' : W3.cell? ⟨C, 5, none⟩ = some (.int .i64 c5) := by simp [World.cell?, y4]
    have r0' : W3.cell? ⟨R, 0, none⟩ = some (.int .i32 0) := by simp [World.cell?, y3]
    have r1' : W3.cell? ⟨R, 1, none⟩ = some (.int .i64 0) := by simp [World.cell?, y3]
    have r2' : W3.cell? ⟨R, 2, none⟩ = some (.int .i64 0) := by simp [World.cell?, y3]
    have r3' : W3.cell? ⟨R, 3, none⟩ = some (.int .i64 0) := by simp [World.cell?, y3]
    have r4' : W3.cell? ⟨R, 4, none⟩ = some (.int .i64 0) := by simp [World.cell?, y3]
    have r5' : W3.cell? ⟨R, 5, none⟩ = some (.int .i64 0) := by simp [World.cell?, y3]
    have rz : ∀ i, W3.frozen? ⟨R, i, none⟩ = false := fun i => by simp [World.frozen?, y3]
    go_wp2
    have hh := six_heap y3 (.int .i32 c0) (.int .i64 c1) (.int .i64 c2) (.int .i64 c3) (.int .i64 c4) (.int .i64 c5)
    have hb := six_below b13 hRz (.int .i32 c0) (.int .i64 c1) (.int .i64 c2) (.int .i64 c3) (.int .i64 c4) (.int .i64 c5)
    generalize ((((((W3.setCell ⟨R, 0, none⟩ (.int .i32 c0)).setCell ⟨R, 1, none⟩ (.int .i64 c1)).setCell ⟨R, 2, none⟩ (.int .i64 c2)).setCell ⟨R, 3, none⟩ (.int .i64 c3)).setCell ⟨R, 4, none⟩ (.int .i64 c4)).setCell ⟨R, 5, none⟩ (.int .i64 c5)) = V at hh hb ⊢
    have j0 : V.cell? ⟨R, 0, none⟩ = some (.int .i32 c0) := by simp [World.cell?, hh]
    have j1 : V.cell? ⟨R, 1, none⟩ = some (.int .i64 c1) := by simp [World.cell?, hh]
    have j2 : V.cell? ⟨R, 2, none⟩ = some (.int .i64 c2) := by simp [World.cell?, hh]
    have j3 : V.cell? ⟨R, 3, none⟩ = some (.int .i64 c3) := by simp [World.cell?, hh]
    have j4 : V.cell? ⟨R, 4, none⟩ = some (.int .i64 c4) := by simp [World.cell?, hh]
    have j5 : V.cell? ⟨R, 5, none⟩ = some (.int .i64 c5) := by simp [World.cell?, hh]
    refine ⟨rfl, .tuple #[.agg #[.int .i32 c0, .int .i64 c1, .int .i64 c2, .int .i64 c3, .int .i64 c4, .int .i64 c5], .int .i64 fh], ?_, rfl, .inl ⟨H0.out, hb⟩⟩
    simp [results, Tryd.f21, go_sem, j0, j1, j2, j3, j4, j5]
end Go.Proofs.YtpkdbfnnbbkkiaaDoor
