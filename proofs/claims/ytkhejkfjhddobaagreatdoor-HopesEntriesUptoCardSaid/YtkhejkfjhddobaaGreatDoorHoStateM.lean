/- A Hopes in memory. -/
import Derived.Test.YtkhejkfjhddobaaGreatDoorHoNetM
import Derived.Test.YtkhejkfjhddobaaGreatDoorHoKnowM
import Derived.Lib.SliceRun
import Derived.IntWalk
section
namespace Go.Proofs.YtkhejkfjhddobaaGreatDoor
open Go.RowKit Gim
theorem fitNet_of {W : World} {nd : NetD} {ra pa : Option Addr} {rc pc : Nat} (h : FitNet W nd (.slice ra nd.rows.length rc) (.slice pa nd.preds.length pc)) : FitRowS W nd.rows ra nd.rows.length rc ∧ FitPredS W nd.preds pa nd.preds.length pc := by
  obtain ⟨ra8, rc8, pa8, pc8, e1, e2, hf1, hf2⟩ := h
  have e1' : ra = ra8 ∧ rc = rc8 := by injection e1 with a b c; exact ⟨a, c⟩
  have e2' : pa = pa8 ∧ pc = pc8 := by injection e2 with a b c; exact ⟨a, c⟩
  rw [← e1'.1, ← e1'.2] at hf1
  rw [← e2'.1, ← e2'.2] at hf2
  exact ⟨hf1, hf2⟩
/-- its net: blocks of tag 3 -/
def NetP (W : World) (tg : Nat → Nat × Nat) (nd : NetD) (ra : Option Addr) (rc : Nat) (pa : Option Addr) (pc : Nat) : Prop := ∀ W' : World, (∀ b, b < W.heap.size → (tg b).1 = 3 → W'.heap[b]? = W.heap[b]?) → FitRowS W' nd.rows ra nd.rows.length rc ∧ FitPredS W' nd.preds pa nd.preds.length pc
theorem NetP.keep {W : World} {tg : Nat → Nat × Nat} {nd : NetD} {ra : Option Addr} {rc : Nat} {pa : Option Addr} {pc : Nat} (h : NetP W tg nd ra rc pa pc) {W' : World} {tg' : Nat → Nat × Nat} (hs : W.heap.size ≤ W'.heap.size) (hk : ∀ b, b < W.heap.size → (tg b).1 = 3 → W'.heap[b]? = W.heap[b]? ∧ (tg' b).1 = 3) : NetP W' tg' nd ra rc pa pc :=
  fun W'' hW => h W'' fun b hb ht => (hW b (by omega) (hk b hb ht).2).trans (hk b hb ht).1
/-- its open nodes: their list has tag 2, node i has tag 10 + i -/
structure FrsP (W : World) (tg : Nat → Nat × Nat) (vF : Value) (nr np : Nat) (fs : List FrS) (ps : List Nat) : Prop where
  row : W.ownsRow 0 102 1 vF fs.length (ps.map fun p => Value.pointer (some ⟨p, 0, none⟩))
  tg2 : ∀ g, vF.ownBlock = some g → (tg g).1 = 2
  lp : ps.length = fs.length
  fr : ∀ i, i < fs.length → FrM W tg (10 + i) (ps.getD i 0) nr np (fs.getD i fr0)
theorem FrsP.keep {W : World} {tg : Nat → Nat × Nat} {vF : Value} {nr np : Nat} {fs : List FrS} {ps : List Nat} (h : FrsP W tg vF nr np fs ps) {W' : World} {tg' : Nat → Nat × Nat} (hk : ∀ b, b < W.heap.size → (tg b).1 = 2 ∨ 10 ≤ (tg b).1 → W'.heap[b]? = W.heap[b]? ∧ tg' b = tg b) : FrsP W' tg' vF nr np fs ps :=
  ⟨ownsRow_same h.row fun g hg => (hk g (World.ownsRow.lt h.row g hg).2 (.inl (h.tg2 g hg))).1, fun g hg => by rw [(hk g (World.ownsRow.lt h.row g hg).2 (.inl (h.tg2 g hg))).2]; exact h.tg2 g hg, h.lp,
    fun i hi => (h.fr i hi).keep (fun b k hb ht => (hk b hb (.inr (by rw [ht]; exact Nat.le_add_right _ _))).1) (fun b k hb ht => by rw [(hk b hb (.inr (by rw [ht]; exact Nat.le_add_right _ _))).2]; exact ht)⟩
/-- what checks the events: tag 1; its list of open elements: tag 4 -/
structure ChkP (W : World) (tg : Nat → Nat × Nat) (K : Nat) (vO : Value) (en : Nat) (es : List Value) (num : Int) (tx dn : Bool) : Prop where
  hK : W.heap[K]? = some (.cells #[vO, .int .i64 num, .bool tx, .bool dn] 101)
  tK : (tg K).1 = 1
  row : W.ownsRow 0 45 8 vO en es
  tg4 : ∀ g, vO.ownBlock = some g → (tg g).1 = 4
theorem ChkP.keep {W : World} {tg : Nat → Nat × Nat} {K : Nat} {vO : Value} {en : Nat} {es : List Value} {num : Int} {tx dn : Bool} (h : ChkP W tg K vO en es num tx dn) {W' : World} {tg' : Nat → Nat × Nat} (hk : ∀ b, b < W.heap.size → (tg b).1 = 1 ∨ (tg b).1 = 4 → W'.heap[b]? = W.heap[b]? ∧ tg' b = tg b) : ChkP W' tg' K vO en es num tx dn := by
  have hl := (Array.getElem?_eq_some_iff.1 h.hK).1
  have h1 := hk K hl (.inl h.tK)
  refine ⟨h1.1.trans h.hK, by rw [h1.2]; exact h.tK, ownsRow_same h.row fun g hg => (hk g (World.ownsRow.lt h.row g hg).2 (.inr (h.tg4 g hg))).1, fun g hg => ?_⟩
  rw [(hk g (World.ownsRow.lt h.row g hg).2 (.inr (h.tg4 g hg))).2]
  exact h.tg4 g hg
/-- a Hopes in block H (tag 0) -/
structure HoI (n0 : Nat) (W : World) (tg : Nat → Nat × Nat) (H K : Nat) (nd : NetD) (vF vX vK : Value) (fs : List FrS) (ps : List Nat) (vO : Value) (en : Nat) (es : List Value) (num : Int) (tx dn : Bool) : Prop where
  hH : ∃ mn ra rc pa pc, W.heap[H]? = some (.cells #[.int .i64 mn, .slice ra nd.rows.length rc, .slice pa nd.preds.length pc, .pointer (some ⟨K, 0, none⟩), vF, vX, vK] 87) ∧ NetP W tg nd ra rc pa pc
  tH : (tg H).1 = 0
  fr : FrsP W tg vF nd.rows.length nd.preds.length fs ps
  ck : ChkP W tg K vO en es num tx dn
  xs : ∃ a n c, vX = .slice a n c
  ks : ∃ a n c, vK = .slice a n c
  own : ∀ b, b < W.heap.size → (tg b).1 = 0 → b = H
  old : n0 ≤ W.heap.size ∧ ∀ b, b < n0 → (tg b).1 = 6
theorem HoI.lt {n0 : Nat} {W : World} {tg : Nat → Nat × Nat} {H K : Nat} {nd : NetD} {vF vX vK : Value} {fs : List FrS} {ps : List Nat} {vO : Value} {en : Nat} {es : List Value} {num : Int} {tx dn : Bool} (h : HoI n0 W tg H K nd vF vX vK fs ps vO en es num tx dn) : H < W.heap.size := by
  obtain ⟨mn, ra, rc, pa, pc, h1, _⟩ := h.hH
  exact (Array.getElem?_eq_some_iff.1 h1).1
/-- tags: those of old blocks stay, new ones are of tag t -/
def tgU (tg : Nat → Nat × Nat) (n t : Nat) : Nat → Nat × Nat := fun b => if b < n then tg b else (t, 0)
theorem tgU_old {tg : Nat → Nat × Nat} {n t b : Nat} (h : b < n) : tgU tg n t b = tg b := by unfold tgU; rw [if_pos h]
theorem tgU_new {tg : Nat → Nat × Nat} {n t b : Nat} (h : n ≤ b) : tgU tg n t b = (t, 0) := by unfold tgU; rw [if_neg (by omega)]
/-- the tags of a new one -/
def tgS (H K G lo hi : Nat) (tg : Nat → Nat × Nat) (b : Nat) : Nat × Nat := if b = H then (0, 0) else if b = K then (1, 0) else if b = G then (2, 0) else if lo ≤ b ∧ b < hi then (3, 0) else if (tg b).1 = 0 then (10, (tg b).2) else (6, 0)
theorem HoI.start {w w' : World} {nd : NetD} {H K F G : Nat} {mn : Int} {va vb : Value} {lo hi : Nat} {tg : Nat → Nat × Nat} (h : NewM w w' nd H K F G mn va vb lo hi tg) (hb : Below w.heap.size w w') :
    HoI w.heap.size w' (tgS H K G lo hi tg) H K nd (.slice (some ⟨G, 0, none⟩) 1 1) (.slice none 0 0) (.slice none 0 0) [openF nd 0 ByteArray.empty []] [F] (.slice none 0 0) 0 [] 0 false false := by
  obtain ⟨o1, o2, o3, o4⟩ := h.ord
  have hlow := h.low
  obtain ⟨ra, rc, pa, pc, rfl, rfl, _, _⟩ := h.net w' (fun _ _ _ => rfl)
  have tH : tgS H K G lo hi tg H = (0, 0) := by simp [tgS]
  have tK : tgS H K G lo hi tg K = (1, 0) := by unfold tgS; rw [if_neg (by omega), if_pos rfl]
  have tG : tgS H K G lo hi tg G = (2, 0) := by unfold tgS; rw [if_neg (by omega), if_neg (by omega), if_pos rfl]
  have tN : ∀ b, lo ≤ b → b < hi → tgS H K G lo hi tg b = (3, 0) := fun b h1 h2 => by unfold tgS; rw [if_neg (by omega), if_neg (by omega), if_neg (by omega), if_pos ⟨h1, h2⟩]
  have tF : ∀ b, (tg b).1 = 0 → tgS H K G lo hi tg b = (10, (tg b).2) := fun b h0 => by
    have hbH : ¬ b ≤ H := fun e => h.out b e h0
    have hbG : ¬ b = G := by rintro rfl; exact h.g h0
    unfold tgS
    rw [if_neg (by omega), if_neg (by omega), if_neg hbG, if_neg (by omega), if_pos h0]
  refine ⟨⟨mn, ra, rc, pa, pc, h.hH, fun W' hW => fitNet_of (h.net W' fun b h1 h2 => hW b (by have := (Array.getElem?_eq_some_iff.1 h.hH).1; omega) (by rw [tN b h1 h2]))⟩, by rw [tH], ⟨⟨rfl, .inr ⟨G, 1, _, rfl, Nat.zero_le _, h.hG, Nat.le_refl _, by unfold maxLen; omega, rfl, rfl⟩⟩, fun g hg => ?_, rfl, fun i hi => ?_⟩, ⟨h.hK, by rw [tK], World.ownsRow_nil _ _ _ _, (fun g hg => by cases hg)⟩, ⟨_, _, _, rfl⟩, ⟨_, _, _, rfl⟩, fun b _ ht => ?_, hb.size, fun b hl => ?_⟩
  · have hg : some G = some g := hg
    injection hg with hg
    subst hg
    rw [tG]
  · have hi : i < 1 := hi
    obtain rfl : i = 0 := by omega
    exact h.fr.keep (fun _ _ _ _ => rfl) (fun b k _ ht => by rw [tF b (by rw [ht]), ht])
  · by_cases e1 : b = H
    · exact e1
    · unfold tgS at ht
      rw [if_neg e1] at ht
      split at ht
      · cases ht
      · split at ht
        · cases ht
        · split at ht
          · cases ht
          · split at ht <;> cases ht
  · unfold tgS
    rw [if_neg (by omega), if_neg (by omega), if_neg (by omega), if_neg (by omega), if_neg (h.out b (by omega))]
section
variable {n0 : Nat} {W : World} {tg : Nat → Nat × Nat} {H K : Nat} {nd : NetD} {vF vX vK : Value} {fs : List FrS} {ps : List Nat} {vO : Value} {en : Nat} {es : List Value} {num : Int} {tx dn : Bool}
/-- new memory alone -/
theorem HoI.below (h : HoI n0 W tg H K nd vF vX vK fs ps vO en es num tx dn) {W' : World} (hb : Below W.heap.size W W') : HoI n0 W' (tgU tg W.heap.size 6) H K nd vF vX vK fs ps vO en es num tx dn := by
  obtain ⟨mn, ra, rc, pa, pc, h1, h2⟩ := h.hH
  refine ⟨⟨mn, ra, rc, pa, pc, (hb.block H h.lt).trans h1, h2.keep hb.size fun b hl ht => ⟨hb.block b hl, by rw [tgU_old hl]; exact ht⟩⟩, by rw [tgU_old h.lt]; exact h.tH, h.fr.keep fun b hl _ => ⟨hb.block b hl, tgU_old hl⟩, h.ck.keep fun b hl _ => ⟨hb.block b hl, tgU_old hl⟩, h.xs, h.ks, fun b hl ht => ?_, ⟨Nat.le_trans h.old.1 hb.size, fun b hl => by rw [tgU_old (Nat.lt_of_lt_of_le hl h.old.1)]; exact h.old.2 b hl⟩⟩
  by_cases hl2 : b < W.heap.size
  · rw [tgU_old hl2] at ht
    exact h.own b hl2 ht
  · rw [tgU_new (by omega)] at ht
    cases ht
/-- only H's block is another, and new memory -/
theorem HoI.turn (h : HoI n0 W tg H K nd vF vX vK fs ps vO en es num tx dn) {W' : World} (hf : Fr (fun b => b = H) W W') {vX' vK' : Value} (hx : ∃ a n c, vX' = .slice a n c) (hk : ∃ a n c, vK' = .slice a n c)
    (hH : ∀ mn va vb, W.heap[H]? = some (.cells #[mn, va, vb, .pointer (some ⟨K, 0, none⟩), vF, vX, vK] 87) → W'.heap[H]? = some (.cells #[mn, va, vb, .pointer (some ⟨K, 0, none⟩), vF, vX', vK'] 87)) :
    HoI n0 W' (tgU tg W.heap.size 6) H K nd vF vX' vK' fs ps vO en es num tx dn := by
  obtain ⟨mn, ra, rc, pa, pc, h1, h2⟩ := h.hH
  have hne : ∀ b, (tg b).1 ≠ 0 → ¬ b = H := by
    rintro b ht rfl
    exact ht h.tH
  refine ⟨⟨mn, ra, rc, pa, pc, hH _ _ _ h1, h2.keep hf.size fun b hl ht => ⟨hf.block b hl (hne b (by rw [ht]; decide)), by rw [tgU_old hl]; exact ht⟩⟩, by rw [tgU_old h.lt]; exact h.tH, h.fr.keep fun b hl ht => ⟨hf.block b hl (hne b (by omega)), tgU_old hl⟩, h.ck.keep fun b hl ht => ⟨hf.block b hl (hne b (by omega)), tgU_old hl⟩, hx, hk, fun b hl ht => ?_, ⟨Nat.le_trans h.old.1 hf.size, fun b hl => by rw [tgU_old (Nat.lt_of_lt_of_le hl h.old.1)]; exact h.old.2 b hl⟩⟩
  by_cases hl2 : b < W.heap.size
  · rw [tgU_old hl2] at ht
    exact h.own b hl2 ht
  · rw [tgU_new (by omega)] at ht
    cases ht
/-- the open nodes, as know and find read them -/
theorem FrsP.r (h : FrsP W tg vF nd.rows.length nd.preds.length fs ps) : ∃ fa fc, vF = .slice fa fs.length fc ∧ FrsR W fa fs.length fc nd.rows.length nd.preds.length fs ps := by
  obtain ⟨a, cap, e, h1, h2, h3⟩ := own_slice h.row
  refine ⟨a, cap, e, rfl, h1, fun i hi => ?_⟩
  obtain ⟨g, e2, h4, h5⟩ := h3 i hi
  subst e2
  have hr := h.row
  rw [e] at hr
  refine ⟨g, 0, tg, 10 + i, rfl, h5, ?_, h.fr i hi⟩
  rw [Nat.zero_add]
  have hip : i < ps.length := by rw [h.lp]; exact hi
  refine ownsRow_at hr ?_
  rw [List.getElem?_map, List.getD_eq_getElem?_getD, List.getElem?_eq_getElem hip]
  rfl
end
end Go.Proofs.YtkhejkfjhddobaaGreatDoor

end

section
namespace Go.Proofs.YtkhejkfjhddobaaGreatDoor
open Go.RowKit Gim
theorem knowS_all (nd : NetD) (fs : List FrS) (dn : Bool) : ∀ d, ∀ l ∈ (knowS nd fs dn d).1, l.length = nd.preds.length
  | 0, l, h => by
    unfold knowS at h
    cases h
  | d + 1, l, h => by
    unfold knowS at h
    rcases List.mem_cons.1 h with h | h
    · rw [h]
      exact (findF_len _ _ _ _).1
    · exact knowS_all nd fs dn d l h
/-- what is known of predicate k at depth d -/
def truthF (nd : NetD) (fs : List FrS) (dn : Bool) (d k : Nat) : Int := ((knowF nd fs dn).getD d []).getD k 0
set_option maxRecDepth 100000 in
set_option maxHeartbeats 8000000 in
theorem truth_nil (a b : Int) (w : World) : Calls Tryz.prog 18 #[.pointer none, .int .i64 a, .int .i64 b] w fun e w' => e = .returned (.tuple #[.int .i64 0, .int .i64 1]) ∧ w' = w := by
  go_enter Tryz.func18, Tryz.ntmps18
  go_wp2_with fail
  go_ret2
  exact ⟨rfl, rfl⟩
set_option maxRecDepth 100000 in
set_option maxHeartbeats 8000000 in
theorem entries_nil (w : World) : Calls Tryz.prog 16 #[.pointer none] w fun e w' => e = .returned (.int .i64 0) ∧ w' = w := by
  go_enter Tryz.func16, Tryz.ntmps16
  go_wp2_with fail
  go_ret
  exact ⟨rfl, rfl⟩
set_option maxRecDepth 100000 in
set_option maxHeartbeats 8000000 in
theorem take_nil (c0 c1 c2 c3 c4 c5 c6 c7 : Value) (w : World) : Calls Tryz.prog 13 #[.pointer none, .agg #[c0, c1, c2, c3, c4, c5, c6, c7]] w fun e w' => e = .returned (.int .i64 1) ∧ Below w.heap.size w w' := by
  have hb : Below w.heap.size w (w.alloc (.cells #[c0, c1, c2, c3, c4, c5, c6, c7] 45)) := (Below.refl _ _).alloc (Nat.le_refl _) _
  have HB := Lib.hid hb
  clear hb
  go_enter Tryz.func13, Tryz.ntmps13
  go_wp2_with fail
  go_ret
  exact ⟨rfl, HB.out⟩
set_option maxRecDepth 100000 in
set_option maxHeartbeats 16000000 in
theorem truth_h_calls {n0 : Nat} {tg : Nat → Nat × Nat} {H K : Nat} {nd : NetD} {vF vX : Value} {fs : List FrS} {ps : List Nat} {vO : Value} {en : Nat} {es : List Value} {num : Int} {tx dn : Bool} (w : World)
    (h : HoI n0 w tg H K nd vF vX (.slice none 0 0) fs ps vO en es num tx dn) (hok : NetOk nd) (d k : Nat) (hd : d < fs.length) (hk : k < nd.preds.length) (hn : fs.length ≤ 1048576) :
    Calls Tryz.prog 18 #[.pointer (some ⟨H, 0, none⟩), .int .i64 d, .int .i64 k] w fun e w' => e = .returned (.tuple #[.int .i64 (truthF nd fs dn d k), .int .i64 0]) ∧ Fr (fun b => b = H) w w' ∧ ∃ vK', HoI n0 w' (tgU tg w.heap.size 6) H K nd vF vX vK' fs ps vO en es num tx dn := by
  obtain ⟨np, hnp⟩ : ∃ np, nd.preds.length = np := ⟨_, rfl⟩
  obtain ⟨nr, hnr⟩ : ∃ nr, nd.rows.length = nr := ⟨_, rfl⟩
  obtain ⟨fn, hfn⟩ : ∃ fn, fs.length = fn := ⟨_, rfl⟩
  obtain ⟨mn, ra, rc, pa, pc, h1, h2⟩ := h.hH
  obtain ⟨fa, fc, rfl, hfr⟩ := h.fr.r
  obtain ⟨xa, xn, xc, rfl⟩ := h.xs
  have hnpl := hok.np
  have hHs := h.lt
  have hne : ∀ b, (tg b).1 ≠ 0 → ¬ b = H := by
    rintro b ht rfl
    exact ht h.tH
  have hKC := know_calls nd fs ps H K mn ra rc pa pc fa fs.length fc (.slice xa xn xc) (.slice none 0 0) vO num tx dn w hok h1
    (fun W hW => h2 W fun b hb ht => hW.block b hb (hne b (by rw [ht]; decide)))
    (fun W hW => by
      have := (h.fr.keep (W' := W) (tg' := tg) fun b hb ht => ⟨hW.block b hb (hne b (by omega)), rfl⟩).r
      obtain ⟨fa', fc', e, hr⟩ := this
      have e' : fa = fa' ∧ fc = fc' := by injection e with a b c; exact ⟨a, c⟩
      rw [e'.1, e'.2]
      exact hr) hn
    (fun W hW => (hW.block K (Array.getElem?_eq_some_iff.1 h.ck.hK).1 (hne K (by rw [h.ck.tK]; decide))).trans h.ck.hK) ⟨_, _, _, rfl⟩ ⟨_, _, _, rfl⟩
  have hkl := knowS_len nd fs dn fs.length
  have hdl : d < (knowF nd fs dn).length := by unfold knowF; rw [hkl]; exact hd
  have hll := knowS_all nd fs dn fs.length _ (List.getElem_mem (show d < (knowS nd fs dn fs.length).1.length by rw [hkl]; exact hd))
  obtain ⟨ks, hks⟩ : ∃ ks, knowF nd fs dn = ks := ⟨_, rfl⟩
  have HKL : Hid (ks[d]? = some (ks.getD d []) ∧ (ks.getD d []).length = np) := Lib.hid (by
    have hd9 : d < ks.length := by rw [← hks]; exact hdl
    have e : ks[d]? = some ks[d] := List.getElem?_eq_getElem hd9
    have e2 : ks.getD d [] = ks[d] := by rw [List.getD_eq_getElem?_getD, e]; rfl
    refine ⟨by rw [e2]; exact e, ?_⟩
    rw [e2, ← hnp]
    subst hks
    exact hll)
  have HTF := Lib.hid (show truthF nd fs dn d k = (ks.getD d []).getD k 0 by unfold truthF; rw [hks])
  rw [hks] at hKC
  rw [hnp] at hKC h1 hk hnpl
  rw [hnr] at h1 hKC
  rw [hfn] at hKC h1 hd hn ⊢
  have q2 : w.cell? ⟨H, 2, none⟩ = some (.slice pa np pc) := by simp [World.cell?, h1]
  have q4 : w.cell? ⟨H, 4, none⟩ = some (.slice fa fn fc) := by simp [World.cell?, h1]
  have q6 : w.cell? ⟨H, 6, none⟩ = some (.slice none 0 0) := by simp [World.cell?, h1]
  rw [hfn] at h
  have i1 : ¬ (k : Int) < 0 := by omega
  have i2 : ¬ (np : Int) ≤ k := by omega
  have i3 : ¬ (d : Int) < 0 := by omega
  have i4 : ¬ (fn : Int) < d := by omega
  have i5 : ((d : Int) == fn) = false := beq_eq_false_iff_ne.2 (by omega)
  have hd' : (d : Int) < fn := by omega
  have hk' : (k : Int) < np := by omega
  have HKC := Lib.hid hKC
  have HH := Lib.hid h
  have HH1 := Lib.hid h1
  have HNP := Lib.hid (And.intro hnp hnr)
  clear hKC h h1 h2 hfr hkl hdl hll hks hnp hnr hok
  have hnil : ∀ W, (binOp .eql 85 (.slice none 0 0) (.slice none 0 0)).run Tryz.prog W = .ok (.bool true) W := fun W => Lib.run_eql_slice_nil W _ _ none 0 0 0 0 Tryz.underlying85
  go_enter Tryz.func18, Tryz.ntmps18
  go_wp2_with fail
  refine HKC.out.mono ?_
  rintro e w2 ⟨rfl, hf2, kB, hh2, hkm⟩
  obtain ⟨t, c1, c2, _, _⟩ := hkm.cell HKL.out.1
  rw [Nat.zero_add] at c1
  have hlk : (ks.getD d []).length = np := HKL.out.2
  obtain ⟨z, hz⟩ : ∃ z, (ks.getD d []).getD k 0 = z := ⟨_, rfl⟩
  have c3 : w2.cell? ⟨t, k, none⟩ = some (.int .i64 z) := by
    rw [← hz]
    exact il_cell c2 (get_getD (by rw [hlk]; exact hk) 0)
  have q6 : w2.cell? ⟨H, 6, none⟩ = some (.slice (some ⟨kB, 0, none⟩) fn fn) := by simp [World.cell?, hh2]
  have HFIN : Hid (Fr (fun b => b = H) w w2 ∧ ∃ vK', HoI n0 w2 (tgU tg w.heap.size 6) H K nd (.slice fa fn fc) (.slice xa xn xc) vK' fs ps vO en es num tx dn) := Lib.hid ⟨hf2, .slice (some ⟨kB, 0, none⟩) fn fn, HH.out.turn hf2 ⟨_, _, _, rfl⟩ ⟨_, _, _, rfl⟩ (fun m va vb e => by
    rw [HH1.out] at e
    have : Value.int .i64 mn = m ∧ Value.slice ra nr rc = va ∧ Value.slice pa np pc = vb := by
      injection e with e
      injection e with e
      injection e with e
      injection e with e1 e
      injection e with e2 e
      injection e with e3 e
      exact ⟨e1, e2, e3⟩
    rw [← this.1, ← this.2.1, ← this.2.2]
    exact hh2)⟩
  have HZ := Lib.hid (HTF.out.trans hz)
  clear hf2 hh2 hkm c2 hlk hz
  go_wp2_with fail
  go_ret2
  exact ⟨by rw [HZ.out]; rfl, HFIN.out⟩
end Go.Proofs.YtkhejkfjhddobaaGreatDoor

end

section
namespace Go.Proofs.YtkhejkfjhddobaaGreatDoor
open Go.RowKit Gim
section
attribute [local go_sem ↓] Go.wp_at_zero Go.wp_at_succ
set_option maxRecDepth 100000 in
set_option maxHeartbeats 16000000 in
theorem opens_calls {tg : Nat → Nat × Nat} {K : Nat} {vO : Value} {en : Nat} {es : List Value} {num : Int} {tx dn : Bool} (kd : Int) (nm : ByteArray) (c6 c7 : Value) (w : World) (h : ChkP w tg K vO en es num tx dn) (hT : Laid w) (hs : nm.size ≤ 9223372036854775807) (hen : en ≤ 1099511627776) (hb : nameB nm = true) :
    Calls Tryz.prog 55 #[.pointer (some ⟨K, 0, none⟩), .agg #[.int .i64 kd, .int .i64 num, .int .i64 ((en : Int) + 1), .string nm, .slice none 0 0, .string ⟨#[]⟩, c6, c7]] w fun e w' => e = .returned (.bool true) ∧ Below w.heap.size w w' := by
  obtain ⟨W1, hW1⟩ : ∃ W1, w.alloc (.cells #[.int .i64 kd, .int .i64 num, .int .i64 ((en : Int) + 1), .string nm, .slice none 0 0, .string ⟨#[]⟩, c6, c7] 45) = W1 := ⟨_, rfl⟩
  have b1 : Below w.heap.size w W1 := by rw [← hW1]; exact (Below.refl _ _).alloc (Nat.le_refl _) _
  have hX1 : W1.heap[w.heap.size]? = some (.cells #[.int .i64 kd, .int .i64 num, .int .i64 ((en : Int) + 1), .string nm, .slice none 0 0, .string ⟨#[]⟩, c6, c7] 45) := by rw [← hW1]; exact heap_alloc_new _ _
  obtain ⟨oa, oc, rfl, _⟩ := own_slice h.row
  have hK1 := (b1.block K (Array.getElem?_eq_some_iff.1 h.hK).1).trans h.hK
  have y1 : W1.cell? ⟨w.heap.size, 1, none⟩ = some (.int .i64 num) := by simp [World.cell?, hX1]
  have y2 : W1.cell? ⟨w.heap.size, 2, none⟩ = some (.int .i64 ((en : Int) + 1)) := by simp [World.cell?, hX1]
  have y3 : W1.cell? ⟨w.heap.size, 3, none⟩ = some (.string nm) := by simp [World.cell?, hX1]
  have y4 : W1.cell? ⟨w.heap.size, 4, none⟩ = some (.slice none 0 0) := by simp [World.cell?, hX1]
  have y5 : W1.cell? ⟨w.heap.size, 5, none⟩ = some (.string ⟨#[]⟩) := by simp [World.cell?, hX1]
  have k0 : W1.cell? ⟨K, 0, none⟩ = some (.slice oa en oc) := by simp [World.cell?, hK1]
  have k1 : W1.cell? ⟨K, 1, none⟩ = some (.int .i64 num) := by simp [World.cell?, hK1]
  have h1s : w.heap.size < W1.heap.size := (Array.getElem?_eq_some_iff.1 hX1).1
  have HNM : Hid (∀ W, Below W1.heap.size W1 W → Calls Tryz.prog 75 #[.string nm] W fun e w' => e = .returned (.bool true) ∧ Below W.heap.size W w') := Lib.hid fun W hW => by
    have := name_calls nm W hs ((hT.below b1).below hW)
    rw [hb] at this
    exact this
  have HB1 := Lib.hid b1
  have HW1 := Lib.hid hW1
  have e1 : (num == num) = true := beq_self_eq_true _
  have e2 : (num != num) = false := by simp
  have e3 : ((en : Int) + 1 != (en : Int) + 1) = false := by simp
  have e4 : IntKind.i64.wrap ((en : Int) + 1) = (en : Int) + 1 := IntWalk.i64_in _ (by omega)
  clear hX1 b1 hW1 hK1 h hT hs hb
  go_enter Tryz.func55, Tryz.ntmps55
  go_upto_region 1 with fail
  rw [HW1.out]
  go_region_with (first
    | (go_at_call 75; refine (HNM.out _ (by first | exact Below.refl _ _ | exact (Below.refl _ _).drew)).mono ?_; rintro e w13 ⟨rfl, b13⟩; have hb13 := (((Below.refl W1.heap.size W1).drew).trans b13); replace y4 := (hb13.cell (p := ⟨w.heap.size, 4, none⟩) h1s).trans y4; have HB13 := Lib.hid hb13; clear b13 hb13))
  all_goals
    have HBF := Lib.hid (HB1.out.trans (HB13.out.mono HB1.out.size))
    clear e1 e2 e3 e4 k0 k1 y1 y2 y3 y5
    go_wp2_with fail
    clear y4
    go_loopw [39] (fun v wr => v = .int .i64 0 ∧ Below w.heap.size w wr) (fun _ _ => 0)
    case atStart => exact ⟨rfl, HBF.out⟩
    case round =>
      obtain ⟨rfl, hb9⟩ := hrel
      have HB9 := Lib.hid hb9
      clear hb9
      go_wp2_with fail
      go_ret
      exact ⟨rfl, HB9.out⟩
end
end Go.Proofs.YtkhejkfjhddobaaGreatDoor

end

