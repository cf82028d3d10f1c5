/- A Hopes in memory. -/
import Derived.Test.YtkhejkfjhddobaaGreatDoorHoNetM
import Derived.Test.YtkhejkfjhddobaaGreatDoorHoKnowM
import Derived.Lib.SliceRun
namespace Go.Proofs.YtkhejkfjhddobaaGreatDoor
open Go.RowKit Gim
theorem yQx {W : World} {nd : yAc} {ra pa : Option Addr} {rc pc : Nat} (h : yQ2 W nd (.slice ra nd.rows.length rc) (.slice pa nd.preds.length pc)) : yA2 W nd.rows ra nd.rows.length rc ∧ yAR W nd.preds pa nd.preds.length pc := by
 obtain ⟨ra8, rc8, pa8, pc8, e1, e2, hf1, hf2⟩ := h; have e1' : ra = ra8 ∧ rc = rc8 := by injection e1 with a b c; exact ⟨a, c⟩
 have e2' : pa = pa8 ∧ pc = pc8 := by injection e2 with a b c; exact ⟨a, c⟩
 rw [← e1'.1, ← e1'.2] at hf1; rw [← e2'.1, ← e2'.2] at hf2; exact ⟨hf1, hf2⟩
def ySA (W : World) (tg : Nat → Nat × Nat) (nd : yAc) (ra : Option Addr) (rc : Nat) (pa : Option Addr) (pc : Nat) : Prop := ∀ W' : World, (∀ b, b < W.heap.size → (tg b).1 = 3 → W'.heap[b]? = W.heap[b]?) → yA2 W' nd.rows ra nd.rows.length rc ∧ yAR W' nd.preds pa nd.preds.length pc
theorem ySA.keep {W : World} {tg : Nat → Nat × Nat} {nd : yAc} {ra : Option Addr} {rc : Nat} {pa : Option Addr} {pc : Nat} (h : ySA W tg nd ra rc pa pc) {W' : World} {tg' : Nat → Nat × Nat} (hs : W.heap.size ≤ W'.heap.size) (hk : ∀ b, b < W.heap.size → (tg b).1 = 3 → W'.heap[b]? = W.heap[b]? ∧ (tg' b).1 = 3) : ySA W' tg' nd ra rc pa pc :=
 fun W'' hW => h W'' fun b hb ht => (hW b (by omega) (hk b hb ht).2).trans (hk b hb ht).1
structure yKJ (W : World) (tg : Nat → Nat × Nat) (vF : Value) (nr np : Nat) (fs : List FrS) (ps : List Nat) : Prop where
 row : W.ownsRow 0 102 1 vF fs.length (ps.map fun p => Value.pointer (some ⟨p, 0, none⟩))
 tg2 : ∀ g, vF.ownBlock = some g → (tg g).1 = 2
 lp : ps.length = fs.length
 fr : ∀ i, i < fs.length → FrM W tg (10 + i) (ps.getD i 0) nr np (fs.getD i fr0)
theorem yKJ.keep {W : World} {tg : Nat → Nat × Nat} {vF : Value} {nr np : Nat} {fs : List FrS} {ps : List Nat} (h : yKJ W tg vF nr np fs ps) {W' : World} {tg' : Nat → Nat × Nat} (hk : ∀ b, b < W.heap.size → (tg b).1 = 2 ∨ 10 ≤ (tg b).1 → W'.heap[b]? = W.heap[b]? ∧ tg' b = tg b) : yKJ W' tg' vF nr np fs ps :=
 ⟨yAa h.row fun g hg => (hk g (World.ownsRow.lt h.row g hg).2 (.inl (h.tg2 g hg))).1, fun g hg => by rw [(hk g (World.ownsRow.lt h.row g hg).2 (.inl (h.tg2 g hg))).2]; exact h.tg2 g hg, h.lp,
  fun i hi => (h.fr i hi).keep (fun b k hb ht => (hk b hb (.inr (by rw [ht]; exact Nat.le_add_right _ _))).1) (fun b k hb ht => by rw [(hk b hb (.inr (by rw [ht]; exact Nat.le_add_right _ _))).2]; exact ht)⟩
structure yE9 (W : World) (tg : Nat → Nat × Nat) (K : Nat) (vO : Value) (en : Nat) (es : List Value) (num : Int) (tx dn : Bool) : Prop where
 hK : W.heap[K]? = some (.cells #[vO, .int .i64 num, .bool tx, .bool dn] 101)
 tK : (tg K).1 = 1
 row : W.ownsRow 0 45 8 vO en es
 tg4 : ∀ g, vO.ownBlock = some g → (tg g).1 = 4
theorem yE9.keep {W : World} {tg : Nat → Nat × Nat} {K : Nat} {vO : Value} {en : Nat} {es : List Value} {num : Int} {tx dn : Bool} (h : yE9 W tg K vO en es num tx dn) {W' : World} {tg' : Nat → Nat × Nat} (hk : ∀ b, b < W.heap.size → (tg b).1 = 1 ∨ (tg b).1 = 4 → W'.heap[b]? = W.heap[b]? ∧ tg' b = tg b) : yE9 W' tg' K vO en es num tx dn := by have hl := jl h.hK; have h1 := hk K hl (.inl h.tK); refine ⟨h1.1.trans h.hK, by rw [h1.2]; exact h.tK, yAa h.row fun g hg => (hk g (World.ownsRow.lt h.row g hg).2 (.inr (h.tg4 g hg))).1, fun g hg => ?_⟩; rw [(hk g (World.ownsRow.lt h.row g hg).2 (.inr (h.tg4 g hg))).2]; exact h.tg4 g hg
structure HoI (n0 : Nat) (W : World) (tg : Nat → Nat × Nat) (H K : Nat) (nd : yAc) (vF vX vK : Value) (fs : List FrS) (ps : List Nat) (vO : Value) (en : Nat) (es : List Value) (num : Int) (tx dn : Bool) : Prop where
 hH : ∃ mn ra rc pa pc, W.heap[H]? = some (.cells #[.int .i64 mn, .slice ra nd.rows.length rc, .slice pa nd.preds.length pc, .pointer (some ⟨K, 0, none⟩), vF, vX, vK] 87) ∧ ySA W tg nd ra rc pa pc
 tH : (tg H).1 = 0
 fr : yKJ W tg vF nd.rows.length nd.preds.length fs ps
 ck : yE9 W tg K vO en es num tx dn
 xs : ∃ a n c, vX = .slice a n c
 ks : ∃ a n c, vK = .slice a n c
 own : ∀ b, b < W.heap.size → (tg b).1 = 0 → b = H
 old : n0 ≤ W.heap.size ∧ ∀ b, b < n0 → (tg b).1 = 6
theorem HoI.lt {n0 : Nat} {W : World} {tg : Nat → Nat × Nat} {H K : Nat} {nd : yAc} {vF vX vK : Value} {fs : List FrS} {ps : List Nat} {vO : Value} {en : Nat} {es : List Value} {num : Int} {tx dn : Bool} (h : HoI n0 W tg H K nd vF vX vK fs ps vO en es num tx dn) : H < W.heap.size := by obtain ⟨mn, ra, rc, pa, pc, h1, _⟩ := h.hH; exact (jl h1)
def tgU (tg : Nat → Nat × Nat) (n t : Nat) : Nat → Nat × Nat := fun b => if b < n then tg b else (t, 0)
theorem yAl {tg : Nat → Nat × Nat} {n t b : Nat} (h : b < n) : tgU tg n t b = tg b := by unfold tgU; rw [if_pos h]
theorem yBO {tg : Nat → Nat × Nat} {n t b : Nat} (h : n ≤ b) : tgU tg n t b = (t, 0) := by unfold tgU; rw [if_neg (by omega)]
def tgS (H K G lo hi : Nat) (tg : Nat → Nat × Nat) (b : Nat) : Nat × Nat := if b = H then (0, 0) else if b = K then (1, 0) else if b = G then (2, 0) else if lo ≤ b ∧ b < hi then (3, 0) else if (tg b).1 = 0 then (10, (tg b).2) else (6, 0)
theorem HoI.start {w w' : World} {nd : yAc} {H K F G : Nat} {mn : Int} {va vb : Value} {lo hi : Nat} {tg : Nat → Nat × Nat} (h : NewM w w' nd H K F G mn va vb lo hi tg) (hb : Below w.heap.size w w') :
  HoI w.heap.size w' (tgS H K G lo hi tg) H K nd (.slice (some ⟨G, 0, none⟩) 1 1) (.slice none 0 0) (.slice none 0 0) [yAr nd 0 ByteArray.empty []] [F] (.slice none 0 0) 0 [] 0 false false := by
 obtain ⟨o1, o2, o3, o4⟩ := h.ord; have hlow := h.low; obtain ⟨ra, rc, pa, pc, rfl, rfl, _, _⟩ := h.net w' (fun _ _ _ => rfl); have tH : tgS H K G lo hi tg H = (0, 0) := by simp [tgS]
 have tK : tgS H K G lo hi tg K = (1, 0) := by unfold tgS; rw [if_neg (by omega), if_pos rfl]
 have tG : tgS H K G lo hi tg G = (2, 0) := by unfold tgS; rw [if_neg (by omega), if_neg (by omega), if_pos rfl]
 have tN : ∀ b, lo ≤ b → b < hi → tgS H K G lo hi tg b = (3, 0) := fun b h1 h2 => by unfold tgS; rw [if_neg (by omega), if_neg (by omega), if_neg (by omega), if_pos ⟨h1, h2⟩]
 have tF : ∀ b, (tg b).1 = 0 → tgS H K G lo hi tg b = (10, (tg b).2) := fun b h0 => by
  have hbH : ¬ b ≤ H := fun e => h.out b e h0
  have hbG : ¬ b = G := by rintro rfl; exact h.g h0
  unfold tgS; rw [if_neg (by omega), if_neg (by omega), if_neg hbG, if_neg (by omega), if_pos h0]
 refine ⟨⟨mn, ra, rc, pa, pc, h.hH, fun W' hW => yQx (h.net W' fun b h1 h2 => hW b (by have := (jl h.hH); omega) (by rw [tN b h1 h2]))⟩, by rw [tH], ⟨⟨rfl, .inr ⟨G, 1, _, rfl, jz _, h.hG, jr _, by unfold maxLen; omega, rfl, rfl⟩⟩, fun g hg => ?_, rfl, fun i hi => ?_⟩, ⟨h.hK, by rw [tK], World.ownsRow_nil _ _ _ _, (fun g hg => by cases hg)⟩, ⟨_, _, _, rfl⟩, ⟨_, _, _, rfl⟩, fun b _ ht => ?_, hb.size, fun b hl => ?_⟩
 ·have hg : some G = some g := hg; injection hg with hg; subst hg; rw [tG]
 ·have hi : i < 1 := hi; obtain rfl : i = 0 := by omega
  exact h.fr.keep (fun _ _ _ _ => rfl) (fun b k _ ht => by rw [tF b (by rw [ht]), ht])
 ·by_cases e1 : b = H
  ·exact e1
  ·unfold tgS at ht; rw [if_neg e1] at ht; split at ht
   ·cases ht
   ·split at ht
    ·cases ht
    ·split at ht
     ·cases ht
     ·split at ht <;> cases ht
 ·unfold tgS; rw [if_neg (by omega), if_neg (by omega), if_neg (by omega), if_neg (by omega), if_neg (h.out b (by omega))]
section
variable {n0 : Nat} {W : World} {tg : Nat → Nat × Nat} {H K : Nat} {nd : yAc} {vF vX vK : Value} {fs : List FrS} {ps : List Nat} {vO : Value} {en : Nat} {es : List Value} {num : Int} {tx dn : Bool}
theorem HoI.below (h : HoI n0 W tg H K nd vF vX vK fs ps vO en es num tx dn) {W' : World} (hb : Below W.heap.size W W') : HoI n0 W' (tgU tg W.heap.size 6) H K nd vF vX vK fs ps vO en es num tx dn := by
 obtain ⟨mn, ra, rc, pa, pc, h1, h2⟩ := h.hH; refine ⟨⟨mn, ra, rc, pa, pc, (hb.block H h.lt).trans h1, h2.keep hb.size fun b hl ht => ⟨hb.block b hl, by rw [yAl hl]; exact ht⟩⟩, by rw [yAl h.lt]; exact h.tH, h.fr.keep fun b hl _ => ⟨hb.block b hl, yAl hl⟩, h.ck.keep fun b hl _ => ⟨hb.block b hl, yAl hl⟩, h.xs, h.ks, fun b hl ht => ?_, ⟨ju h.old.1 hb.size, fun b hl => by rw [yAl (jt hl h.old.1)]; exact h.old.2 b hl⟩⟩; by_cases hl2 : b < W.heap.size
 ·rw [yAl hl2] at ht; exact h.own b hl2 ht
 ·rw [yBO (by omega)] at ht; cases ht
theorem HoI.turn (h : HoI n0 W tg H K nd vF vX vK fs ps vO en es num tx dn) {W' : World} (hf : Fr (fun b => b = H) W W') {vX' vK' : Value} (hx : ∃ a n c, vX' = .slice a n c) (hk : ∃ a n c, vK' = .slice a n c)
  (hH : ∀ mn va vb, W.heap[H]? = some (.cells #[mn, va, vb, .pointer (some ⟨K, 0, none⟩), vF, vX, vK] 87) → W'.heap[H]? = some (.cells #[mn, va, vb, .pointer (some ⟨K, 0, none⟩), vF, vX', vK'] 87)) :
  HoI n0 W' (tgU tg W.heap.size 6) H K nd vF vX' vK' fs ps vO en es num tx dn := by
 obtain ⟨mn, ra, rc, pa, pc, h1, h2⟩ := h.hH; have hne : ∀ b, (tg b).1 ≠ 0 → ¬ b = H := by rintro b ht rfl; exact ht h.tH
 refine ⟨⟨mn, ra, rc, pa, pc, hH _ _ _ h1, h2.keep hf.size fun b hl ht => ⟨hf.block b hl (hne b (by rw [ht]; decide)), by rw [yAl hl]; exact ht⟩⟩, by rw [yAl h.lt]; exact h.tH, h.fr.keep fun b hl ht => ⟨hf.block b hl (hne b (by omega)), yAl hl⟩, h.ck.keep fun b hl ht => ⟨hf.block b hl (hne b (by omega)), yAl hl⟩, hx, hk, fun b hl ht => ?_, ⟨ju h.old.1 hf.size, fun b hl => by rw [yAl (jt hl h.old.1)]; exact h.old.2 b hl⟩⟩; by_cases hl2 : b < W.heap.size
 ·rw [yAl hl2] at ht; exact h.own b hl2 ht
 ·rw [yBO (by omega)] at ht; cases ht
theorem yKJ.r (h : yKJ W tg vF nd.rows.length nd.preds.length fs ps) : ∃ fa fc, vF = .slice fa fs.length fc ∧ FrsR W fa fs.length fc nd.rows.length nd.preds.length fs ps := by
 obtain ⟨a, cap, e, h1, h2, h3⟩ := yAb h.row; refine ⟨a, cap, e, rfl, h1, fun i hi => ?_⟩; obtain ⟨g, e2, h4, h5⟩ := h3 i hi; subst e2; have hr := h.row; rw [e] at hr; refine ⟨g, 0, tg, 10 + i, rfl, h5, ?_, h.fr i hi⟩; rw [Nat.zero_add]; have hip : i < ps.length := by rw [h.lp]; exact hi
 refine yAq hr ?_; rw [List.getElem?_map, jg, jk hip]; rfl
end
theorem yGw (nd : yAc) (fs : List FrS) (dn : Bool) : ∀ d, ∀ l ∈ (yBg nd fs dn d).1, l.length = nd.preds.length
 | 0, l, h => by unfold yBg at h; cases h
 | d + 1, l, h => by
  unfold yBg at h; rcases List.mem_cons.1 h with h | h
  ·rw [h]; exact (yG0 _ _ _ _).1
  ·exact yGw nd fs dn d l h
def yEN (nd : yAc) (fs : List FrS) (dn : Bool) (d k : Nat) : Int := ((yCY nd fs dn).getD d []).getD k 0
end Go.Proofs.YtkhejkfjhddobaaGreatDoor
