/- (*Check).opens of gimlet/tree, for an element without attributes. -/
import Derived.Test.YtkhejkfjhddobaaGreatDoorHoStateM
import Derived.IntWalk
namespace Go.Proofs.YtkhejkfjhddobaaGreatDoor
open Go.RowKit Gim
section
attribute [local go_sem ↓] Go.wp_at_zero Go.wp_at_succ
end
end Go.Proofs.YtkhejkfjhddobaaGreatDoor
namespace Gim
open Go Go.RowKit
def yBP (num dep : Int) (nm : ByteArray) : List Value := [.int .i64 0, .int .i64 num, .int .i64 dep, .string nm, .slice none 0 0, .string ⟨#[]⟩, .int .i64 0, .int .i64 0]
theorem yP1 (num dep : Int) (nm : ByteArray) : ∀ u ∈ yBP num dep nm, u.oneCell' = true := by
 intro u hu; simp only [yBP, List.mem_cons, List.not_mem_nil, or_false] at hu; rcases hu with rfl | rfl | rfl | rfl | rfl | rfl | rfl | rfl <;> rfl
theorem yPJ (w : World) (num dep : Int) (nm : ByteArray) (t : TypeId) : ∀ j u, (yBP num dep nm)[j]? = some u → (w.alloc (.cells (yBP num dep nm).toArray t)).cell? ⟨w.heap.size, j, none⟩ = some u := by intro j u hj; have hn := jw w (.cells (yBP num dep nm).toArray t); unfold World.cell?; rw [hn]; simpa using hj
end Gim
namespace Go.Proofs.YtkhejkfjhddobaaGreatDoor
open Go.RowKit Gim
theorem yKM : (Tryz.prog.info? 45).map (fun i => (i.zero, i.size, i.bytes)) = some (some (.agg #[.int .i64 0, .int .i64 0, .int .i64 0, .string ByteArray.empty, .slice none 0 0, .string ByteArray.empty, .int .i64 0, .int .i64 0]), 8, 96) := by kernel_rfl
structure CkM (n0 : Nat) (w W : World) (K : Nat) (vO vP : Value) (en : Nat) (es : List Value) (num : Int) (tx dn : Bool) : Prop where
 fr : Fr (fun b => b = K ∨ vO.ownBlock = some b) w W
 hK : W.heap[K]? = some (.cells #[vP, .int .i64 num, .bool tx, .bool dn] 101)
 row : W.ownsRow n0 45 8 vP en es
 at_ : vP.ownBlock = vO.ownBlock ∨ ∃ j, vP.ownBlock = some j ∧ w.heap.size ≤ j
theorem yOI {p : Nat → Prop} {w a b : World} {own : Option Nat} (h : Fr p w a) (hg : a.grownBy b own) (hp : ∀ g, own = some g → p g) : Fr p w b :=
 ⟨hg.os.trans h.os, hg.tape.trans h.tape, hg.output.trans h.output, ju h.size hg.size, fun j hj hn => (hg.block j (jt hj h.size) fun e => hn (hp j e.symm)).trans (h.block j hj hn)⟩
section
attribute [local go_sem ↓] Go.wp_at_zero Go.wp_at_succ
end
def tgT (tg : Nat → Nat × Nat) (n : Nat) (v : Value) (b : Nat) : Nat × Nat := if b < n then tg b else if v.ownBlock = some b then (4, 0) else (6, 0)
def tgF (tg tgo : Nat → Nat × Nat) (n i : Nat) (v : Value) (b : Nat) : Nat × Nat := if b < n then tg b else if v.ownBlock = some b then (2, 0) else if (tgo b).1 = 0 then (10 + i, (tgo b).2) else (6, 0)
structure yTn (W w' : World) (H : Nat) (vF vP : Value) (nr np : Nat) (fs : List FrS) (ps : List Nat) (F : Nat) (f : FrS) (tgo : Nat → Nat × Nat) : Prop where
 fr : Fr (fun b => b = H ∨ vF.ownBlock = some b) W w'
 row : w'.ownsRow 0 102 1 vP (fs.length + 1) ((ps ++ [F]).map fun p => Value.pointer (some ⟨p, 0, none⟩))
 at_ : vP.ownBlock = vF.ownBlock ∨ ∃ j, vP.ownBlock = some j ∧ W.heap.size ≤ j ∧ (tgo j).1 ≠ 0
 frm : FrM w' tgo 0 F nr np f
 old : ∀ b, b < W.heap.size → (tgo b).1 ≠ 0
section
variable {n0 : Nat} {W : World} {tg : Nat → Nat × Nat} {H K : Nat} {nd : yAc} {vF vX vK : Value} {fs : List FrS} {ps : List Nat} {vO : Value} {en : Nat} {es : List Value} {num : Int} {tx dn : Bool}
theorem HoI.took (h : HoI n0 W tg H K nd vF vX vK fs ps vO en es num tx dn) {w' : World} {vP : Value} {en' : Nat} {es' : List Value} {num' : Int} {tx' dn' : Bool} (hc : CkM 0 W w' K vO vP en' es' num' tx' dn') : HoI n0 w' (tgT tg W.heap.size vP) H K nd vF vX vK fs ps vP en' es' num' tx' dn' := by
 obtain ⟨mn, ra, rc, pa, pc, h1, h2⟩ := h.hH; have hto : ∀ b, b < W.heap.size → tgT tg W.heap.size vP b = tg b := fun b hb => if_pos hb
 have ho : ∀ b, b < W.heap.size → (tg b).1 ≠ 1 → (tg b).1 ≠ 4 → w'.heap[b]? = W.heap[b]? := fun b hb h3 h4 => hc.fr.block b hb fun e => by
  rcases e with rfl | e
  ·exact h3 h.ck.tK
  ·exact h4 (h.ck.tg4 b e)
 have hKs := jl h.ck.hK; refine ⟨⟨mn, ra, rc, pa, pc, (ho H h.lt (by rw [h.tH]; decide) (by rw [h.tH]; decide)).trans h1, h2.keep hc.fr.size fun b hb ht => ⟨ho b hb (by omega) (by omega), by rw [hto b hb]; exact ht⟩⟩, by rw [hto H h.lt]; exact h.tH, h.fr.keep fun b hb ht => ⟨ho b hb (by omega) (by omega), hto b hb⟩, ⟨hc.hK, by rw [hto K hKs]; exact h.ck.tK, hc.row, fun g hg => ?_⟩, h.xs, h.ks, fun b _ ht => ?_, ju h.old.1 hc.fr.size, fun b hb => by rw [hto b (jt hb h.old.1)]; exact h.old.2 b hb⟩
 ·rcases hc.at_ with e | ⟨j, e1, e2⟩
  ·rw [e] at hg; rw [hto g (World.ownsRow.lt h.ck.row g hg).2]; exact h.ck.tg4 g hg
  ·have : j = g := by rw [e1] at hg; injection hg
   subst this; unfold tgT; rw [if_neg (by omega), if_pos hg]
 ·by_cases hb : b < W.heap.size
  ·rw [hto b hb] at ht; exact h.own b hb ht
  ·unfold tgT at ht; rw [if_neg hb] at ht; split at ht <;> cases ht
theorem HoI.opn (h : HoI n0 W tg H K nd vF vX vK fs ps vO en es num tx dn) {w' : World} {vP : Value} {F : Nat} {f : FrS} {tgo : Nat → Nat × Nat} (hc : yTn W w' H vF vP nd.rows.length nd.preds.length fs ps F f tgo)
  (hH : ∀ mn va vb, W.heap[H]? = some (.cells #[mn, va, vb, .pointer (some ⟨K, 0, none⟩), vF, vX, vK] 87) → w'.heap[H]? = some (.cells #[mn, va, vb, .pointer (some ⟨K, 0, none⟩), vP, vX, vK] 87)) :
  HoI n0 w' (tgF tg tgo W.heap.size fs.length vP) H K nd vP vX vK (fs ++ [f]) (ps ++ [F]) vO en es num tx dn := by
 obtain ⟨mn, ra, rc, pa, pc, h1, h2⟩ := h.hH; have hto : ∀ b, b < W.heap.size → tgF tg tgo W.heap.size fs.length vP b = tg b := fun b hb => if_pos hb
 have ho : ∀ b, b < W.heap.size → (tg b).1 ≠ 0 → (tg b).1 ≠ 2 → w'.heap[b]? = W.heap[b]? := fun b hb h3 h4 => hc.fr.block b hb fun e => by
  rcases e with rfl | e
  ·exact h3 h.tH
  ·exact h4 (h.fr.tg2 b e)
 refine ⟨⟨mn, ra, rc, pa, pc, hH _ _ _ h1, h2.keep hc.fr.size fun b hb ht => ⟨ho b hb (by omega) (by omega), by rw [hto b hb]; exact ht⟩⟩, by rw [hto H h.lt]; exact h.tH, ⟨by rw [jp]; exact hc.row, fun g hg => ?_, by rw [jp, jp, h.fr.lp]; rfl, fun i hi => ?_⟩, h.ck.keep fun b hb ht => ⟨ho b hb (by omega) (by omega), hto b hb⟩, h.xs, h.ks, fun b _ ht => ?_, ju h.old.1 hc.fr.size, fun b hb => by rw [hto b (jt hb h.old.1)]; exact h.old.2 b hb⟩
 ·rcases hc.at_ with e | ⟨j, e1, e2, _⟩
  ·rw [e] at hg; rw [hto g (World.ownsRow.lt h.fr.row g hg).2]; exact h.fr.tg2 g hg
  ·have : j = g := by rw [e1] at hg; injection hg
   subst this; unfold tgF; rw [if_neg (by omega), if_pos hg]
 ·by_cases hl : i < fs.length
  ·rw [jg, jg, List.getElem?_append_left (by rw [h.fr.lp]; exact hl), List.getElem?_append_left hl, ← jg, ← jg]; exact (h.fr.fr i hl).keep (fun b k hb ht => ho b hb (by rw [ht]; show 10 + i ≠ 0; omega) (by rw [ht]; show 10 + i ≠ 2; omega)) (fun b k hb ht => by rw [hto b hb]; exact ht)
  ·have hi : i < (fs ++ [f]).length := hi; rw [jp, List.length_singleton] at hi; obtain rfl : i = fs.length := by omega
   rw [jg, jg, List.getElem?_append_right (by rw [h.fr.lp]; exact jr _), List.getElem?_append_right (jr _), h.fr.lp, Nat.sub_self]; refine hc.frm.keep (fun _ _ _ _ => rfl) (fun b k _ ht => ?_); have hb : ¬ b < W.heap.size := fun hb => hc.old b hb (by rw [ht])
   have hv : ¬ vP.ownBlock = some b := fun e => by
    rcases hc.at_ with e2 | ⟨j, e1, _, e3⟩
    ·rw [e2] at e; exact hb (World.ownsRow.lt h.fr.row b e).2
    ·rw [e1] at e; injection e with e; subst e; exact e3 (by rw [ht])
   unfold tgF; rw [if_neg hb, if_neg hv, ht, if_pos rfl]
 ·by_cases hb : b < W.heap.size
  ·rw [hto b hb] at ht; exact h.own b hb ht
  ·unfold tgF at ht; rw [if_neg hb] at ht; split at ht
   ·cases ht
   ·split at ht
    ·have ht : 10 + fs.length = 0 := ht; omega
    ·cases ht
end
theorem yPn : (Tryz.prog.info? 102).map (fun i => (i.zero, i.size, i.bytes)) = some (some (.pointer none), 1, 8) := by kernel_rfl
theorem yOU (w : World) (v : Value) (t : TypeId) : ∀ (j : Nat) (u : Value), [v][j]? = some u → (w.alloc (.cells #[v] t)).cell? ⟨w.heap.size, j, none⟩ = some u := by intro j u hj; have hn := jw w (.cells #[v] t); unfold World.cell?; rw [hn]; simpa using hj
section
attribute [local go_sem ↓] Go.wp_at_zero Go.wp_at_succ
end
section
attribute [local go_sem ↓] Go.wp_at_zero Go.wp_at_succ
end
end Go.Proofs.YtkhejkfjhddobaaGreatDoor
