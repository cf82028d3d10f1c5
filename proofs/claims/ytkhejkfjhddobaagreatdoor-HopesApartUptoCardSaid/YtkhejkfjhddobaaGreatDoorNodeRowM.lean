/- The document's nodes in a row that grows; what holds of them behind each event. -/
import Derived.Test.YtkhejkfjhddobaaGreatDoorExprSomeM
import Derived.Test.YtkhejkfjhddobaaGreatDoorBegin
import Derived.Test.YtkhejkfjhddobaaGreatDoorDocAllM
set_option maxRecDepth 100000
set_option maxHeartbeats 32000000
set_option linter.unusedSimpArgs false
namespace Gim
open Go Go.RowKit
theorem yQT {P : Program} (w : World) {ops : Array Oper} {rest : List Oper} {o : Oper} {a : Act} {Q : Exit → Act → World → Prop} (hg : o.guard = none) (s x : Operand) (ts t : TypeId)
  (ho : o.op = .call { callee := .builtin .append, args := #[s, x], argTypes := #[ts, ts] }) (z : Value) (k bytes : Nat)
  (hinf : (P.info? t).map (fun i => (i.zero, i.size, i.bytes)) = some (some z, k, bytes)) (hu : P.underlying ts = some (.slice t)) (hz : z.cells.size = k) (hk : 0 < k) (hby : bytes ≤ 1000)
  (B : Nat) (v : Value) (n : Nat) (l : List Value) (hs : a.eval s = v) (hrow : w.ownsRow B t k v n l) (c : List Value) (hc : c.length = k) (h1 : ∀ u ∈ c, u.oneCell' = true)
  (hx : a.eval x = .slice (some ⟨w.heap.size, 0, none⟩) 1 1) (hlen : n < 1073741824) (hB : B ≤ w.heap.size)
  (hK : ∀ v' w', w'.ownsRow B t k v' (n + 1) (l ++ c) → w.grownBy w' v.ownBlock → (v'.ownBlock = v.ownBlock ∨ v'.ownBlock = some (w.heap.size + 1)) → wpList P ops Q rest (a.put o.dst v') w') :
  wpList P ops Q (o :: rest) a (w.alloc (.cells c.toArray t)) := by
 obtain ⟨i0, hi, hz0, hz1, hz2⟩ := info_parts hinf; refine wpList_append_own_at _ hg s x ts ho B t i0 z k bytes hu hi hz0 hz1 hz2 hz hk v n l hs (World.ownsRow.alloc hrow _) ⟨w.heap.size, 0, none⟩ 1 1 c hx (by omega) ?_ h1 (by unfold maxLen; omega) ?_ (by simp; omega) ?_
 ·intro j u hj; have hn := jw w (.cells c.toArray t); rw [Addr.add_lit]; unfold World.cell?; rw [hn]; simpa using hj
 ·have : (n + 1) * bytes ≤ 1073741824 * 1000 := Nat.mul_le_mul (by omega) hby; omega
 ·intro v' w' h2 h3 _ h5; refine hK v' w' h2 ?_ ?_
  ·have h4 := World.grownBy_alloc w (.cells c.toArray t) v.ownBlock; exact ⟨h3.os.trans h4.os, h3.tape.trans h4.tape, h3.output.trans h4.output, ju h4.size h3.size,
    fun j hj hne => (h3.block j (jt hj h4.size) hne).trans (h4.block j hj hne)⟩
  ·rcases h5 with h5 | h5
   ·exact .inl h5
   ·exact .inr (by rw [h5]; simp)
end Gim
namespace Go.Proofs.YtkhejkfjhddobaaGreatDoor
open Go.RowKit Gim
abbrev NV := NdD × (Option Addr × Nat × Nat)
def cN (x : NV) : List Value := [.int .i64 x.1.ev.kd, .int .i64 x.1.ev.num, .int .i64 x.1.ev.dep, .string x.1.ev.nm, .slice x.2.1 x.2.2.1 x.2.2.2, .string x.1.ev.tx, .int .i64 x.1.ev.fr, .int .i64 x.1.ev.tu, .int .i64 x.1.par, .int .i64 x.1.last, .int .i64 x.1.at_, .int .i64 x.1.clo, .string x.1.val]
theorem yFA (x : NV) : (cN x).length = 13 := rfl
def zv : NV := (zn, none, 0, 0)
theorem yQj : (Tryz.prog.info? 145).map (fun i => (i.zero, i.size, i.bytes)) = some (some (.agg #[.int .i64 0, .int .i64 0, .int .i64 0, .string ByteArray.empty, .slice none 0 0, .string ByteArray.empty, .int .i64 0, .int .i64 0, .int .i64 0, .int .i64 0, .int .i64 0, .int .i64 0, .string ByteArray.empty]), 13, 144) := by kernel_rfl
theorem yTc (x : NV) : ∀ u ∈ cN x, u.oneCell' = true := by
 intro u hu; simp only [cN, List.mem_cons, List.not_mem_nil, or_false] at hu; rcases hu with rfl | rfl | rfl | rfl | rfl | rfl | rfl | rfl | rfl | rfl | rfl | rfl | rfl <;> rfl
theorem yG6 {l : List NV} {q j : Nat} (hq : q < l.length) (hj : j < 13) : (l.flatMap cN)[q * 13 + j]? = (cN (l.getD q zv))[j]? :=
 yBI cN 13 yFA (yAi hq zv) j hj
theorem yKz {f : NV → NV} {j : Nat} {u : Value} (hf : ∀ x, cN (f x) = (cN x).set j u) (hj : j < 13) : ∀ (l : List NV) (q : Nat), q < l.length → (l.flatMap cN).set (q * 13 + j) u = (l.modify q f).flatMap cN
 | x :: r, 0, _ => by rw [List.modify_zero_cons, List.flatMap_cons, List.flatMap_cons, Nat.zero_mul, Nat.zero_add, List.set_append_left _ _ (by rw [yFA]; exact hj), hf]
 | x :: r, q + 1, h => by rw [List.modify_succ_cons, List.flatMap_cons, List.flatMap_cons, List.set_append_right _ _ (by rw [yFA]; omega), yFA, show (q + 1) * 13 + j - 13 = q * 13 + j by omega, yKz hf hj r q (by simpa using h)]
theorem yF3 {f : NV → NV} {j : Nat} {l : List NV} {q : Nat} {u : Value} (hq : q < l.length) (hf : cN (f (l.getD q zv)) = (cN (l.getD q zv)).set j u) (hj : j < 13) : (l.flatMap cN).set (q * 13 + j) u = (l.modify q f).flatMap cN := by
 have h := yKz (f := fun _ => f (l.getD q zv)) (j := j) (u := (cN (f (l.getD q zv))).getD j (.int .i64 0))
 induction l generalizing q with
 | nil => exact absurd hq (Nat.not_lt_zero _)
 | cons x r ih =>
  cases q with
  | zero =>
   rw [List.modify_zero_cons, List.flatMap_cons, List.flatMap_cons, Nat.zero_mul, Nat.zero_add, List.set_append_left _ _ (by rw [yFA]; exact hj)]; rw [show f x = f ((x :: r).getD 0 zv) from rfl, hf]; rfl
  | succ q =>
   rw [List.modify_succ_cons, List.flatMap_cons, List.flatMap_cons, List.set_append_right _ _ (by rw [yFA]; omega), yFA, show (q + 1) * 13 + j - 13 = q * 13 + j by omega, ih (by simpa using hq) (by simpa using hf) (fun h1 h2 l q hq => by exact yKz (fun y => h1 y) h2 l q hq)]
def onV (f : NdD → NdD) (x : NV) : NV := (f x.1, x.2)
theorem yKF (f : NdD → NdD) (l : List NV) (q : Nat) : (l.modify q (onV f)).map (·.1) = (l.map (·.1)).modify q f := by
 refine List.ext_getElem? fun j => ?_
 rw [List.getElem?_map, List.getElem?_modify, List.getElem?_modify, List.getElem?_map]; cases l[j]? with
 | none => rfl
 | some x => by_cases e : q = j <;> simp [e, onV]
theorem yEx {w : World} {B : Nat} {t : TypeId} {k g n cap : Nat} {l : List Value} (h : w.ownsRow B t k (.slice (some ⟨g, 0, none⟩) n cap) n l) (j : Nat) : w.frozen? ⟨g, j, none⟩ = false := by
 rcases h.2 with ⟨h', _⟩ | ⟨g', cap', cur, h', _, hg, _⟩
 ·simp at h'
 ·simp only [Value.slice.injEq, Option.some.injEq, Addr.mk.injEq, and_true] at h'; obtain ⟨rfl, _⟩ := h'; exact frozen_of_row w g j cur t hg
structure NdR (es : List EvD) (w : World) (i : Nat) (l : List NV) (op : List Int) : Prop where
 nodes : l.map (·.1) = (yAg es i).nodes
 op : op = (yAg es i).op
 fit : ∀ x ∈ l, yAO w x.1.ev.ats x.2.1 x.2.2.1 x.2.2.2
def yGK (num : Int) (tx : ByteArray) (op : List Int) (l : List NV) : List NV := op.foldl (fun l k => l.modify k.toNat (onV (yCy num tx))) l
theorem yLy (num : Int) (tx : ByteArray) : ∀ (op : List Int) (l : List NV), (yGK num tx op l).map (·.1) = yBK num tx op (l.map (·.1))
 | [], l => rfl
 | k :: r, l => by show (yGK num tx r (l.modify k.toNat (onV (yCy num tx)))).map (·.1) = yBK num tx r ((l.map (·.1)).modify k.toNat (yCy num tx)); rw [yLy num tx r, yKF]
theorem yQL (num : Int) (tx : ByteArray) (op : List Int) (k : Int) (l : List NV) : yGK num tx (op ++ [k]) l = (yGK num tx op l).modify k.toNat (onV (yCy num tx)) := by simp [yGK]
theorem yMH {num : Int} {tx : ByteArray} {B : Nat} : ∀ {op : List Int} {l : List NV} {C : Nat}, (∀ x ∈ l, x.1.val.size ≤ C) → tx.size ≤ B → ∀ x ∈ yGK num tx op l, x.1.val.size ≤ C + op.length * B
 | [], _, _, h, _ => fun x hx => by simpa using h x hx
 | k :: r, l, C, h, hB => fun x hx => by
  have := yMH (op := r) (l := l.modify k.toNat (onV (yCy num tx))) (C := C + B) (fun y hy => by
   obtain ⟨z, hz, e | e⟩ := yBu hy
   ·rw [e]; have := h z hz; omega
   ·rw [e]; have := h z hz; show (z.1.val ++ tx).size ≤ _; rw [ByteArray.size_append]; omega) hB x hx
  rw [List.length_cons, Nat.add_mul]; omega
theorem yGq (es : List EvD) : ∀ i, (yAg es i).op.length ≤ i
 | 0 => jr _
 | i + 1 => by
  have h := yGq es i; show (yBJ (yAg es i) i (es.getD i ze)).op.length ≤ i + 1; unfold yBJ; split
  ·show (yAg es i).op.dropLast.length ≤ _; rw [List.length_dropLast]; omega
  ·split
   ·show ((yAg es i).op ++ [_]).length ≤ _; rw [jp]; exact Nat.succ_le_succ h
   ·exact Nat.le_succ_of_le h
theorem ySd {es : List EvD} {w : World} {i B k : Nat} {l : List NV} {op : List Int} (h : NdR es w i l op) (hz : yM5 es B i) {x0 : NV} {num : Int} {tx : ByteArray} (h0 : x0.1.val.size ≤ B) (htx : tx.size ≤ B) : ∀ x ∈ yGK num tx (op.take k) (l ++ [x0]), x.1.val.size ≤ (i + 1) * B + i * B := by
 intro x hx; have h2 := yMH (C := (i + 1) * B) (fun y hy => by
  rcases List.mem_append.1 hy with h' | h'
  ·have := hz.val y.1 (by rw [← h.nodes]; exact List.mem_map_of_mem h'); rw [Nat.add_mul]; omega
  ·rw [List.mem_singleton] at h'; rw [h', Nat.add_mul, Nat.one_mul]; omega) htx x hx
 have h4 : (op.take k).length ≤ i := by rw [List.length_take]; have := yGq es i; rw [← h.op] at this; omega
 exact ju h2 (Nat.add_le_add_left (Nat.mul_le_mul_right B h4) _)
theorem yPg {α : Type} {f g : α → α} : ∀ (l : List α) (q : Nat), (l.modify q f).modify q g = l.modify q (fun x => g (f x))
 | [], q => by simp
 | x :: r, 0 => by simp
 | x :: r, q + 1 => by simp only [List.modify_succ_cons, yPg r q]
theorem yHX (num : Int) (tx : ByteArray) : ∀ (op : List Int) (l : List NV), (yGK num tx op l).length = l.length
 | [], _ => rfl
 | k :: r, l => by show (yGK num tx r (l.modify k.toNat (onV (yCy num tx)))).length = _; rw [yHX num tx r, List.length_modify]
theorem yFw {w : World} {f : NdD → NdD} (hf : ∀ x, (f x).ev = x.ev) {l : List NV} (h : ∀ x ∈ l, yAO w x.1.ev.ats x.2.1 x.2.2.1 x.2.2.2) (q : Nat) : ∀ x ∈ l.modify q (onV f), yAO w x.1.ev.ats x.2.1 x.2.2.1 x.2.2.2 := fun x hx => by
 obtain ⟨y, hy, e | e⟩ := yBu hx
 ·rw [e]; exact h y hy
 ·rw [e]; show yAO w (f y.1).ev.ats _ _ _; rw [hf]; exact h y hy
theorem yMO {w : World} {num : Int} {tx : ByteArray} : ∀ {op : List Int} {l : List NV}, (∀ x ∈ l, yAO w x.1.ev.ats x.2.1 x.2.2.1 x.2.2.2) → ∀ x ∈ yGK num tx op l, yAO w x.1.ev.ats x.2.1 x.2.2.1 x.2.2.2
 | [], _, h => h
 | k :: r, _, h => yMO (op := r) (yFw (f := yCy num tx) (fun _ => rfl) h k.toNat)
theorem yHw {es : List EvD} {i : Nat} {s : CkS} {fs : List FrS} {e : EvD} (hr : yCV nd0 es i s fs) (hn : yAI s e = true) (hk : e.kd = 2) : 0 ≤ e.num ∧ e.num < (yAg es i).nodes.length ∧ e.num = yAB (yAg es i).op ∧ (yAg es i).op ≠ [] := by
 unfold yAI at hn; rw [if_neg (by omega), if_neg (by omega), if_pos hk] at hn; simp only [jb, yFr, decide_eq_true_eq, Bool.not_eq_true'] at hn; obtain ⟨hdn, hos, ⟨⟨⟨⟨hnum, _⟩, _⟩, _⟩, _⟩⟩ := hn; have hlo := yIE hr; have hne : (yAg es i).op ≠ [] := fun hx => by rw [hx] at hlo; simp at hlo; omega
 have hnp : e.num = yAB (yAg es i).op := by rw [hnum]; unfold yAB; rw [if_neg (by omega), hlo, hr.os, getD_map (by omega) zo]
 have hrg := hr.ok.rng _ (yGR hne); rw [← hnp] at hrg; exact ⟨hrg.1, hrg.2, hnp, hne⟩
theorem yH1 {es : List EvD} {i : Nat} {s : CkS} {fs : List FrS} {e : EvD} (hr : yCV nd0 es i s fs) (hn : yAI s e = true) (hk : e.kd ≠ 2) : e.num = (yAg es i).nodes.length ∧ (e.kd = 0 ∨ e.kd = 1) ∧ ∀ m ∈ (yAg es i).op, 0 ≤ m ∧ m < (yAg es i).nodes.length := by
 unfold yAI at hn; rw [jb] at hn; have hn := hn.2; refine ⟨?_, ?_, hr.ok.rng⟩
 ·by_cases h0 : e.kd = 0
  ·rw [if_pos h0] at hn; simp only [yDe, jb, decide_eq_true_eq] at hn; rw [hn.1.1.1.1.1, hr.num]
  ·rw [if_neg h0] at hn; by_cases h1' : e.kd = 1
   ·rw [if_pos h1'] at hn; simp only [yCR, jb, decide_eq_true_eq] at hn; rw [hn.1.1.1.1.1.1.1, hr.num]
   ·rw [if_neg h1', if_neg hk] at hn; cases hn
 ·by_cases h0 : e.kd = 0
  ·exact .inl h0
  ·by_cases h1 : e.kd = 1
   ·exact .inr h1
   ·rw [if_neg h0, if_neg h1, if_neg hk] at hn; cases hn
theorem ySb {w : World} {B g cap p : Nat} {T : TypeId} {op : List Int} (hp : op.length = p + 1) (h : Row w B T .i64 (.slice (some ⟨g, 0, none⟩) (p + 1) cap) op) : Row w B T .i64 (.slice (some ⟨g, 0, none⟩) p cap) op.dropLast := by
 have hne : op ≠ [] := fun e => by rw [e] at hp; cases hp
 have hl : op.dropLast.length = p := by rw [List.length_dropLast, hp]; rfl
 have h2 : op.map (Value.int .i64) = op.dropLast.map (Value.int .i64) ++ [Value.int .i64 (op.getLast hne)] := by
  conv => lhs; rw [← List.dropLast_concat_getLast hne]
  rw [List.map_append]; rfl
 unfold Row at h ⊢; rw [h2, hp] at h; rw [hl]; exact ownsRow_pop (by rw [List.length_map, hl, Nat.mul_one]) h
structure yTC (W W0 : World) (x : EvD) (b o : Nat) : Prop where
 lt : b < W.heap.size
 c0 : W.cell? ⟨b, o, none⟩ = some (.int .i64 x.kd)
 c1 : W.cell? ⟨b, o + 1, none⟩ = some (.int .i64 x.num)
 c2 : W.cell? ⟨b, o + 2, none⟩ = some (.int .i64 x.dep)
 c3 : W.cell? ⟨b, o + 3, none⟩ = some (.string x.nm)
 c4 : ∃ a n c, W.cell? ⟨b, o + 4, none⟩ = some (.slice a n c) ∧ yAO W0 x.ats a n c
 c5 : W.cell? ⟨b, o + 5, none⟩ = some (.string x.tx)
 c6 : W.cell? ⟨b, o + 6, none⟩ = some (.int .i64 x.fr)
 c7 : W.cell? ⟨b, o + 7, none⟩ = some (.int .i64 x.tu)
structure yDl (W W0 : World) (es : List EvD) (a : Option Addr) (n cap : Nat) : Prop where
 len : es.length = n
 le : n ≤ cap
 cap_le : cap ≤ maxLen
 fit : ∀ j, j < n → ∃ b o, a = some ⟨b, o, none⟩ ∧ ∀ (i : Nat) (x : EvD), es[i]? = some x → yTC W W0 x b (o + i * 8)
theorem yDl.now {W W0 : World} {es : List EvD} {a : Option Addr} {n cap : Nat} (h : yDl W W0 es a n cap) (hb : Below W0.heap.size W0 W) : yC4 W es a n cap :=
 ⟨h.len, h.le, h.cap_le, fun j hj => by obtain ⟨b, o, e, k⟩ := h.fit j hj; refine ⟨b, o, e, fun i x hx => ?_⟩; obtain ⟨l, c0, c1, c2, c3, ⟨a4, n4, p4, c4, hA⟩, c5, c6, c7⟩ := k i x hx; exact ⟨l, c0, c1, c2, c3, ⟨a4, n4, p4, c4, hA.below hb⟩, c5, c6, c7⟩⟩
theorem yDl.below {W W' W0 : World} {es : List EvD} {a : Option Addr} {n cap : Nat} (h : yDl W W0 es a n cap) (hb : Below W.heap.size W W') : yDl W' W0 es a n cap :=
 ⟨h.len, h.le, h.cap_le, fun j hj => by
  obtain ⟨b, o, e, k⟩ := h.fit j hj; refine ⟨b, o, e, fun i x hx => ?_⟩; obtain ⟨l, c0, c1, c2, c3, ⟨a4, n4, p4, c4, hA⟩, c5, c6, c7⟩ := k i x hx; have hc : ∀ m, W'.cell? ⟨b, m, none⟩ = W.cell? ⟨b, m, none⟩ := fun m => hb.cell (p := ⟨b, m, none⟩) l
  exact ⟨jt l hb.size, (hc _).trans c0, (hc _).trans c1, (hc _).trans c2, (hc _).trans c3, ⟨a4, n4, p4, (hc _).trans c4, hA⟩, (hc _).trans c5, (hc _).trans c6, (hc _).trans c7⟩⟩
theorem yPB {W W0 : World} {es : List EvD} {a : Option Addr} {n cap : Nat} (h : yC4 W0 es a n cap) (hb : Below W0.heap.size W0 W) : yDl W W0 es a n cap :=
 ⟨h.len, h.le, h.cap_le, fun j hj => by
  obtain ⟨b, o, e, k⟩ := h.fit j hj; refine ⟨b, o, e, fun i x hx => ?_⟩; obtain ⟨l, c0, c1, c2, c3, ⟨a4, n4, p4, c4, hA⟩, c5, c6, c7⟩ := k i x hx; have hc : ∀ m, W.cell? ⟨b, m, none⟩ = W0.cell? ⟨b, m, none⟩ := fun m => hb.cell (p := ⟨b, m, none⟩) l
  exact ⟨jt l hb.size, (hc _).trans c0, (hc _).trans c1, (hc _).trans c2, (hc _).trans c3, ⟨a4, n4, p4, (hc _).trans c4, hA⟩, (hc _).trans c5, (hc _).trans c6, (hc _).trans c7⟩⟩
theorem yNh {es : List EvD} {ea : Option Addr} {en ec : Nat} (w : World) {w0 : World} (hE0 : yDl w w0 es ea en ec) (hb0 : Below w0.heap.size w0 w) {sE : CkS} (hall : yA6 ck0 es = some sE) (hB : ∀ e ∈ es, e.tx.size ≤ 1048576) (hen : en ≤ 4096) :
  Calls Tryz.prog 49 #[.slice ea en ec] w fun e w' => ∃ v l, e = .returned v ∧ w'.ownsRow w.heap.size 145 13 v l.length (l.flatMap cN) ∧ NdR es w0 en l (yAg es en).op ∧ Below w.heap.size w w' := by
 have hE := hE0.now hb0; have HE0 := jh hE0; have HL := jh hE.len; have HALL := jh hall; have HSZ : Hid (∀ i, i ≤ en → yM5 es 1048576 i) := jh fun i hi => yK1 hall hB i (by rw [hE.len]; exact hi)
 have HTX := jh hB; have hle := hE.le; have hcl := hE.cap_le; clear hE hE0 hb0 hall hB; go_enter Tryz.func49, Tryz.ntmps49; go_wp2_with fail; go_loopw [3, 4, 5] (fun v3 v4 v5 wr => ∃ (i : Nat) (l : List NV) (op : List Int), v5 = .int .i64 i ∧ i ≤ en ∧ Hid (NdR es w0 i l op) ∧ Below w.heap.size w wr ∧ wr.ownsRow w.heap.size 145 13 v3 l.length (l.flatMap cN) ∧ Row wr w.heap.size 3 .i64 v4 op ∧ (∀ g, v3.ownBlock = some g → v4.ownBlock ≠ some g)) (fun _ _ v5 _ => en - (intOf v5).toNat)
 case atStart => exact ⟨0, [], [], rfl, jz _, jh ⟨rfl, rfl, fun _ h => by cases h⟩, jf _ _, World.ownsRow_nil _ _ _ _, World.ownsRow_nil _ _ _ _, fun _ h => by cases h⟩
 case round =>
  obtain ⟨i, l, op, rfl, hi, HR, hb9, hrl, hro, hap⟩ := hrel; by_cases hin : i < en
  ·have hin' : (i : Int) < en := by omega
   obtain ⟨e, he⟩ : ∃ e, es[i]? = some e := ⟨_, jk (by rw [HL.out]; exact hin)⟩
   obtain ⟨s, fs, hbg, hrun⟩ := yEY HALL.out i (by rw [HL.out]; omega); obtain ⟨t, t1, hnx, t3⟩ := yCC HALL.out he; rw [hbg] at t1; injection t1 with t1
   subst t1; obtain ⟨b, o, rfl, hfit⟩ := (HE0.out.below hb9).fit i hin; have hF := hfit i e he; obtain ⟨aa, an, ac, c4, hA⟩ := hF.c4; have htx := HTX.out e (List.mem_of_getElem? he); obtain ⟨kd, nu, dp, nm, ats, tx, fr, tu⟩ := e; obtain ⟨hbl, c0, c1, c2, c3, _, c5, c6, c7⟩ := hF; simp only at c0 c1 c2 c3 c5 c6 c7 hA htx; obtain ⟨X, hX⟩ := je (wr.heap.size); obtain ⟨W5, hW5⟩ := je (wr.alloc (.cells #[.int .i64 kd, .int .i64 nu, .int .i64 dp, .string nm, .slice aa an ac, .string tx, .int .i64 fr, .int .i64 tu] 45)); have hX5 : W5.heap[X]? = some (.cells #[.int .i64 kd, .int .i64 nu, .int .i64 dp, .string nm, .slice aa an ac, .string tx, .int .i64 fr, .int .i64 tu] 45) := by rw [← hW5, ← hX]; exact jw _ _
   have hb5 : Below wr.heap.size wr W5 := by rw [← hW5]; exact (jf _ _).alloc (jr _) _
   have hrl5 : W5.ownsRow w.heap.size 145 13 u3 l.length (l.flatMap cN) := by rw [← hW5]; exact World.ownsRow.alloc hrl _
   have hro5 : Row W5 w.heap.size 3 .i64 u4 op := by rw [← hW5]; exact World.ownsRow.alloc hro _
   have HLT3 : Hid (∀ g, u3.ownBlock = some g → g < X) := jh fun g hg => by rw [← hX]; exact (World.ownsRow.lt hrl g hg).2
   have HLT4 : Hid (∀ g, u4.ownBlock = some g → g < X) := jh fun g hg => by rw [← hX]; exact (World.ownsRow.lt (show wr.ownsRow w.heap.size 3 1 u4 op.length (op.map (Value.int .i64)) from hro) g hg).2
   have HW5 := jh hW5; have HX5 := jh hX5; have HXX := jh hX; have HB5 := jh (hb9.trans (hb5.mono hb9.size)); have hnl : l.length = (yAg es i).nodes.length := by rw [← HR.out.nodes, List.length_map]
   obtain ⟨ln, hln⟩ := je (l.length); obtain ⟨pn, hpn⟩ := je (op.length); rw [hln] at hrl5 hnl; obtain ⟨a3, cp3, e3, h31, h32, h33⟩ := yAb hrl5; obtain ⟨a4, cp4, e4, h41, h42, h43⟩ := yAb (show W5.ownsRow w.heap.size 3 1 u4 op.length (op.map (Value.int .i64)) from hro5); rw [hpn] at e4 h41 h43; subst e3 e4; have z0 := jc hX5 0 rfl; have z1 := jc hX5 1 rfl; have z2 := jc hX5 2 rfl; have z3 := jc hX5 3 rfl; have z4 := jc hX5 4 rfl; have z5 := jc hX5 5 rfl; have z6 := jc hX5 6 rfl; have z7 := jc hX5 7 rfl; have hXs : X < W5.heap.size := jl hX5; have HA := jh hA; have HE2 := jh he; have HRUN := jh hrun; have HNX := jh hnx; have HLN := jh hln; have HPN := jh hpn; have HRL := jh hrl5; have HRO := jh hro5; have HAP := jh hap; have HTX2 := jh htx; have HNL := jh hnl; clear hfit hA he hrun hnx hX5 hW5 hb5 hb9 hrl hro hap hrl5 hro5 hbg t3 htx hnl hln hpn; go_upto_region 7 with fail
   rw [HW5.out]; clear c0 c1 c2 c3 c4 c5 c6 c7 hX hbl; by_cases hk2 : kd = 2
   ·subst hk2; obtain ⟨q0, q1, q2, q3⟩ := yHw HRUN.out HNX.out rfl; simp only at q0 q1 q2; rw [← HR.out.op] at q2 q3; rw [← HNL.out] at q1; obtain ⟨q, rfl⟩ := Int.eq_ofNat_of_zero_le q0; have hql : q < ln := by omega
    have hql' : (q : Int) < ln := by omega
    obtain ⟨g3, rfl, hg3, hg3s⟩ := h33 q hql; have hpn0 : 0 < pn := by rw [← HPN.out]; exact List.length_pos_iff.2 q3
    obtain ⟨g4, rfl, hg4, hg4s⟩ := h43 0 hpn0; obtain ⟨p, hp⟩ : ∃ p, pn = p + 1 := ⟨pn - 1, by omega⟩
    have hp1 : op.length = p + 1 := by rw [HPN.out, hp]
    have hne : g4 ≠ g3 := fun e => HAP.out g3 rfl (by rw [e]; rfl)
    have k11 : W5.cell? ⟨g3, q * 13 + 11, none⟩ = some (.int .i64 (l.getD q zv).1.clo) := yAq HRL.out (yG6 (j := 11) (by rw [HLN.out]; exact hql) (by decide)); have zf := yEx HRL.out (q * 13 + 11); have hset : (l.flatMap cN).set (q * 13 + 11) (.int .i64 (i : Int)) = (l.modify q (onV (yAP i))).flatMap cN := yF3 (f := onV (yAP i)) (by rw [HLN.out]; exact hql) rfl (by decide); have HS3 : Hid ((W5.setCell ⟨g3, q * 13 + 11, none⟩ (.int .i64 (i : Int))).ownsRow w.heap.size 145 13 (.slice (some ⟨g3, 0, none⟩) ln cp3) (l.modify q (onV (yAP i))).length ((l.modify q (onV (yAP i))).flatMap cN)) := jh (by have := (World.ownsRow.stored HRL.out (q * 13 + 11) (.int .i64 (i : Int))).1; rw [hset] at this; rw [List.length_modify, HLN.out]; exact this); have HS4 : Hid (Row (W5.setCell ⟨g3, q * 13 + 11, none⟩ (.int .i64 (i : Int))) w.heap.size 3 .i64 (.slice (some ⟨g4, 0, none⟩) p cp4) op.dropLast) := jh (by
     refine ySb hp1 ?_; rw [← hp]; exact yAa HRO.out fun g hg => by injection hg with hg; subst hg; exact js _ _ _ _ hne)
    have HNR : Hid (NdR es w0 (i + 1) (l.modify q (onV (yAP i))) op.dropLast) := jh (by
     have en : yAg es (i + 1) = ⟨(yAg es i).nodes.modify q (yAP i), (yAg es i).op.dropLast⟩ := by rw [yBY HE2.out]; rfl
     exact ⟨by rw [yKF, HR.out.nodes, en], by rw [HR.out.op, en], yFw (f := yAP i) (fun _ => rfl) HR.out.fit q⟩)
    have HBS := jh (HB5.out.setCell (p := ⟨g3, q * 13 + 11, none⟩) hg3 (.int .i64 (i : Int))); have hcap4 := HPN.out; have f1 : IntKind.i64.wrap ((pn : Int) - 1) = (p : Int) := by rw [show (pn : Int) - 1 = (p : Int) by omega]; exact IntWalk.i64_in _ (by have := h41; unfold maxLen at h42; omega)
    have f5 : (p : Int) < pn := by omega
    have f6 : (p : Int) ≤ cp4 := by omega
    clear q0 q1 q2 q3 hset hpn0 hql hp hp1 hcap4; go_wp2_with fail; go_roundw
    case rel => exact ⟨i + 1, _, _, by go_num, hin, HNR.out, HBS.out, HS3.out, HS4.out, fun g hg hg2 => hne ((Option.some.inj (show some g4 = some g from hg2)).trans (Option.some.inj (show some g3 = some g from hg)).symm)⟩
    case measure => simp [intOf]; omega
   ·obtain ⟨q0, q1, q2⟩ := yH1 HRUN.out HNX.out hk2; simp only at q0 q1; rw [← HNL.out] at q0 q2; rw [← HR.out.op] at q2; subst q0; have hk2' : (kd == 2) = false := by simpa using hk2
    have HQ2 := jh q2; have HQ1 := jh q1; have HK2 := jh hk2; clear q1 q2 hk2; go_upto_if 42 with fail; obtain ⟨Y, hY⟩ := je (W5.heap.size); obtain ⟨W6, hW6⟩ := je (W5.alloc (.cells #[.int .i64 kd, .int .i64 ln, .int .i64 dp, .string nm, .slice aa an ac, .string tx, .int .i64 fr, .int .i64 tu, .int .i64 (yAB op), .int .i64 ln, .int .i64 i, .int .i64 (-1), .string tx] 145)); have HW6 := jh hW6; clear hW6; rw [hY]; go_cut [] from 42 to 49 (fun wx => wx = W6)
    case first =>
     by_cases hp0 : pn = 0
     ·have HP : Hid (yAB op = -1) := jh (by unfold yAB; rw [if_pos (by rw [HPN.out]; exact hp0)]); subst hp0; go_wp2_with fail; go_meet
      case rel =>
      rw [← HW6.out, HP.out]
     ·have hpl : (op.getD (pn - 1) 0) = yAB op := by unfold yAB; rw [if_neg (by rw [HPN.out]; exact hp0), HPN.out]
      have hpn1 : pn - 1 < pn := by omega
      obtain ⟨g4, rfl, hg4, hg4s⟩ := h43 0 (by omega); have f1 : decide (0 < pn) = true := by simpa using (show 0 < pn by omega)
      have f2 : IntKind.i64.wrap ((pn : Int) - 1) = ((pn - 1 : Nat) : Int) := by rw [show (pn : Int) - 1 = ((pn - 1 : Nat) : Int) by omega]; exact IntWalk.i64_in _ (by have := h41; unfold maxLen at h42; omega)
      have f3 : ((pn - 1 : Nat) : Int) < pn := by omega
      have y0 : W5.cell? ⟨g4, pn - 1, none⟩ = some (.int .i64 (yAB op)) := yAq (show W5.ownsRow w.heap.size 3 1 (.slice (some ⟨g4, 0, none⟩) pn cp4) pn (op.map (Value.int .i64)) from by have := HRO.out; unfold Row at this; rw [HPN.out] at this; exact this) (by rw [List.getElem?_map, yAi (by rw [HPN.out]; exact hpn1) 0, hpl]; rfl); subst hY; obtain ⟨pm, hpm⟩ := je (pn - 1); rw [hpm] at f2 f3 y0 hpn1; clear hp0 hpl hpm; go_wp2_with fail; go_meet
      case rel =>
      exact HW6.out
    case rest =>
    rw [hcut]; clear hcut; have hX6 : W6.heap[Y]? = some (.cells #[.int .i64 kd, .int .i64 ln, .int .i64 dp, .string nm, .slice aa an ac, .string tx, .int .i64 fr, .int .i64 tu, .int .i64 (yAB op), .int .i64 ln, .int .i64 i, .int .i64 (-1), .string tx] 145) := by rw [← HW6.out, ← hY]; exact jw _ _
    have hb6 : Below W5.heap.size W5 W6 := by rw [← HW6.out]; exact (jf _ _).alloc (jr _) _
    have hrl6 : W6.ownsRow w.heap.size 145 13 (.slice a3 ln cp3) ln (l.flatMap cN) := by rw [← HW6.out]; exact World.ownsRow.alloc HRL.out _
    have hro6 : Row W6 w.heap.size 3 .i64 (.slice a4 pn cp4) op := by rw [← HW6.out]; exact World.ownsRow.alloc HRO.out _
    have hXY : X < Y := by rw [← hY]; exact hXs
    have hYs : Y < W6.heap.size := jl hX6; have HX60 := jh ((hb6.cell (p := ⟨X, 0, none⟩) hXs).trans z0); have HX61 := jh ((hb6.cell (p := ⟨X, 1, none⟩) hXs).trans z1); have HX65 := jh ((hb6.cell (p := ⟨X, 5, none⟩) hXs).trans z5); have HB6 := jh (HB5.out.trans (hb6.mono HB5.out.size)); have hwc6 : w.heap.size ≤ W6.heap.size := HB6.out.size; have HRO6 := jh hro6; obtain ⟨x0, hx0⟩ : ∃ x0 : NV, x0 = (⟨⟨kd, ln, dp, nm, ats, tx, fr, tu⟩, yAB op, ln, i, -1, tx⟩, aa, an, ac) := ⟨_, rfl⟩
    have hcx : cN x0 = [.int .i64 kd, .int .i64 ln, .int .i64 dp, .string nm, .slice aa an ac, .string tx, .int .i64 fr, .int .i64 tu, .int .i64 (yAB op), .int .i64 ln, .int .i64 i, .int .i64 (-1), .string tx] := by rw [hx0]; rfl
    have hcx1 : ∀ u ∈ ([.int .i64 kd, .int .i64 ln, .int .i64 dp, .string nm, .slice aa an ac, .string tx, .int .i64 fr, .int .i64 tu, .int .i64 (yAB op), .int .i64 ln, .int .i64 i, .int .i64 (-1), .string tx] : List Value), u.oneCell' = true := by rw [← hcx]; exact yTc _
    have HX0 := jh hx0; have HCX := jh hcx; have HY := jh hY; have y0 := jc hX6 0 rfl; have y1 := jc hX6 1 rfl; have y2 := jc hX6 2 rfl; have y3 := jc hX6 3 rfl; have y4 := jc hX6 4 rfl; have y5 := jc hX6 5 rfl; have y6 := jc hX6 6 rfl; have y7 := jc hX6 7 rfl; have y8 := jc hX6 8 rfl; have y9 := jc hX6 9 rfl; have y10 := jc hX6 10 rfl; have y11 := jc hX6 11 rfl; have y12 := jc hX6 12 rfl; have hlnb : ln < 1073741824 := by have := (HSZ.out i hi).len; rw [← HNL.out] at this; omega
    clear z0 z1 z2 z3 z4 z5 z6 z7 hX6 hb6 hx0 hY hro6 hcx; go_wp2_with (at_builtin; refine yQT W6 rfl _ _ 76 145 rfl _ 13 144 yQj Tryz.underlying76 (by rfl) (by decide) (by decide) w.heap.size (.slice a3 ln cp3) ln (l.flatMap cN) rfl hrl6 [.int .i64 kd, .int .i64 ln, .int .i64 dp, .string nm, .slice aa an ac, .string tx, .int .i64 fr, .int .i64 tu, .int .i64 (yAB op), .int .i64 ln, .int .i64 i, .int .i64 (-1), .string tx] (by rfl) (hcx1) rfl (by omega) hwc6 ?_; intro v3 w3 own3 grow3 at3; obtain ⟨a7, c7, rfl, h71, h72, h73⟩ := yAb own3; have OWN := jh own3; have GROW := jh grow3; have AT := jh at3; clear own3 grow3 at3 y0 y1 y2 y3 y4 y5 y6 y7 y8 y9 y10 y11 y12)
    set_option linter.unusedVariables false in
    obtain ⟨LN, hLN⟩ := je (ln + 1); have hg7 : ∃ g, a7 = some ⟨g, 0, none⟩ ∧ w.heap.size ≤ g ∧ g < w3.heap.size := h73 0 (by omega)
    obtain ⟨g7, rfl, hg7, hg7s⟩ := hg7; have OWN3 : Hid (w3.ownsRow w.heap.size 145 13 (.slice (some ⟨g7, 0, none⟩) LN c7) LN ((l ++ [x0]).flatMap cN)) := jh (by have := OWN.out; rw [← HCX.out] at this; rw [List.flatMap_append, List.flatMap_singleton, ← hLN]; exact this); have H7 : Hid (some g7 = (Value.slice a3 ln cp3).ownBlock ∨ Y < g7) := jh (by
     rcases AT.out with h | h
     ·exact .inl h
     ·right; have h := Option.some.inj (show some g7 = some (W6.heap.size + 1) from h); rw [h]; exact Nat.lt_succ_of_lt hYs)
    have hX7 : w3.heap[X]? = W6.heap[X]? := GROW.out.block X (Nat.lt_trans hXY hYs) (fun e => Nat.lt_irrefl X (HLT3.out X e.symm)); have HRO7 : Hid (Row w3 w.heap.size 3 .i64 (.slice a4 pn cp4) op) := jh (yAa HRO6.out fun g hg => GROW.out.block g (Nat.lt_trans (Nat.lt_trans (HLT4.out g hg) hXY) hYs) (fun e => HAP.out g e.symm hg)); have hgX : g7 ≠ X := by
     rcases H7.out with h | h
     ·exact Nat.ne_of_lt (HLT3.out g7 h.symm)
     ·omega
    have HG4 : Hid (∀ g, (Value.slice a4 pn cp4).ownBlock = some g → g ≠ g7 ∧ g < w3.heap.size) := jh fun g hg => by
     have hgl := HLT4.out g hg; have := GROW.out.size; refine ⟨fun e => ?_, by omega⟩; rcases H7.out with h | h
     ·rw [← e] at h; exact HAP.out g h.symm hg
     ·omega
    have hXs7 : X < w3.heap.size := by have := GROW.out.size; omega
    have HX0' := jh ((World.cell?_of_block (a := ⟨X, 0, none⟩) hX7).trans HX60.out); have HX1' := jh ((World.cell?_of_block (a := ⟨X, 1, none⟩) hX7).trans HX61.out); have HX5' := jh ((World.cell?_of_block (a := ⟨X, 5, none⟩) hX7).trans HX65.out); have HB7 := jh (HB6.out.grown GROW.out hwc6 (fun k hk => (World.ownsRow.lt hrl6 k hk).1)); have HL1 : Hid ((l ++ [x0]).length = LN) := jh (by rw [jp, HLN.out]; exact hLN); rw [hLN] at h71; clear hX7 hrl6 h73 h33 hXY hYs hXs; go_loopw [8] (fun v8 wq => ∃ k : Nat, v8 = .int .i64 k ∧ k ≤ pn ∧ Hid (∀ b, b ≠ g7 → b < w3.heap.size → wq.heap[b]? = w3.heap[b]?) ∧ w3.heap.size ≤ wq.heap.size ∧ Hid (Below w.heap.size w wq) ∧ Hid (wq.ownsRow w.heap.size 145 13 (.slice (some ⟨g7, 0, none⟩) LN c7) LN ((yGK ln tx (op.take k) (l ++ [x0])).flatMap cN))) (fun v8 _ => pn - (intOf v8).toNat)
    case atStart => exact ⟨0, rfl, jz _, jh fun _ _ _ => rfl, jr _, HB7, OWN3⟩
    case round =>
     revert hrel; revert wr; intro wq hrel; obtain ⟨k, rfl, hkp, HSM, hszq, HBQ, HRW⟩ := hrel; by_cases hk : k < pn
     ·have hk' : (k : Int) < pn := by omega
      have hkm : op.getD k 0 ∈ op := yCS (by rw [HPN.out]; exact hk); obtain ⟨q0, q2⟩ := HQ2.out _ hkm; obtain ⟨q, hq⟩ := Int.eq_ofNat_of_zero_le q0; rw [hq] at q2; have hqL : q < LN := by omega
      have hqL' : (q : Int) < LN := by omega
      obtain ⟨g4, rfl, hg4, hg4s⟩ := h43 0 (by omega); obtain ⟨h47, h4s⟩ := HG4.out g4 rfl; have hbX := HSM.out X hgX.symm hXs7; have y1 : wq.cell? ⟨X, 1, none⟩ = some (.int .i64 ln) := (World.cell?_of_block (a := ⟨X, 1, none⟩) hbX).trans HX1'.out; have y5 : wq.cell? ⟨X, 5, none⟩ = some (.string tx) := (World.cell?_of_block (a := ⟨X, 5, none⟩) hbX).trans HX5'.out; have y4 : wq.cell? ⟨g4, k, none⟩ = some (.int .i64 q) := (World.cell?_of_block (a := ⟨g4, k, none⟩) (HSM.out g4 h47 h4s)).trans (yAq (show w3.ownsRow w.heap.size 3 1 (.slice (some ⟨g4, 0, none⟩) pn cp4) pn (op.map (Value.int .i64)) from by have := HRO7.out; unfold Row at this; rw [HPN.out] at this; exact this) (by rw [List.getElem?_map, yAi (by rw [HPN.out]; exact hk) 0, hq]; rfl)); obtain ⟨lk, hlk⟩ := je (yGK ln tx (op.take k) (l ++ [x0])); have hlkl : lk.length = LN := by rw [← hlk, yHX, HL1.out]
      have HRW' := jh (show wq.ownsRow w.heap.size 145 13 (.slice (some ⟨g7, 0, none⟩) LN c7) LN (lk.flatMap cN) by rw [← hlk]; exact HRW.out); have y12 : wq.cell? ⟨g7, q * 13 + 12, none⟩ = some (.string (lk.getD q zv).1.val) := yAq HRW'.out (yG6 (j := 12) (by rw [hlkl]; exact hqL) (by decide)); have y9 : wq.cell? ⟨g7, q * 13 + 9, none⟩ = some (.int .i64 (lk.getD q zv).1.last) := yAq HRW'.out (yG6 (j := 9) (by rw [hlkl]; exact hqL) (by decide)); have zf := yEx HRW'.out (q * 13 + 9); have zf2 := yEx HRW'.out (q * 13 + 12); have HLK := jh hlk; have HLKL := jh hlkl; have HQK : Hid (op.take (k + 1) = op.take k ++ [(q : Int)]) := jh (by rw [List.take_add_one, yAi (by rw [HPN.out]; exact hk) 0, hq]; rfl); clear hq q0 q2 hkm hbX hlk hlkl; go_upto_region 17 with fail; go_region; go_upto_region 18 with fail; obtain ⟨W8, hW8⟩ := je ((wq.setCell ⟨g7, q * 13 + 9, none⟩ (.int .i64 ln)).drew); rw [hW8]; have hb8 : ∀ b, b ≠ g7 → W8.heap[b]? = wq.heap[b]? := fun b hb => by rw [← hW8]; exact js _ _ _ _ hb
      have HR8 : Hid (W8.ownsRow w.heap.size 145 13 (.slice (some ⟨g7, 0, none⟩) LN c7) LN ((lk.modify q (onV fun n => { n with last := (ln : Int) })).flatMap cN)) := jh (by rw [← hW8]; have := (World.ownsRow.stored HRW'.out (q * 13 + 9) (.int .i64 (ln : Int))).1; rw [yF3 (f := onV fun n => { n with last := (ln : Int) }) (by rw [HLKL.out]; exact hqL) rfl (by decide)] at this; exact yAa this fun g _ => rfl); obtain ⟨lk2, hlk2⟩ := je ((lk.modify q (onV fun n => { n with last := (ln : Int) }))); rw [hlk2] at HR8; have hlk2l : lk2.length = LN := by rw [← hlk2, List.length_modify, HLKL.out]
      have hs8 : W8.heap.size = wq.heap.size := by rw [← hW8]; simp
      have z5 : W8.cell? ⟨X, 5, none⟩ = some (.string tx) := (World.cell?_of_block (a := ⟨X, 5, none⟩) (hb8 X hgX.symm)).trans y5; have z4 : W8.cell? ⟨g4, k, none⟩ = some (.int .i64 q) := (World.cell?_of_block (a := ⟨g4, k, none⟩) (hb8 g4 h47)).trans y4; have z12 : W8.cell? ⟨g7, q * 13 + 12, none⟩ = some (.string (lk2.getD q zv).1.val) := yAq HR8.out (yG6 (j := 12) (by rw [hlk2l]; exact hqL) (by decide)); have zf3 := yEx HR8.out (q * 13 + 12); have hvs : (lk2.getD q zv).1.val.size + tx.size ≤ 9223372036854775807 := by
       have h1 : (lk2.getD q zv) ∈ lk2 := List.mem_of_getElem? (yAi (by rw [hlk2l]; exact hqL) zv); have h2 := ySd (k := k) (num := (ln : Int)) HR.out (HSZ.out i hi) (x0 := x0) (by rw [HX0.out]; exact HTX2.out) HTX2.out; rw [HLK.out] at h2; have h3 : (lk2.getD q zv).1.val.size ≤ (i + 1) * 1048576 + i * 1048576 := by
        rw [← hlk2] at h1 ⊢; obtain ⟨z, hz, e | e⟩ := yBu h1
        ·rw [e]; exact h2 z hz
        ·rw [e]; exact h2 z hz
       have := HTX2.out; omega
      obtain ⟨vq, hvq⟩ := je ((lk2.getD q zv).1.val); rw [hvq] at hvs z12; have hvs2 : ¬ 9223372036854775807 < vq.size + tx.size := by omega
      have HVQ := jh hvq; clear hvq; have HB8 : Hid (Below w.heap.size w W8) := jh (by rw [← hW8]; exact (HBQ.out.setCell (p := ⟨g7, q * 13 + 9, none⟩) hg7 _).drew); have HLK2 := jh hlk2; have HLK2L := jh hlk2l; have HS8 := jh (show w3.heap.size ≤ W8.heap.size by rw [hs8]; exact hszq); have f10 : IntKind.i64.wrap ((k : Int) + 1) = (k : Int) + 1 := IntWalk.i64_in _ (by have := h41; unfold maxLen at h42; omega); have HEB8 := jh hb8; clear y1 y4 y5 y9 y12 zf zf2 hlk2 hlk2l hb8 hW8 hs8; go_region; go_wp2_with fail; go_roundw
      case rel =>
       refine ⟨k + 1, by go_num, hk, jh fun b hb hbs => ?_, ?_, jh ?_, jh ?_⟩
       ·exact ((js _ _ _ _ hb).trans (HEB8.out b hb)).trans (HSM.out b hb hbs)
       ·have := HS8.out; simpa using this
       ·exact (HB8.out.setCell (p := ⟨g7, q * 13 + 12, none⟩) hg7 _).drew
       ·have := (World.ownsRow.stored HR8.out (q * 13 + 12) (.string (vq ++ tx))).1; rw [yF3 (f := onV fun n => { n with val := n.val ++ tx }) (by rw [HLK2L.out]; exact hqL) (by rw [← HVQ.out]; rfl) (by decide), ← HLK2.out, yPg] at this; rw [HQK.out, yQL, HLK.out]; exact yAa this fun g _ => rfl
      case measure => simp [intOf]; omega
     ·have hkk : k = pn := by omega
      have htk : op.take k = op := jm (by rw [HPN.out, hkk]; exact jr _); obtain ⟨LK, hLK⟩ := je (yGK ln tx op (l ++ [x0])); have HRW' := jh (show wq.ownsRow w.heap.size 145 13 (.slice (some ⟨g7, 0, none⟩) LN c7) LN (LK.flatMap cN) by rw [← hLK]; have := HRW.out; rw [htk] at this; exact this); have hLKl : LK.length = LN := by rw [← hLK, yHX, HL1.out]
      have hbX := HSM.out X hgX.symm hXs7; have y0 : wq.cell? ⟨X, 0, none⟩ = some (.int .i64 kd) := (World.cell?_of_block (a := ⟨X, 0, none⟩) hbX).trans HX0'.out; have y1 : wq.cell? ⟨X, 1, none⟩ = some (.int .i64 ln) := (World.cell?_of_block (a := ⟨X, 1, none⟩) hbX).trans HX1'.out; have hLKm : LK.map (·.1) = yBK ln tx (yAg es i).op ((yAg es i).nodes ++ [yBF ⟨kd, ln, dp, nm, ats, tx, fr, tu⟩ i (yAg es i).op]) := by rw [← hLK, yLy, List.map_append, HR.out.nodes, HX0.out, ← HR.out.op]; rfl
      have hLKf : ∀ x ∈ LK, yAO w0 x.1.ev.ats x.2.1 x.2.2.1 x.2.2.2 := by
       rw [← hLK]; refine yMO fun x hx => ?_
       rcases List.mem_append.1 hx with h | h
       ·exact HR.out.fit x h
       ·rw [List.mem_singleton] at h; rw [h, HX0.out]; exact HA.out
      have hg7l : g7 < wq.heap.size := (World.ownsRow.lt HRW'.out g7 rfl).2; have hro : wq.ownsRow w.heap.size 3 1 (.slice a4 pn cp4) pn (op.map (Value.int .i64)) := by
       have := yAa HRO7.out fun g hg => HSM.out g (HG4.out g hg).1 (HG4.out g hg).2
       rw [HPN.out] at this; exact this
      rcases HQ1.out with hk0 | hk1
      ·subst hk0; have HNR : Hid (NdR es w0 (i + 1) LK (op ++ [(ln : Int)])) := jh (by
        have en : yAg es (i + 1) = ⟨yBK ln tx (yAg es i).op ((yAg es i).nodes ++ [yBF ⟨0, ln, dp, nm, ats, tx, fr, tu⟩ i (yAg es i).op]), (yAg es i).op ++ [(ln : Int)]⟩ := by rw [yBY HE2.out]; rfl
        exact ⟨by rw [hLKm, en], by rw [HR.out.op, en], hLKf⟩)
       have hwq : w.heap.size ≤ wq.heap.size := HBQ.out.size; have HLKL := jh hLKl; have hpnb : pn < 1073741824 := by have := yGq es i; rw [← HR.out.op, HPN.out] at this; omega
       have hk' : ¬ (k : Int) < pn := by omega
       clear hkk htk hLK hLKl hbX hLKm hLKf hkp HAP; go_wp2_with (at_builtin; refine yFQ wq rfl _ _ 53 3 rfl _ 1 8 yDT Tryz.underlying53 (by rfl) (by decide) (by decide) w.heap.size (.slice a4 pn cp4) pn (op.map (Value.int .i64)) rfl hro [.int .i64 ln] (by rfl) (by intro u hu; rw [List.mem_singleton] at hu; subst hu; rfl) rfl (by omega) hwq ?_; intro v4 w4 own4 grow4 at4; obtain ⟨a9, c9, rfl, _⟩ := yAb own4; have OWN4 := jh own4; have GROW4 := jh grow4; have AT4 := jh at4; clear own4 grow4 at4); go_roundw
       case rel =>
        have hb4 : w4.heap[g7]? = wq.heap[g7]? := GROW4.out.block g7 hg7l (fun e => (HG4.out g7 e.symm).1 rfl); refine ⟨i + 1, LK, _, by go_num, hin, HNR, HBQ.out.grown GROW4.out hwq (fun m hm => (World.ownsRow.lt hro m hm).1), ?_, ?_, fun g hg hg2 => ?_⟩
        ·rw [HLKL.out]; exact yAa HRW'.out fun g hg => by rw [← Option.some.inj (show some g7 = some g from hg)]; exact hb4
        ·have := OWN4.out; unfold Row; rw [jp, HPN.out, List.map_append]; exact this
        ·rw [← hg] at hg2; rcases AT4.out with h | h
         ·exact (HG4.out g7 (h.symm.trans (hg2.trans rfl))).1 rfl
         ·have h2 := Option.some.inj ((show some g7 = _ from hg2.symm).trans h); omega
       case measure => simp [intOf]; omega
      ·subst hk1; have hcl' : (LK.flatMap cN).set (ln * 13 + 11) (.int .i64 (i : Int)) = (LK.modify ln (onV (yAP i))).flatMap cN := yF3 (f := onV (yAP i)) (by rw [hLKl]; omega) rfl (by decide); have HNR : Hid (NdR es w0 (i + 1) (LK.modify ln (onV (yAP i))) op) := jh (by
        have en : yAg es (i + 1) = ⟨(yBK ln tx (yAg es i).op ((yAg es i).nodes ++ [yBF ⟨1, ln, dp, nm, ats, tx, fr, tu⟩ i (yAg es i).op])).modify ln (yAP i), (yAg es i).op⟩ := by rw [yBY HE2.out]; rfl
        exact ⟨by rw [yKF, hLKm, en], by rw [HR.out.op, en], yFw (f := yAP i) (fun _ => rfl) hLKf ln⟩)
       have HLKL := jh hLKl; have hk' : ¬ (k : Int) < pn := by omega
       have hlL : ln < LN := by omega
       have hlL' : (ln : Int) < LN := by omega
       have y11 : wq.cell? ⟨g7, ln * 13 + 11, none⟩ = some (.int .i64 (LK.getD ln zv).1.clo) := yAq HRW'.out (yG6 (j := 11) (by rw [hLKl]; exact hlL) (by decide)); have zf := yEx HRW'.out (ln * 13 + 11); have HSET := jh hcl'; clear hkk htk hLK hLKl hbX hLKm hLKf hkp HAP hcl'; go_wp2_with fail; go_roundw
       case rel =>
        refine ⟨i + 1, _, _, by go_num, hin, HNR, HBQ.out.setCell (p := ⟨g7, ln * 13 + 11, none⟩) hg7 _, ?_, ?_, fun g hg hg2 => ?_⟩
        ·have := (World.ownsRow.stored HRW'.out (ln * 13 + 11) (.int .i64 (i : Int))).1; rw [HSET.out] at this; rw [List.length_modify, HLKL.out]; rw [hLN]; exact this
        ·have h1 := yAa HRO7.out fun g hg => HSM.out g (HG4.out g hg).1 (HG4.out g hg).2
         exact yAa h1 fun g hg => js _ _ _ _ (HG4.out g hg).1
        ·rw [← hg] at hg2; exact (HG4.out g7 hg2).1 rfl
       case measure => simp [intOf]; omega
  ·obtain rfl : i = en := by omega
   have HB9 := jh hb9; have HRL := jh hrl; have HOP := jh HR.out.op; clear hb9 hrl hro hap; go_wp2_with fail; go_ret; exact ⟨_, l, rfl, HRL.out, by rw [← HOP.out]; exact HR.out, HB9.out⟩
theorem ySD {w w' : World} {es : List EvD} {i : Nat} {l : List NV} {op : List Int} {B n : Nat} {v : Value} (hr : w'.ownsRow B 145 13 v n (l.flatMap cN)) (hn : l.length = n) (h : NdR es w i l op) (hb : Below w.heap.size w w') : ∃ a cap, v = .slice a n cap ∧ yIB w' (yAg es i).nodes a n cap := by
 obtain ⟨a, cap, rfl, h1, h2, h3⟩ := yAb hr; refine ⟨a, cap, rfl, by rw [← h.nodes, List.length_map]; exact hn, h1, h2, fun j hj => ?_⟩; obtain ⟨g, rfl, hg, hgs⟩ := h3 j hj; refine ⟨g, 0, rfl, hgs, fun q x hx => ?_⟩; rw [← h.nodes, List.getElem?_map] at hx; obtain ⟨y, hy, rfl⟩ := Option.map_eq_some_iff.1 hx; have hq : q < l.length := (ji.1 hy).1; have hd : l.getD q zv = y := by rw [jg, hy]; rfl
 have c : ∀ k u, k < 13 → (cN y)[k]? = some u → w'.cell? ⟨g, 0 + q * 13 + k, none⟩ = some u := fun k u hk hu => by rw [Nat.zero_add]; refine yAq hr ?_; rw [yG6 hq hk, hd]; exact hu
 refine ⟨⟨hgs, c 0 _ (by decide) rfl, c 1 _ (by decide) rfl, c 2 _ (by decide) rfl, c 3 _ (by decide) rfl, ⟨_, _, _, c 4 _ (by decide) rfl, (h.fit y (List.mem_of_getElem? hy)).below hb⟩, c 5 _ (by decide) rfl, c 6 _ (by decide) rfl, c 7 _ (by decide) rfl⟩, c 8 _ (by decide) rfl, c 9 _ (by decide) rfl, c 10 _ (by decide) rfl, c 11 _ (by decide) rfl, c 12 _ (by decide) rfl⟩
theorem yTi {es : List EvD} {sE : CkS} (hall : yA6 ck0 es = some sE) (hB : ∀ e ∈ es, e.tx.size ≤ 1048576) (hsz : ∀ x ∈ es, yEg x) (hn : es.length ≤ 4096) : yJK (yAk (yAg es es.length) sE.dn) := by have h := yK1 hall hB es.length (jr _); refine ⟨fun x hx => ?_, fun x hx => (hsz _ (h.ev x hx)).al, fun x hx y hy => ((hsz _ (h.ev x hx)).at_ y hy).2⟩; have := h.val x hx; omega
theorem yL3 {es : List EvD} {ea : Option Addr} {en ec : Nat} (w : World) {w0 : World} (hE0 : yDl w w0 es ea en ec) (hb0 : Below w0.heap.size w0 w) {sE : CkS} (hall : yA6 ck0 es = some sE) (hB : ∀ e ∈ es, e.tx.size ≤ 1048576) (hsz : ∀ x ∈ es, yEg x) (hen : en ≤ 4096) :
  Calls Tryz.prog 27 #[.slice ea en ec] w fun e w' => ∃ a n cap, e = .returned (.agg #[.slice a n cap, .bool sE.dn]) ∧ (∀ W' : World, (∀ b, w.heap.size ≤ b → b < w'.heap.size → W'.heap[b]? = w'.heap[b]?) → Below w0.heap.size w0 W' → yDH W' (yAk (yAg es en) sE.dn) a n cap) ∧ n ≤ en ∧ Below w.heap.size w w' := by
 have hE := hE0.now hb0; have HE := jh hE; have HE0 := jh hE0; have HB0 := jh hb0; have HL := jh hE.len; have HALL := jh hall; have HB := jh hB; have HSZ := jh hsz; clear hE hE0 hb0 hall hB hsz; obtain ⟨W1, hW1⟩ := je (w.alloc (.cells #[.slice none 0 0, .bool false] 78)); have hb1 : Below w.heap.size w W1 := by rw [← hW1]; exact (jf _ _).alloc (jr _) _
 have HW1 := jh hW1; clear hW1; go_enter Tryz.func27, Tryz.ntmps27; obtain ⟨G, hG⟩ := je (w.heap.size); have hX1 : W1.heap[G]? = some (.cells #[.slice none 0 0, .bool false] 78) := by rw [← HW1.out, ← hG]; exact jw _ _
 have hGs : G < W1.heap.size := jl hX1; go_wp2_with fail; rw [HW1.out]; have HG := jh hG; refine (yHr W1 (HE.out.below hb1) HSZ.out (by omega)).mono ?_; rintro e w2 ⟨⟨d, x, rfl, hx⟩, hb2⟩; obtain rfl := hx sE HALL.out; have hX2 : w2.heap[G]? = some (.cells #[.slice none 0 0, .bool false] 78) := (hb2.block G hGs).trans hX1; have HB2 : Hid (Below w.heap.size w w2) := jh (hb1.trans (hb2.mono hb1.size)); have hGs2 : G < w2.heap.size := jl hX2; clear hX1 hGs hb2 hb1 hx hG; go_wp2_with fail; refine (yNh w2 (HE0.out.below HB2.out) (HB0.out.trans (HB2.out.mono HB0.out.size)) HALL.out HB.out hen).mono ?_; rintro e w3 ⟨v, l, rfl, hro, hnd, hb3⟩; obtain ⟨a, cap, rfl, _⟩ := yAb hro; have hX3 : w3.heap[G]? = some (.cells #[.slice none 0 0, .bool false] 78) := (hb3.block G hGs2).trans hX2; have hGs3 : G < w3.heap.size := jl hX3; have z0 := jc hX3 0 rfl; have z1 := jc hX3 1 rfl; have zf0 := frozen_of_row w3 G 0 _ _ hX3; have zf1 := frozen_of_row w3 G 1 _ _ hX3; have HRO := jh hro; have HND := jh hnd; have HB3 := jh (HB2.out.trans (hb3.mono HB2.out.size)); have hwg : w.heap.size ≤ G := by rw [HG.out]; exact jr _
 have hll : l.length ≤ en := by have h := (yK1 HALL.out HB.out en (by rw [HL.out]; exact jr _)).len; rw [← hnd.nodes, List.length_map] at h; exact h
 clear hro hnd hb3 hX2; go_wp2_with fail; refine bodyPost_ret (v := .agg #[.slice a l.length cap, .bool sE.dn]) ?_ rfl ?_
 ·simp [results, Tryz.results27, go_sem, z0, z1]
 ·have hb4 : Below w.heap.size w ((w3.setCell ⟨G, 0, none⟩ (.slice a l.length cap)).setCell ⟨G, 1, none⟩ (.bool sE.dn)) := (HB3.out.setCell (p := ⟨G, 0, none⟩) hwg _).setCell (p := ⟨G, 1, none⟩) hwg _; have hr4 : ((w3.setCell ⟨G, 0, none⟩ (.slice a l.length cap)).setCell ⟨G, 1, none⟩ (.bool sE.dn)).ownsRow w2.heap.size 145 13 (.slice a l.length cap) l.length (l.flatMap cN) := by
   refine yAa HRO.out fun g hg => ?_
   have hgG : g ≠ G := by have := (World.ownsRow.lt HRO.out g hg).1; omega
   exact (js _ _ _ _ hgG).trans (js _ _ _ _ hgG)
  refine ⟨a, l.length, cap, rfl, fun W' hW hbW => ?_, hll, hb4⟩; have hr5 : W'.ownsRow w2.heap.size 145 13 (.slice a l.length cap) l.length (l.flatMap cN) := by
   refine yAa hr4 fun g hg => ?_
   have hl := World.ownsRow.lt hr4 g hg; exact hW g (ju HB2.out.size hl.1) hl.2
  obtain ⟨a', cap', e', hfit⟩ := ySD hr5 rfl HND.out hbW; injection e' with e1 e2 e3
  subst e1 e3; exact ⟨hfit, by omega⟩
end Go.Proofs.YtkhejkfjhddobaaGreatDoor
