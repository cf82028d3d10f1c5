/- Events, and what checks that they come in order: in plain terms; how they lie in memory. -/
import Derived.Test.YtkhejkfjhddobaaGreatDoorHoOpensWalkM
set_option maxRecDepth 100000
set_option maxHeartbeats 16000000
set_option linter.unusedSimpArgs false
namespace Gim
open Go Go.RowKit
structure EvD where
 kd : Int
 num : Int
 dep : Int
 nm : ByteArray
 ats : List (ByteArray × ByteArray)
 tx : ByteArray
 fr : Int
 tu : Int
def za : ByteArray × ByteArray := (ByteArray.empty, ByteArray.empty)
def zo : Int × Int × ByteArray := (0, 0, ByteArray.empty)
def ze : EvD := ⟨0, 0, 0, ByteArray.empty, [], ByteArray.empty, 0, 0⟩
structure CkS where
 os : List (Int × Int × ByteArray)
 num : Int
 tx : Bool
 dn : Bool
def ck0 : CkS := ⟨[], 0, false, false⟩
def atB (l : List (ByteArray × ByteArray)) (i : Nat) : Bool := yBm (l.getD i za).1 && yCe (l.getD i za).2 && (decide (i = 0) || Op.bytesLess (l.getD (i - 1) za).1.toList (l.getD i za).1.toList)
def yDm (l : List (ByteArray × ByteArray)) (n : Nat) : Bool := (List.range n).all (atB l)
def yD0 (l : List (ByteArray × ByteArray)) : Bool := yDm l l.length
theorem yD5 (l : List (ByteArray × ByteArray)) (n : Nat) : yDm l (n + 1) = (yDm l n && atB l n) := by simp [yDm, List.range_succ]
theorem yDu {l : List (ByteArray × ByteArray)} {n : Nat} (hn : n < l.length) (h : atB l n = false) : yD0 l = false := by unfold yD0 yDm; rw [List.all_eq_false]; exact ⟨n, List.mem_range.2 hn, by simp [h]⟩
def yDe (s : CkS) (e : EvD) : Bool := decide (e.num = s.num) && decide (e.dep = (s.os.length : Int) + 1) && decide (e.tx = ⟨#[]⟩) && yBm e.nm && yD0 e.ats
def yFr (s : CkS) (e : EvD) : Bool := decide (0 < s.os.length) && (decide (e.num = (s.os.getD (s.os.length - 1) zo).1) && decide (e.dep = (s.os.getD (s.os.length - 1) zo).2.1) && decide (e.nm = (s.os.getD (s.os.length - 1) zo).2.2) && decide (e.tx = ⟨#[]⟩) && decide (e.ats.length = 0))
def yCR (s : CkS) (e : EvD) : Bool := decide (e.num = s.num) && decide (e.dep = (s.os.length : Int) + 1) && decide (0 < s.os.length) && !s.tx && decide (¬ e.tx = ⟨#[]⟩) && yCe e.tx && decide (e.nm = ⟨#[]⟩) && decide (e.ats.length = 0)
def yAI (s : CkS) (e : EvD) : Bool :=
 !s.dn && (if e.kd = 0 then yDe s e && (decide (0 < s.os.length) || decide (s.num = 0)) else if e.kd = 1 then yCR s e else if e.kd = 2 then yFr s e else false)
def stp (s : CkS) (e : EvD) : CkS :=
 if e.kd = 0 then ⟨s.os ++ [(e.num, e.dep, e.nm)], s.num + 1, false, s.dn⟩
 else if e.kd = 1 then ⟨s.os, s.num + 1, true, s.dn⟩
 else ⟨s.os.dropLast, s.num, false, decide (s.os.length = 1)⟩
def yA6 : CkS → List EvD → Option CkS
 | s, [] => some s
 | s, e :: l => if yAI s e then yA6 (stp s e) l else none
def yIt (l : List EvD) : Bool := (yA6 ck0 l).isSome
theorem yEj : ∀ (l t : List EvD) (s : CkS), yA6 s (l ++ t) = (yA6 s l).bind fun s => yA6 s t
 | [], _, _ => rfl
 | e :: l, t, s => by
  show (if yAI s e then yA6 (stp s e) (l ++ t) else none) = (if yAI s e then yA6 (stp s e) l else none).bind _; split
  ·exact yEj l t _
  ·rfl
theorem yJz {l : List EvD} {i : Nat} {e : EvD} (h : l[i]? = some e) (s : CkS) : yA6 s (l.take (i + 1)) = (yA6 s (l.take i)).bind fun s => if yAI s e then some (stp s e) else none := by rw [List.take_add_one, h, yEj]; rfl
theorem yRm {l : List EvD} {s s' : CkS} (h : yA6 s l = some s') (i : Nat) : ∃ t, yA6 s (l.take i) = some t ∧ yA6 t (l.drop i) = some s' := by
 rw [← List.take_append_drop i l, yEj] at h; cases hb : yA6 s (l.take i) with
 | none =>
  rw [hb] at h; cases h
 | some t =>
  rw [hb] at h; exact ⟨t, rfl, h⟩
theorem yCC {l : List EvD} {s s' : CkS} (h : yA6 s l = some s') {i : Nat} {e : EvD} (he : l[i]? = some e) : ∃ t, yA6 s (l.take i) = some t ∧ yAI t e = true ∧ yA6 s (l.take (i + 1)) = some (stp t e) := by
 obtain ⟨t, h1, h2⟩ := yRm h i; obtain ⟨hi, e1⟩ := ji.1 he; rw [List.drop_eq_getElem_cons hi, e1] at h2; have h2 : (if yAI t e then yA6 (stp t e) (l.drop (i + 1)) else none) = some s' := h2; have hn : yAI t e = true := by
  cases hb : yAI t e with
  | true => rfl
  | false =>
   rw [hb] at h2; cases h2
 exact ⟨t, h1, hn, by rw [yJz he, h1]; show (if yAI t e then some (stp t e) else none) = _; rw [hn]; rfl⟩
structure yOq (s : CkS) : Prop where
 num : 0 ≤ s.num
 dep : ∀ (i : Nat) (o : Int × Int × ByteArray), s.os[i]? = some o → o.2.1 = (i : Int) + 1
 some_ : s.os = [] → s.num = 0 ∨ s.dn = true
 dn : s.dn = true → s.os = []
 tx : s.tx = true → 0 < s.os.length
theorem yIT : yOq ck0 := ⟨by simp [ck0], fun i o h => by simp [ck0] at h, fun _ => .inl rfl, fun h => by simp [ck0] at h, fun h => by simp [ck0] at h⟩
theorem yRk {s : CkS} {e : EvD} (h : yOq s) (hn : yAI s e = true) : yOq (stp s e) := by
 unfold yAI at hn; rw [jb] at hn; obtain ⟨hd, hn⟩ := hn; unfold stp; by_cases h0 : e.kd = 0
 ·rw [if_pos h0] at hn ⊢; rw [jb] at hn; have hde : e.dep = (s.os.length : Int) + 1 := by have := hn.1; simp only [yDe, jb, decide_eq_true_eq] at this; exact this.1.1.1.2
  refine ⟨by have := h.num; show 0 ≤ s.num + 1; omega, fun i o ho => ?_, fun e => by simp at e, fun hd2 => ?_, fun e => by cases e⟩
  ·by_cases hi : i < s.os.length
   ·exact h.dep i o (by rw [← ho, List.getElem?_append_left hi])
   ·have hlt := (ji.1 ho).1; rw [jp, List.length_singleton] at hlt; have hi' : i = s.os.length := by omega
    subst hi'; rw [List.getElem?_append_right (jr _), Nat.sub_self] at ho; simp only [List.getElem?_cons_zero, Option.some.injEq] at ho; subst ho; exact hde
  ·have hd2 : s.dn = true := hd2; rw [hd2] at hd; cases hd
 ·rw [if_neg h0] at hn ⊢; by_cases h1 : e.kd = 1
  ·rw [if_pos h1] at hn ⊢; simp only [yCR, jb, decide_eq_true_eq] at hn; have hl := hn.1.1.1.1.1.2; refine ⟨by have := h.num; show 0 ≤ s.num + 1; omega, h.dep, fun e => ?_, h.dn, fun _ => hl⟩; have e : s.os = [] := e; rw [e] at hl; cases hl
  ·rw [if_neg h1] at hn ⊢; by_cases h2 : e.kd = 2
   ·rw [if_pos h2] at hn; simp only [yFr, jb, decide_eq_true_eq] at hn; have hl := hn.1; refine ⟨h.num, fun i o ho => h.dep i o ?_, fun e => .inr ?_, fun hd2 => ?_, fun e => by cases e⟩
    ·have ho : s.os.dropLast[i]? = some o := ho; rw [List.getElem?_dropLast] at ho; split at ho
     ·exact ho
     ·cases ho
    ·have e : s.os.dropLast = [] := e; have e2 := congrArg List.length e; rw [List.length_dropLast, List.length_nil] at e2; exact decide_eq_true (show s.os.length = 1 by omega)
    ·have hd2 := of_decide_eq_true hd2; show s.os.dropLast = []
     apply List.length_eq_zero_iff.1; rw [List.length_dropLast]; omega
   ·rw [if_neg h2] at hn; cases hn
theorem yEO : ∀ (l : List EvD) {s t : CkS}, yOq s → yA6 s l = some t → yOq t
 | [], s, t, h, e => by injection e with e; exact e ▸ h
 | x :: l, s, t, h, e => by
  have e : (if yAI s x then yA6 (stp s x) l else none) = some t := e; cases hb : yAI s x with
  | false =>
   rw [hb] at e; cases e
  | true =>
   rw [hb, if_pos rfl] at e; exact yEO l (yRk h hb) e
structure yPZ (W : World) (x : EvD) (b o : Nat) : Prop where
 lt : b < W.heap.size
 c0 : W.cell? ⟨b, o, none⟩ = some (.int .i64 x.kd)
 c1 : W.cell? ⟨b, o + 1, none⟩ = some (.int .i64 x.num)
 c2 : W.cell? ⟨b, o + 2, none⟩ = some (.int .i64 x.dep)
 c3 : W.cell? ⟨b, o + 3, none⟩ = some (.string x.nm)
 c4 : ∃ a n c, W.cell? ⟨b, o + 4, none⟩ = some (.slice a n c) ∧ yAO W x.ats a n c
 c5 : W.cell? ⟨b, o + 5, none⟩ = some (.string x.tx)
 c6 : W.cell? ⟨b, o + 6, none⟩ = some (.int .i64 x.fr)
 c7 : W.cell? ⟨b, o + 7, none⟩ = some (.int .i64 x.tu)
theorem yPZ.below {w w' : World} {x : EvD} {b o : Nat} (h : yPZ w x b o) (hb : Below w.heap.size w w') : yPZ w' x b o := by
 have hc : ∀ j, w'.cell? ⟨b, j, none⟩ = w.cell? ⟨b, j, none⟩ := fun j => hb.cell (p := ⟨b, j, none⟩) h.lt
 obtain ⟨a, n, c, h1, h2⟩ := h.c4; exact ⟨jt h.lt hb.size, (hc _).trans h.c0, (hc _).trans h.c1, (hc _).trans h.c2, (hc _).trans h.c3, ⟨a, n, c, (hc _).trans h1, h2.below hb⟩, (hc _).trans h.c5, (hc _).trans h.c6, (hc _).trans h.c7⟩
structure yC4 (W : World) (es : List EvD) (a : Option Addr) (n cap : Nat) : Prop where
 len : es.length = n
 le : n ≤ cap
 cap_le : cap ≤ maxLen
 fit : ∀ j, j < n → ∃ b o, a = some ⟨b, o, none⟩ ∧ ∀ (i : Nat) (x : EvD), es[i]? = some x → yPZ W x b (o + i * 8)
theorem yC4.below {w w' : World} {es : List EvD} {a : Option Addr} {n cap : Nat} (h : yC4 w es a n cap) (hb : Below w.heap.size w w') : yC4 w' es a n cap :=
 ⟨h.len, h.le, h.cap_le, fun j hj => by obtain ⟨b, o, e, h1⟩ := h.fit j hj; exact ⟨b, o, e, fun i x hx => (h1 i x hx).below hb⟩⟩
def yFd (t : ByteArray) (s : HuS) : HuS := { s with l := s.l ++ rs t }
def yAK (t : ByteArray) (f : FrS) : FrS := { f with hunts := f.hunts.map (Option.map (yFd t)) }
def yDB (s : HuS) : HuS := { s with whole := true }
def yBt (f : FrS) : FrS := { f with hunts := f.hunts.map (Option.map yDB) }
def yPK (here : List Int) (g : FrS) : List Bool := (List.range g.child.length).map fun i => g.child.getD i false || decide (here.getD i 0 = 2)
def yP2 (here : List Int) (f g : FrS) : List Bool := (List.range g.deep.length).map fun i => g.deep.getD i false || decide (here.getD i 0 = 2) || f.deep.getD i false
def yDy (here : List Int) (f g : FrS) : FrS := { g with child := yPK here g, deep := yP2 here f g }
def yEB (h : FrS → FrS) (l : List FrS) : List FrS := l.modify 0 h
def yDE (h : FrS → FrS) (l : List FrS) : List FrS := l.modify (l.length - 1) h
theorem yFB (h : FrS → FrS) (l : List FrS) : (yEB h l).length = l.length := List.length_modify ..
theorem yOd (h : FrS → FrS) (l : List FrS) : (yDE h l).length = l.length := List.length_modify ..
end Gim
namespace Go.Proofs.YtkhejkfjhddobaaGreatDoor
open Go.RowKit Gim
def yAm (nd : yAc) (dn : Bool) (fs : List FrS) (f : FrS) : List FrS × List Int :=
 (yDE (yDy (yBT nd (yBt f) false none).2 (yBt f)) (if dn then yEB yBt fs else fs), (yBT nd (yBt f) false none).1)
def yAA (nd : yAc) (dn : Bool) (fs : List FrS) (e : EvD) : List FrS × Option (List Int) :=
 if e.kd = 0 then (fs ++ [yAr nd 1 e.nm e.ats], none)
 else if e.kd = 1 then ((yAm nd dn (fs.map (yAK e.tx)) (yAK e.tx (yAr nd 2 ByteArray.empty []))).1, some (yAm nd dn (fs.map (yAK e.tx)) (yAK e.tx (yAr nd 2 ByteArray.empty []))).2)
 else ((yAm nd dn fs.dropLast (fs.getD (fs.length - 1) fr0)).1, some (yAm nd dn fs.dropLast (fs.getD (fs.length - 1) fr0)).2)
theorem yDw (nd : yAc) (dn : Bool) (fs : List FrS) (f : FrS) : (yAm nd dn fs f).1.length = fs.length := by
 unfold yAm; rw [yOd]; split
 ·exact yFB _ _
 ·rfl
theorem yN1 (nd : yAc) (s : CkS) (fs : List FrS) (e : EvD) (hn : yAI s e = true) (hl : fs.length = s.os.length + 1) : (yAA nd (stp s e).dn fs e).1.length = (stp s e).os.length + 1 := by
 unfold yAA stp; by_cases h0 : e.kd = 0
 ·rw [if_pos h0, if_pos h0]; simp [hl]
 ·rw [if_neg h0, if_neg h0]; by_cases h1 : e.kd = 1
  ·rw [if_pos h1, if_pos h1]; show (yAm _ _ _ _).1.length = s.os.length + 1; rw [yDw, List.length_map, hl]
  ·rw [if_neg h1, if_neg h1]; show (yAm _ _ _ _).1.length = s.os.dropLast.length + 1; have h2 : e.kd = 2 := by
    refine Decidable.byContradiction fun h2 => ?_
    unfold yAI at hn; rw [if_neg h0, if_neg h1, if_neg h2, Bool.and_false] at hn; cases hn
   unfold yAI at hn; rw [if_neg h0, if_neg h1, if_pos h2] at hn; simp only [yFr, jb, decide_eq_true_eq] at hn; rw [yDw, List.length_dropLast, List.length_dropLast, hl]; omega
end Go.Proofs.YtkhejkfjhddobaaGreatDoor
namespace Gim
open Go Go.RowKit
def yBR {α : Type} (g : α → α) (k : Nat) (l : List α) : List α := (l.take k).map g ++ l.drop k
theorem yFt {α : Type} (g : α → α) (l : List α) : yBR g 0 l = l := by simp [yBR]
theorem yGS {α : Type} (g : α → α) {k : Nat} {l : List α} (h : l.length ≤ k) : yBR g k l = l.map g := by unfold yBR; rw [jm h, List.drop_of_length_le h, List.append_nil]
theorem yE6 {α : Type} (g : α → α) (k : Nat) (l : List α) : (yBR g k l).length = l.length := by unfold yBR; rw [jp, List.length_map, List.length_take, List.length_drop]; omega
theorem yCz {α : Type} (g : α → α) (k i : Nat) (l : List α) : (yBR g k l)[i]? = if i < k then (l[i]?).map g else l[i]? := by
 unfold yBR; by_cases h : i < k
 ·rw [if_pos h]; by_cases hl : i < l.length
  ·rw [List.getElem?_append_left (by rw [List.length_map, List.length_take]; omega), List.getElem?_map, List.getElem?_take, if_pos h]
  ·rw [List.getElem?_eq_none (by rw [jp, List.length_map, List.length_take, List.length_drop]; omega), List.getElem?_eq_none (by omega)]; rfl
 ·rw [if_neg h]; by_cases hl : i < l.length
  ·rw [List.getElem?_append_right (by rw [List.length_map, List.length_take]; omega), List.getElem?_drop, List.length_map, List.length_take, Nat.min_eq_left (by omega), show k + (i - k) = i by omega]
  ·rw [List.getElem?_eq_none (by rw [jp, List.length_map, List.length_take, List.length_drop]; omega), List.getElem?_eq_none (by omega)]
theorem yEW {α : Type} (g : α → α) {k : Nat} {l : List α} {x : α} (h : l[k]? = some x) : (yBR g k l).set k (g x) = yBR g (k + 1) l := by
 refine List.ext_getElem? fun i => ?_
 by_cases hi : k = i
 ·subst hi; rw [List.getElem?_set_self (by rw [yE6]; exact (ji.1 h).1), yCz, if_pos (by omega), h]; rfl
 ·rw [List.getElem?_set_ne hi, yCz, yCz]; by_cases h2 : i < k
  ·rw [if_pos h2, if_pos (by omega)]
  ·rw [if_neg h2, if_neg (by omega)]
theorem yIi {α : Type} (g : α → α) {k : Nat} {l : List α} {x : α} (h : l[k]? = some x) (hx : g x = x) : yBR g k l = yBR g (k + 1) l := by
 rw [← yEW g h, hx]; refine List.ext_getElem? fun i => ?_
 by_cases hi : k = i
 ·subst hi; rw [List.getElem?_set_self (by rw [yE6]; exact (ji.1 h).1), yCz, if_neg (by omega), h]
 ·rw [List.getElem?_set_ne hi]
theorem yN7 {hs : List (Option HuS)} {hp : Nat → Nat × Value × Value} {i : Nat} {s s' : HuS} (h : hs[i]? = some (some s)) : yCU (hs.set i (some s')) hp = yCU hs hp := by
 have hi := (ji.1 h).1; unfold yCU; rw [List.length_set]; congr 1; refine List.map_congr_left fun k _ => ?_
 by_cases hk : i = k
 ·subst hk; rw [jg, List.getElem?_set_self hi, jg, h]; rfl
 ·rw [jg, List.getElem?_set_ne hk, jg]
end Gim
namespace Go.Proofs.YtkhejkfjhddobaaGreatDoor
open Go.RowKit Gim
section
variable {W : World} {tg : Nat → Nat × Nat} {j F cB dB aB hB : Nat} {hp : Nat → Nat × Value × Value} {nr np : Nat} {f : FrS}
theorem FrI.turnH (h : FrI W tg j F cB dB aB hB hp nr np f) {W' : World} {i : Nat} {s s' : HuS} (hs : f.hunts[i]? = some (some s)) (hf : Fr (fun b => b = (hp i).1) W W')
  (hst : St W' ((hp i).1 + 1) (hp i).1 s'.c s'.N s'.T (hp i).2.1 (hp i).2.2 s'.l s'.whole) (hok : ySE s') : FrI W' tg j F cB dB aB hB hp nr np { f with hunts := f.hunts.set i (some s') } := by
 have lt : ∀ {b : Nat} {o : Obj}, W.heap[b]? = some o → b < W.heap.size := fun e => (jl e)
 obtain ⟨_, _, h2, h3, h4⟩ := h.hu i s hs; have hk : ∀ b k, b < W.heap.size → tg b = (j, k) → k ≠ 5 + 2 * i → W'.heap[b]? = W.heap[b]? := fun b k hl e hne => hf.block b hl (by rintro rfl; rw [h2] at e; injection e with _ e; exact hne e.symm)
 refine ⟨(hk F 0 (lt h.hF) h.tF (by omega)).trans h.hF, (hk cB 1 (lt h.hc) h.tc (by omega)).trans h.hc, (hk dB 2 (lt h.hd) h.td (by omega)).trans h.hd, (hk aB 3 (lt h.ha) h.ta (by omega)).trans h.ha, ?_, h.lc, h.ld, h.la, by simp [h.lh], fun k s2 hs2 => ?_, h.tF, h.tc, h.td, h.ta, h.th⟩
 ·show _ = some (Obj.cells (yCU (f.hunts.set i (some s')) hp) _); rw [yN7 hs]; exact (hk hB 4 (lt h.hh) h.th (by omega)).trans h.hh
 ·have hs2 : (f.hunts.set i (some s'))[k]? = some (some s2) := hs2; by_cases hki : i = k
  ·subst hki; rw [List.getElem?_set_self (ji.1 hs).1] at hs2; injection hs2 with hs2; injection hs2 with hs2; subst hs2; exact ⟨hst, hok, h2, h3, h4⟩
  ·rw [List.getElem?_set_ne hki] at hs2; obtain ⟨k1, k0, k2, k3, k4⟩ := h.hu k s2 hs2; have hl1 := St.lt k1; exact ⟨k1.keep (hk _ _ hl1.1 k2 (by omega)) (fun g hg => hk g _ (hl1.2.1 g hg).2 (k3 g hg) (by omega)) (fun g hg => hk g _ (hl1.2.2 g hg).2 (k4 g hg) (by omega)), k0, k2, k3, k4⟩
end
theorem yIg {tg : Nat → Nat × Nat} {j F cB dB aB hB nr np : Nat} {hp : Nat → Nat × Value × Value} {f : FrS} (w : World) (h : FrI w tg j F cB dB aB hB hp nr np f) (hnp : np ≤ 1048576) :
  Calls Tryz.prog 90 #[.pointer (some ⟨F, 0, none⟩)] w fun e w' => e = .returned (.tuple #[]) ∧ FrI w' tg j F cB dB aB hB hp nr np (yBt f) ∧ Fr (fun b => (tg b).1 = j) w w' := by
 have x5 := jc h.hF 5 rfl; have hFs : F < w.heap.size := jl h.hF; have HH := jh h; clear h; go_enter Tryz.func90, Tryz.ntmps90; go_wp2_with fail; go_loopw [9] (fun v wr => ∃ k : Nat, v = .int .i64 k ∧ k ≤ np ∧ FrI wr tg j F cB dB aB hB hp nr np { f with hunts := yBR (Option.map yDB) k f.hunts } ∧ Fr (fun b => (tg b).1 = j) w wr) (fun v _ => np - (intOf v).toNat)
 case atStart => exact ⟨0, rfl, jz _, by rw [yFt]; exact HH.out, Fr.refl _ _⟩
 case round =>
  obtain ⟨k, rfl, hk, hi, hf⟩ := hrel; by_cases hkn : k < np
  ·have hkn' : (k : Int) < np := by omega
   have hkl : k < f.hunts.length := by rw [HH.out.lh]; exact hkn
   have hx := jk hkl; have hx2 : (yBR (Option.map yDB) k f.hunts)[k]? = some f.hunts[k] := by rw [yCz, if_neg (Nat.lt_irrefl k)]; exact hx
   have hc : wr.cell? ⟨hB, k, none⟩ = some (yNt f.hunts[k] (hp k).1) := yEX hi.hh hx2; have hbs : hB < wr.heap.size := jl hi.hh; cases hz : f.hunts[k] with
   | none =>
    rw [hz] at hc hx
    replace hc : wr.cell? ⟨hB, k, none⟩ = some (.pointer none) := hc
    have HN := jh (show FrI wr tg j F cB dB aB hB hp nr np { f with hunts := yBR (Option.map yDB) (k + 1) f.hunts } by rw [← yIi _ hx rfl]; exact hi); have HF := jh hf; clear hi hf hx hx2 hz; go_wp2_with fail; go_roundw
    case rel => exact ⟨k + 1, by simp, by omega, HN.out, HF.out⟩
    case measure => simp [intOf]; omega
   | some s =>
    rw [hz] at hc hx hx2
    replace hc : wr.cell? ⟨hB, k, none⟩ = some (.pointer (some ⟨(hp k).1, 0, none⟩)) := hc
    obtain ⟨h1, h0, h2, h3, h4⟩ := hi.hu k s hx2; have HCL := jh h1.close; have HI := jh hi; have HX2 := jh hx2; have HX := jh hx; have HF := jh hf; have H2 := jh h2; have H0 := jh h0; obtain ⟨X, hX⟩ := je ((hp k).1); rw [hX] at hc HCL; have HXX := jh hX; clear hi hf hx hx2 hz h1 h0 h2 h3 h4 hX; go_wp2_with fail; refine HCL.out.mono ?_; rintro e w2 ⟨rfl, hf2, hst2⟩; have HN : Hid (FrI w2 tg j F cB dB aB hB hp nr np { f with hunts := yBR (Option.map yDB) (k + 1) f.hunts } ∧ Fr (fun b => (tg b).1 = j) w w2) := jh (by
     have hX := HXX.out; refine ⟨?_, HF.out.trans (hf2.mono fun b hb => ?_)⟩
     ·have := HI.out.turnH (s' := yDB s) HX2.out (hf2.mono fun b hb => by rw [hX]; exact hb) (by rw [hX]; exact hst2) H0.out; have e := yEW (Option.map yDB) HX.out; rw [← e]; exact this
     ·rw [hb, ← hX, H2.out])
    clear hf2 hst2 hc; go_wp2_with fail; go_roundw
    case rel => exact ⟨k + 1, by simp, by omega, HN.out⟩
    case measure => simp [intOf]; omega
  ·have e : k = np := by omega
   subst e; have HN := jh (show FrI wr tg j F cB dB aB hB hp nr k (yBt f) by rw [yGS _ (by rw [HH.out.lh]; exact jr _)] at hi; exact hi); have HF := jh hf; clear hi hf; go_wp2_with fail; exact bodyPost_end (results_none rfl _ _ _) rfl ⟨rfl, HN.out, HF.out⟩
end Go.Proofs.YtkhejkfjhddobaaGreatDoor
namespace Gim
open Go Go.RowKit
def osC (os : List (Int × Int × ByteArray)) : List Value := os.flatMap fun o => yBP o.1 o.2.1 o.2.2
theorem yRZ (os : List (Int × Int × ByteArray)) (a b : Int) (c : ByteArray) : osC (os ++ [(a, b, c)]) = osC os ++ yBP a b c := by simp [osC]
theorem yO4 (os : List (Int × Int × ByteArray)) : (osC os).length = os.length * 8 := by
 induction os with
 | nil => rfl
 | cons o r ih =>
  show (yBP _ _ _ ++ osC r).length = _; rw [jp, ih]; simp only [yBP, List.length_cons, List.length_nil]; omega
theorem yKj {os : List (Int × Int × ByteArray)} (h : 0 < os.length) : osC os = osC os.dropLast ++ yBP (os.getD (os.length - 1) zo).1 (os.getD (os.length - 1) zo).2.1 (os.getD (os.length - 1) zo).2.2 := by
 have hne : os ≠ [] := fun e => by subst e; cases h
 have e := List.dropLast_concat_getLast hne; have e2 : os.getLast hne = os.getD (os.length - 1) zo := by rw [List.getLast_eq_getElem, jg, jk (by omega)]; rfl
 conv => lhs; rw [← e]
 rw [e2, ← yRZ]
def yDo (n : Nat) (new old : Nat → Bool) (k : Nat) : List Bool := (List.range n).map fun i => if i < k then new i else old i
theorem yDO (n : Nat) (new old : Nat → Bool) (k : Nat) : (yDo n new old k).length = n := by simp [yDo]
theorem yJT {l : List Bool} {n : Nat} (new : Nat → Bool) (h : l.length = n) : yDo n new (fun i => l.getD i false) 0 = l := by
 refine List.ext_getElem? fun i => ?_
 by_cases hi : i < n
 ·simp [yDo, hi, jg, jk (show i < l.length by omega)]
 ·rw [List.getElem?_eq_none (by rw [yDO]; omega), List.getElem?_eq_none (by omega)]
theorem yMG (n : Nat) (new old : Nat → Bool) : yDo n new old n = (List.range n).map new := by
 refine List.ext_getElem? fun i => ?_
 by_cases hi : i < n <;> simp [yDo, hi]
theorem yO5 {n : Nat} (new old : Nat → Bool) {k : Nat} (h : k < n) : (yDo n new old k)[k]? = some (old k) := by simp [yDo, h]
theorem yLK {n : Nat} {new old : Nat → Bool} {k : Nat} {x : Bool} (hx : x = new k) : (yDo n new old k).set k x = yDo n new old (k + 1) := by
 subst hx; refine List.ext_getElem? fun i => ?_
 by_cases hi : k = i
 ·subst hi; by_cases h : k < n
  ·rw [List.getElem?_set_self (by rw [yDO]; exact h)]; simp [yDo, h]
  ·rw [List.getElem?_eq_none (by rw [List.length_set, yDO]; omega), List.getElem?_eq_none (by rw [yDO]; omega)]
 ·rw [List.getElem?_set_ne hi]; by_cases h : i < n
  ·have e : (i < k + 1) ↔ i < k := by omega
   simp [yDo, h, e]
  ·rw [List.getElem?_eq_none (by rw [yDO]; omega), List.getElem?_eq_none (by rw [yDO]; omega)]
end Gim
namespace Go.Proofs.YtkhejkfjhddobaaGreatDoor
open Go.RowKit Gim
structure Go6 (tg tg' : Nat → Nat × Nat) (w w' : World) : Prop where
 fr : Fr (fun b => (tg b).1 ≠ 6) w w'
 tg : ∀ b, b < w.heap.size → tg' b = tg b
theorem Go6.refl (tg : Nat → Nat × Nat) (w : World) : Go6 tg tg w w := ⟨Fr.refl _ _, fun _ _ => rfl⟩
theorem Go6.trans {tg tg' tg'' : Nat → Nat × Nat} {a b c : World} (h : Go6 tg tg' a b) (k : Go6 tg' tg'' b c) : Go6 tg tg'' a c :=
 ⟨⟨k.fr.os.trans h.fr.os, k.fr.tape.trans h.fr.tape, k.fr.output.trans h.fr.output, ju h.fr.size k.fr.size, fun j hj hn => (k.fr.block j (jt hj h.fr.size) (by rw [h.tg j hj]; exact hn)).trans (h.fr.block j hj hn)⟩,
  fun b hb => (k.tg b (jt hb h.fr.size)).trans (h.tg b hb)⟩
theorem Go6.new (tg : Nat → Nat × Nat) {w w' : World} (hb : Below w.heap.size w w') (t : Nat) : Go6 tg (tgU tg w.heap.size t) w w' := ⟨Fr.of hb, fun _ h => yAl h⟩
def yHf (n t : Nat) : Prop := t ≤ 4 ∨ 10 ≤ t ∧ t < 10 + n
section
variable {n0 : Nat} {W : World} {tg : Nat → Nat × Nat} {H K : Nat} {nd : yAc} {vF vX vK : Value} {fs : List FrS} {ps : List Nat} {vO : Value} {en : Nat} {es : List Value} {num : Int} {tx dn : Bool}
theorem yKJ.keep2 {nr np : Nat} (h : yKJ W tg vF nr np fs ps) {W' : World} {tg' : Nat → Nat × Nat} (hk : ∀ b, b < W.heap.size → (tg b).1 = 2 ∨ 10 ≤ (tg b).1 ∧ (tg b).1 < 10 + fs.length → W'.heap[b]? = W.heap[b]? ∧ tg' b = tg b) : yKJ W' tg' vF nr np fs ps :=
 ⟨yAa h.row fun g hg => (hk g (World.ownsRow.lt h.row g hg).2 (.inl (h.tg2 g hg))).1, fun g hg => by rw [(hk g (World.ownsRow.lt h.row g hg).2 (.inl (h.tg2 g hg))).2]; exact h.tg2 g hg, h.lp,
  fun i hi => (h.fr i hi).keep (fun b k hb ht => (hk b hb (.inr (by rw [ht]; exact ⟨Nat.le_add_right _ _, by show 10 + i < _; omega⟩))).1) (fun b k hb ht => by rw [(hk b hb (.inr (by rw [ht]; exact ⟨Nat.le_add_right _ _, by show 10 + i < _; omega⟩))).2]; exact ht)⟩
theorem HoI.keep (h : HoI n0 W tg H K nd vF vX vK fs ps vO en es num tx dn) {W' : World} {tg' : Nat → Nat × Nat} (hs : W.heap.size ≤ W'.heap.size) (hk : ∀ b, b < W.heap.size → yHf fs.length (tg b).1 → W'.heap[b]? = W.heap[b]? ∧ tg' b = tg b)
  (ho : ∀ b, b < W'.heap.size → (tg' b).1 = 0 → b = H) (hold : ∀ b, b < n0 → (tg' b).1 = 6) : HoI n0 W' tg' H K nd vF vX vK fs ps vO en es num tx dn := by
 obtain ⟨mn, ra, rc, pa, pc, h1, h2⟩ := h.hH; have hH := hk H h.lt (.inl (by rw [h.tH]; decide)); exact ⟨⟨mn, ra, rc, pa, pc, hH.1.trans h1, h2.keep hs fun b hl ht => ⟨(hk b hl (.inl (by rw [ht]; decide))).1, by rw [(hk b hl (.inl (by rw [ht]; decide))).2]; exact ht⟩⟩, by rw [hH.2]; exact h.tH,
  h.fr.keep2 fun b hl ht => hk b hl (by rcases ht with e | e; exact .inl (by rw [e]; decide); exact .inr e), h.ck.keep fun b hl ht => hk b hl (.inl (by omega)), h.xs, h.ks, ho, ⟨ju h.old.1 hs, hold⟩⟩
theorem HoI.off (h : HoI n0 W tg H K nd vF vX vK fs ps vO en es num tx dn) {W' : World} {p : Nat → Prop} (hf : Fr p W W') (hp : ∀ b, b < W.heap.size → p b → ¬ yHf fs.length (tg b).1) (t : Nat) (ht : t ≠ 0) : HoI n0 W' (tgU tg W.heap.size t) H K nd vF vX vK fs ps vO en es num tx dn := by
 refine h.keep hf.size (fun b hb hu => ⟨hf.block b hb fun e => hp b hb e hu, yAl hb⟩) (fun b hb hz => ?_) (fun b hb => by rw [yAl (jt hb h.old.1)]; exact h.old.2 b hb); by_cases hl : b < W.heap.size
 ·rw [yAl hl] at hz; exact h.own b hl hz
 ·rw [yBO (by omega)] at hz; exact absurd hz ht
theorem HoI.off2 (h : HoI n0 W tg H K nd vF vX vK fs ps vO en es num tx dn) {W' : World} {p : Nat → Prop} (hf : Fr p W W') (hp : ∀ b, b < W.heap.size → p b → ¬ yHf fs.length (tg b).1) (hnew : ∀ b, W.heap.size ≤ b → (tg b).1 ≠ 0) : HoI n0 W' tg H K nd vF vX vK fs ps vO en es num tx dn := by
 refine h.keep hf.size (fun b hb hu => ⟨hf.block b hb fun e => hp b hb e hu, rfl⟩) (fun b hb hz => ?_) h.old.2; by_cases hl : b < W.heap.size
 ·exact h.own b hl hz
 ·exact absurd hz (hnew b (by omega))
theorem HoI.setFr (h : HoI n0 W tg H K nd vF vX vK fs ps vO en es num tx dn) {W' : World} {i : Nat} (hi : i < fs.length) (hf : Fr (fun b => (tg b).1 = 10 + i) W W') {f : FrS} (hm : FrM W' tg (10 + i) (ps.getD i 0) nd.rows.length nd.preds.length f) (ht : ∀ b, W.heap.size ≤ b → b < W'.heap.size → (tg b).1 ≠ 0) :
  HoI n0 W' tg H K nd vF vX vK (fs.set i f) ps vO en es num tx dn := by
 obtain ⟨mn, ra, rc, pa, pc, h1, h2⟩ := h.hH; have hk : ∀ b, b < W.heap.size → (tg b).1 ≠ 10 + i → W'.heap[b]? = W.heap[b]? := fun b hb hn => hf.block b hb hn
 refine ⟨⟨mn, ra, rc, pa, pc, (hk H h.lt (by rw [h.tH]; show 0 ≠ 10 + i; omega)).trans h1, h2.keep hf.size fun b hl e => ⟨hk b hl (by omega), e⟩⟩, h.tH,
  ⟨by rw [List.length_set]; exact yAa h.fr.row fun g hg => hk g (World.ownsRow.lt h.fr.row g hg).2 (by rw [h.fr.tg2 g hg]; omega), h.fr.tg2, by rw [List.length_set]; exact h.fr.lp, fun k hk2 => ?_⟩,
  h.ck.keep fun b hl e => ⟨hk b hl (by omega), rfl⟩, h.xs, h.ks, fun b hb hz => ?_, ⟨ju h.old.1 hf.size, h.old.2⟩⟩
 ·rw [List.length_set] at hk2; by_cases e : i = k
  ·subst e; rw [show (fs.set i f).getD i fr0 = f by rw [jg, List.getElem?_set_self hi]; rfl]; exact hm
  ·rw [show (fs.set i f).getD k fr0 = fs.getD k fr0 by rw [jg, List.getElem?_set_ne e, jg]]; exact (h.fr.fr k hk2).keep (fun b x hb hz => hk b hb (by rw [hz]; show 10 + k ≠ 10 + i; omega)) (fun _ _ _ e => e)
 ·by_cases hl : b < W.heap.size
  ·exact h.own b hl hz
  ·exact absurd hz (ht b (by omega) hb)
theorem HoI.retag (h : HoI n0 W tg H K nd vF vX vK fs ps vO en es num tx dn) {tg' : Nat → Nat × Nat} (hk : ∀ b, b < W.heap.size → yHf fs.length (tg b).1 ∨ b < n0 → tg' b = tg b) (ho : ∀ b, b < W.heap.size → (tg' b).1 = 0 → (tg b).1 = 0) : HoI n0 W tg' H K nd vF vX vK fs ps vO en es num tx dn :=
 h.keep (jr _) (fun b hb hu => ⟨rfl, hk b hb (.inl hu)⟩) (fun b hb hz => h.own b hb (ho b hb hz)) (fun b hb => by rw [hk b (jt hb h.old.1) (.inr hb)]; exact h.old.2 b hb)
end
theorem yRt (tg : Nat → Nat × Nat) (n : Nat) : ∀ b, n ≤ b → tgU tg n 6 b = (6, 0) := fun _ h => yBO h
theorem yI9 {α : Type} (h : α → α) {l : List α} {i : Nat} (hi : i < l.length) (z : α) : l.modify i h = l.set i (h (l.getD i z)) := by
 refine List.ext_getElem? fun k => ?_
 by_cases hk : i = k
 ·subst hk; rw [List.getElem?_modify_eq, List.getElem?_set_self hi, jg, jk hi]; rfl
 ·rw [List.getElem?_modify_ne _ _ hk, List.getElem?_set_ne hk]
def ExM (W : World) (tg : Nat → Nat × Nat) (np : Nat) (v : Value) : Option (List Int) → Prop
 | none => v = .slice none 0 0
 | some l => l.length = np ∧ ∃ b, v = .slice (some ⟨b, 0, none⟩) np np ∧ W.heap[b]? = some (.cells (il l) 67) ∧ (tg b).1 = 5
def KnP (W : World) (tg : Nat → Nat × Nat) (np : Nat) (v : Value) (ks : List (List Int)) : Prop :=
 v = .slice none 0 0 ∨ ∃ kB vl, v = .slice (some ⟨kB, 0, none⟩) ks.length ks.length ∧ W.heap[kB]? = some (.cells (List.toArray vl) 84) ∧ (tg kB).1 = 8 ∧ vl.length = ks.length ∧
  ∀ (i : Nat) (l : List Int), ks[i]? = some l → ∃ t, vl[i]? = some (.slice (some ⟨t, 0, none⟩) np np) ∧ W.heap[t]? = some (.cells (il l) 67) ∧ (tg t).1 = 8
theorem ExM.keep {W W' : World} {tg tg' : Nat → Nat × Nat} {np : Nat} {v : Value} {ex : Option (List Int)} (h : ExM W tg np v ex) (hk : ∀ b, b < W.heap.size → (tg b).1 = 5 → W'.heap[b]? = W.heap[b]? ∧ tg' b = tg b) : ExM W' tg' np v ex := by
 cases ex with
 | none => exact h
 | some l =>
  obtain ⟨h0, b, h1, h2, h3⟩ := h; have := hk b (jl h2) h3; exact ⟨h0, b, h1, this.1.trans h2, by rw [this.2]; exact h3⟩
theorem KnP.keep {W W' : World} {tg tg' : Nat → Nat × Nat} {np : Nat} {v : Value} {ks : List (List Int)} (h : KnP W tg np v ks) (hk : ∀ b, b < W.heap.size → (tg b).1 = 8 → W'.heap[b]? = W.heap[b]? ∧ tg' b = tg b) : KnP W' tg' np v ks := by
 rcases h with h | ⟨kB, vl, h1, h2, h3, h4, h5⟩
 ·exact .inl h
 ·have hK := hk kB (jl h2) h3; refine .inr ⟨kB, vl, h1, hK.1.trans h2, by rw [hK.2]; exact h3, h4, fun i l hl => ?_⟩; obtain ⟨t, e1, e2, e3⟩ := h5 i l hl; have hT := hk t (jl e2) e3; exact ⟨t, e1, hT.1.trans e2, by rw [hT.2]; exact e3⟩
def HoX (n0 : Nat) (W : World) (tg : Nat → Nat × Nat) (H : Nat) (nd : yAc) (fs : List FrS) (s : CkS) (ex : Option (List Int)) : Prop :=
 ∃ K vF vX vK ps vO, HoI n0 W tg H K nd vF vX vK fs ps vO s.os.length (osC s.os) s.num s.tx s.dn ∧ ExM W tg nd.preds.length vX ex ∧ KnP W tg nd.preds.length vK (yCY nd fs s.dn)
theorem HoX.below {n0 : Nat} {W W' : World} {tg : Nat → Nat × Nat} {H : Nat} {nd : yAc} {fs : List FrS} {s : CkS} {ex : Option (List Int)} (h : HoX n0 W tg H nd fs s ex) (hb : Below W.heap.size W W') : HoX n0 W' (tgU tg W.heap.size 6) H nd fs s ex := by obtain ⟨K, vF, vX, vK, ps, vO, h1, h2, h3⟩ := h; exact ⟨K, vF, vX, vK, ps, vO, h1.below hb, h2.keep fun b hl _ => ⟨hb.block b hl, yAl hl⟩, h3.keep fun b hl _ => ⟨hb.block b hl, yAl hl⟩⟩
theorem HoX.off {n0 : Nat} {W W' : World} {tg : Nat → Nat × Nat} {H : Nat} {nd : yAc} {fs : List FrS} {s : CkS} {ex : Option (List Int)} (h : HoX n0 W tg H nd fs s ex) {p : Nat → Prop} (hf : Fr p W W') (hp : ∀ b, b < W.heap.size → p b → (tg b).1 = 6) : HoX n0 W' (tgU tg W.heap.size 6) H nd fs s ex := by
 obtain ⟨K, vF, vX, vK, ps, vO, h1, h2, h3⟩ := h; refine ⟨K, vF, vX, vK, ps, vO, h1.off hf (fun b hb hp2 hu => ?_) 6 (by decide), h2.keep fun b hl ht => ⟨hf.block b hl fun e => ?_, yAl hl⟩, h3.keep fun b hl ht => ⟨hf.block b hl fun e => ?_, yAl hl⟩⟩
 ·have := hp b hb hp2; unfold yHf at hu; omega
 ·have := hp b hl e; omega
 ·have := hp b hl e; omega
end Go.Proofs.YtkhejkfjhddobaaGreatDoor
