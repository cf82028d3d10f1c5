/- Behind every event of a beginning the document yKP as it should. Plain. -/
import Derived.Test.YtkhejkfjhddobaaGreatDoorDocFrsM
import Derived.Test.YtkhejkfjhddobaaGreatDoorFindM
set_option linter.unusedSimpArgs false
namespace Go.Proofs.YtkhejkfjhddobaaGreatDoor
open Go.RowKit Gim
theorem yI6 {nd : yAc} {es : List EvD} {i : Nat} {s : CkS} {fs : List FrS} {e : EvD} (hN : yAD nd) (h : yCV nd es i s fs) (he : es[i]? = some e) (hn : yAI s e = true) : yCV nd es (i + 1) (stp s e) (yAA nd (stp s e).dn fs e).1 ∧
  ((e.kd = 0 ∧ (yAA nd (stp s e).dn fs e).2 = none) ∨ (e.kd ≠ 0 ∧ ∃ l, (yAA nd (stp s e).dn fs e).2 = some l ∧ ∀ p, p < nd.preds.length → l.getD p 0 = exD (yAk (yAg es (i + 1)) (stp s e).dn) (xN nd p) e.num)) := by
 by_cases h0 : e.kd = 0
 ·obtain ⟨a, b⟩ := yRp hN h he hn h0; exact ⟨a, .inl ⟨h0, b⟩⟩
 ·by_cases h1 : e.kd = 1
  ·obtain ⟨a, l, b, c⟩ := run_text hN h he hn h1; exact ⟨a, .inr ⟨h0, l, b, c⟩⟩
  ·have h2 : e.kd = 2 := by
    refine Classical.byContradiction fun h2 => ?_
    unfold yAI at hn; rw [if_neg h0, if_neg h1, if_neg h2, Bool.and_false] at hn; cases hn
   obtain ⟨a, l, b, c⟩ := yPx hN h he hn h2; exact ⟨a, .inr ⟨h0, l, b, c⟩⟩
def nd0 : yAc := ⟨0, [], []⟩
theorem yOG : yAD nd0 :=
 ⟨⟨⟨fun _ h => absurd h (Nat.not_lt_zero _), fun _ h => absurd h (Nat.not_lt_zero _), fun _ h => absurd h (Nat.not_lt_zero _)⟩, fun _ h => absurd h (Nat.not_lt_zero _), fun _ h => absurd h (Nat.not_lt_zero _), fun _ _ _ h => absurd h (Nat.not_lt_zero _)⟩, fun _ h => absurd h (Nat.not_lt_zero _), fun _ h => absurd h (Nat.not_lt_zero _)⟩
theorem yEY {es : List EvD} {sE : CkS} (hall : yA6 ck0 es = some sE) : ∀ i, i ≤ es.length → ∃ s fs, yA6 ck0 (es.take i) = some s ∧ yCV nd0 es i s fs
 | 0, _ => ⟨ck0, _, rfl, yCV.start yOG es⟩
 | i + 1, hi => by
  obtain ⟨s, fs, h1, h2⟩ := yEY hall i (by omega); obtain ⟨e, he⟩ : ∃ e, es[i]? = some e := ⟨_, jk (by omega)⟩
  obtain ⟨t, t1, t2, t3⟩ := yCC hall he; rw [h1] at t1; injection t1 with t1
  subst t1; exact ⟨_, _, t3, (yI6 yOG h2 he t2).1⟩
theorem yDS (es : List EvD) (j : Nat) : ∀ i, i ≤ j → yAg (es.take j) i = yAg es i
 | 0, _ => rfl
 | i + 1, hi => by show yBJ (yAg (es.take j) i) i ((es.take j).getD i ze) = yBJ (yAg es i) i (es.getD i ze); rw [yDS es j i (by omega), jg, List.getElem?_take_of_lt (by omega), ← jg]
theorem yRs {D : yAn} {op : List Int} (h : yBr D op) : ∀ m : Int, -1 ≤ m → m < D.nodes.length → yAY D m < D.nodes.length ∧ m ≤ yAY D m := fun m h1 h2 => by
 by_cases hm : m < 0
 ·unfold yAY; rw [if_pos hm]; omega
 ·rw [yCh (by omega)]; by_cases ho : (yAf D m).clo < 0
  ·have := h.lst m ((h.opn m (by omega) h2).1 ho); omega
  ·have := h.rngs m (by omega) h2 (by omega); omega
structure yM5 (es : List EvD) (B i : Nat) : Prop where
 val : ∀ x ∈ (yAg es i).nodes, x.val.size ≤ i * B
 ev : ∀ x ∈ (yAg es i).nodes, x.ev ∈ es
 len : (yAg es i).nodes.length ≤ i
theorem yBu {α : Type} {g : α → α} : ∀ {l : List α} {n : Nat} {x : α}, x ∈ l.modify n g → ∃ y ∈ l, x = y ∨ x = g y
 | [], n, x, h => by simp at h
 | a :: l, 0, x, h => by
  rw [List.modify_zero_cons, List.mem_cons] at h; rcases h with h | h
  ·exact ⟨a, List.mem_cons_self, .inr h⟩
  ·exact ⟨x, List.mem_cons_of_mem _ h, .inl rfl⟩
 | a :: l, n + 1, x, h => by
  rw [List.modify_succ_cons, List.mem_cons] at h; rcases h with h | h
  ·exact ⟨a, List.mem_cons_self, .inl h⟩
  ·obtain ⟨y, hy, e⟩ := yBu h; exact ⟨y, List.mem_cons_of_mem _ hy, e⟩
theorem ySa {es : List EvD} {i B : Nat} {s : CkS} {fs : List FrS} {e : EvD} (h : yCV nd0 es i s fs) (he : es[i]? = some e) (hn : yAI s e = true) (hsz : yM5 es B i) (htx : e.tx.size ≤ B) : yM5 es B (i + 1) := by
 have hee : e ∈ es := List.mem_of_getElem? he; have hB : (i + 1) * B = i * B + B := Nat.succ_mul i B; obtain ⟨S, hS⟩ := je (yAg es i); have en := yBY he; obtain ⟨h1, h2, h3, _⟩ := h; obtain ⟨z1, z2, z3⟩ := hsz; rw [hS] at en h1 h2 h3 z1 z2 z3; by_cases hk2 : e.kd = 2
 ·have en : yAg es (i + 1) = ⟨S.nodes.modify e.num.toNat (yAP i), S.op.dropLast⟩ := by rw [en]; unfold yBJ; rw [if_pos hk2]
  refine ⟨fun x hx => ?_, fun x hx => ?_, ?_⟩
  ·rw [en] at hx; obtain ⟨y, hy, e1 | e1⟩ := yBu hx
   ·rw [e1]; have := z1 y hy; omega
   ·rw [e1]; have := z1 y hy; show y.val.size ≤ _; omega
  ·rw [en] at hx; obtain ⟨y, hy, e1 | e1⟩ := yBu hx
   ·rw [e1]; exact z2 y hy
   ·rw [e1]; exact z2 y hy
  ·rw [en]; show (S.nodes.modify e.num.toNat (yAP i)).length ≤ _; rw [List.length_modify]; omega
 ·have hnum : e.num = (yAk S s.dn).nodes.length := by
   unfold yAI at hn; rw [jb] at hn; have hn := hn.2; by_cases h0 : e.kd = 0
   ·rw [if_pos h0] at hn; simp only [yDe, jb, decide_eq_true_eq] at hn; rw [hn.1.1.1.1.1, h2]; rfl
   ·rw [if_neg h0] at hn; by_cases h1' : e.kd = 1
    ·rw [if_pos h1'] at hn; simp only [yCR, jb, decide_eq_true_eq] at hn; rw [hn.1.1.1.1.1.1.1, h2]; rfl
    ·rw [if_neg h1', if_neg hk2] at hn; cases hn
  have hmem : ∀ x ∈ yBK e.num e.tx S.op (S.nodes ++ [yBF e i S.op]), (x.val.size ≤ i * B + B) ∧ x.ev ∈ es := fun x hx => by
   obtain ⟨k, hk⟩ := List.mem_iff_getElem?.1 hx; have hkl := (ji.1 hk).1; rw [yDI, jp, List.length_singleton] at hkl; have hat : ndG (yBK e.num e.tx S.op (S.nodes ++ [yBF e i S.op])) (k : Int) = _ := yNX h1 hnum (i := i) (k := (k : Int)) (by omega) (by show (k : Int) ≤ (S.nodes.length : Int); omega); have hx2 : ndG (yBK e.num e.tx S.op (S.nodes ++ [yBF e i S.op])) (k : Int) = x := by unfold ndG; rw [Int.toNat_natCast, jg, hk]; rfl
   rw [hx2] at hat; by_cases e1 : (k : Int) = ((yAk S s.dn).nodes.length : Nat)
   ·rw [if_pos e1] at hat; rw [hat]; exact ⟨by show e.tx.size ≤ _; omega, hee⟩
   ·rw [if_neg e1] at hat; have hkn : k < S.nodes.length := by have : (k : Int) ≠ (S.nodes.length : Int) := e1; omega
    have hy : yAf (yAk S s.dn) (k : Int) ∈ S.nodes := yKA (show ((k : Int)).toNat < S.nodes.length by omega); have y1 := z1 _ hy; have y2 := z2 _ hy; split at hat
    ·rw [hat]; refine ⟨?_, y2⟩; show ((yAf (yAk S s.dn) (k : Int)).val ++ e.tx).size ≤ _; rw [ByteArray.size_append]; omega
    ·rw [hat]; exact ⟨by omega, y2⟩
  have hlen : (yBK e.num e.tx S.op (S.nodes ++ [yBF e i S.op])).length ≤ i + 1 := by rw [yDI, jp, List.length_singleton]; omega
  by_cases h0 : e.kd = 0
  ·have en : yAg es (i + 1) = ⟨yBK e.num e.tx S.op (S.nodes ++ [yBF e i S.op]), S.op ++ [e.num]⟩ := by rw [en]; unfold yBJ; rw [if_neg hk2, if_pos h0]
   exact ⟨fun x hx => by rw [en] at hx; rw [hB]; exact (hmem x hx).1, fun x hx => by rw [en] at hx; exact (hmem x hx).2, by rw [en]; exact hlen⟩
  ·have en : yAg es (i + 1) = ⟨(yBK e.num e.tx S.op (S.nodes ++ [yBF e i S.op])).modify e.num.toNat (yAP i), S.op⟩ := by rw [en]; unfold yBJ; rw [if_neg hk2, if_neg h0]
   refine ⟨fun x hx => ?_, fun x hx => ?_, ?_⟩
   ·rw [en] at hx; rw [hB]; obtain ⟨y, hy, e1 | e1⟩ := yBu hx
    ·rw [e1]; exact (hmem y hy).1
    ·rw [e1]; exact (hmem y hy).1
   ·rw [en] at hx; obtain ⟨y, hy, e1 | e1⟩ := yBu hx
    ·rw [e1]; exact (hmem y hy).2
    ·rw [e1]; exact (hmem y hy).2
   ·rw [en]; show ((yBK e.num e.tx S.op (S.nodes ++ [yBF e i S.op])).modify e.num.toNat (yAP i)).length ≤ _; rw [List.length_modify]; exact hlen
theorem yK1 {es : List EvD} {sE : CkS} {B : Nat} (hall : yA6 ck0 es = some sE) (hB : ∀ e ∈ es, e.tx.size ≤ B) : ∀ i, i ≤ es.length → yM5 es B i
 | 0, _ => ⟨fun _ h => (by cases h), fun _ h => (by cases h), jr _⟩
 | i + 1, hi => by
  obtain ⟨s, fs, h1, h2⟩ := yEY hall i (by omega); obtain ⟨e, he⟩ : ∃ e, es[i]? = some e := ⟨_, jk (by omega)⟩
  obtain ⟨t, t1, t2, t3⟩ := yCC hall he; rw [h1] at t1; injection t1 with t1
  subst t1; exact ySa h2 he t2 (yK1 hall hB i (by omega)) (hB e (List.mem_of_getElem? he))
def yJ6 (s : CkS) : Prop := ∀ j, j < s.os.length → (s.os.getD j zo).2.1 = (j : Int) + 1
theorem yPz {s : CkS} {e : EvD} (h : yJ6 s) (hn : yAI s e = true) : yJ6 (stp s e) := by
 unfold yAI at hn; rw [jb] at hn; have hn := hn.2; intro j hj; unfold stp at hj ⊢; by_cases h0 : e.kd = 0
 ·rw [if_pos h0] at hj ⊢; rw [if_pos h0, jb] at hn; have hn := hn.1; simp only [yDe, jb, decide_eq_true_eq] at hn; simp only [jp, List.length_cons, List.length_nil] at hj; show ((s.os ++ [(e.num, e.dep, e.nm)]).getD j zo).2.1 = _; by_cases hl : j < s.os.length
  ·rw [jg, List.getElem?_append_left hl, ← jg]; exact h j hl
  ·obtain rfl : j = s.os.length := by omega
   rw [jg, List.getElem?_append_right (jr _), Nat.sub_self]; exact hn.1.1.1.2
 ·rw [if_neg h0] at hj ⊢; by_cases h1 : e.kd = 1
  ·rw [if_pos h1] at hj ⊢; exact h j hj
  ·rw [if_neg h1] at hj ⊢; have hj2 : j < s.os.dropLast.length := hj; rw [List.length_dropLast] at hj2; show (s.os.dropLast.getD j zo).2.1 = _; rw [jg, List.getElem?_dropLast, if_pos hj2, ← jg]; exact h j (by omega)
theorem yIz : ∀ {l : List EvD} {s t : CkS}, yJ6 s → yA6 s l = some t → yJ6 t
 | [], s, t, h, e => by have e : s = t := Option.some.inj e; rw [← e]; exact h
 | x :: l, s, t, h, e => by
  unfold yA6 at e; split at e
  ·next hn => exact yIz (yPz h hn) e
  ·cases e
theorem yPS {l : List EvD} {t : CkS} (e : yA6 ck0 l = some t) : yJ6 t := yIz (fun _ hj => absurd hj (Nat.not_lt_zero _)) e
def yEd (es : List EvD) : Nat → List Int
 | 0 => []
 | i + 1 => if (es.getD i ze).kd = 0 then [] else [(es.getD i ze).num]
def yA0 (es : List EvD) (i : Nat) : List Int := (-1 :: (yAg es i).op) ++ yEd es i
theorem yRn {nd : yAc} {es : List EvD} {i : Nat} {s : CkS} {fs : List FrS} {e : EvD} (hr : yCV nd es i s fs) (hd : yJ6 s) (he : es[i]? = some e) (hn : yAI s e = true) :
  ∃ d : Nat, e.dep = d ∧ d ≤ (yA0 es i).length ∧ yA0 es (i + 1) = (yA0 es i).take d ++ [e.num] := by
 have hlo := yIE hr; have hg : es.getD i ze = e := by rw [jg, he]; rfl
 have ht : yEd es (i + 1) = if e.kd = 0 then [] else [e.num] := by show (if (es.getD i ze).kd = 0 then [] else [(es.getD i ze).num]) = _; rw [hg]
 have en := yBY he; unfold yAI at hn; rw [jb] at hn; have hn := hn.2; have htk : ∀ k, k ≤ (yAg es i).op.length + 1 → (yA0 es i).take k = (-1 :: (yAg es i).op).take k := fun k hk => by unfold yA0; rw [List.take_append_of_le_length (by simpa using hk)]
 have hsl : (yAg es i).op.length + 1 ≤ (yA0 es i).length := by unfold yA0; simp
 by_cases h0 : e.kd = 0
 ·rw [if_pos h0, jb] at hn; have hn := hn.1; simp only [yDe, jb, decide_eq_true_eq] at hn; have hdp : e.dep = ((yAg es i).op.length + 1 : Nat) := by rw [hlo, hn.1.1.1.2]; rfl
  refine ⟨_, hdp, hsl, ?_⟩; rw [htk _ (jr _), jm (by simp)]; unfold yA0; rw [ht, if_pos h0, en]; unfold yBJ; rw [if_neg (by omega), if_pos h0]; simp
 ·rw [if_neg h0] at hn; by_cases h1 : e.kd = 1
  ·rw [if_pos h1] at hn; simp only [yCR, jb, decide_eq_true_eq] at hn; have hdp : e.dep = ((yAg es i).op.length + 1 : Nat) := by rw [hlo, hn.1.1.1.1.1.1.2]; rfl
   refine ⟨_, hdp, hsl, ?_⟩; rw [htk _ (jr _), jm (by simp)]; unfold yA0; rw [ht, if_neg h0, en]; unfold yBJ; rw [if_neg (by omega), if_neg h0]
  ·rw [if_neg h1] at hn; by_cases h2 : e.kd = 2
   ·rw [if_pos h2] at hn; simp only [yFr, jb, decide_eq_true_eq] at hn; obtain ⟨hos, ⟨⟨⟨⟨_, hdep⟩, _⟩, _⟩, _⟩⟩ := hn; have hdp : e.dep = ((yAg es i).op.length : Nat) := by rw [hdep, hd _ (by omega), hlo]; omega
    have hne : (yAg es i).op ≠ [] := fun hx => by rw [hx] at hlo; simp at hlo; omega
    refine ⟨_, hdp, by omega, ?_⟩; rw [htk _ (by omega)]; unfold yA0; rw [ht, if_neg h0, en]; unfold yBJ; rw [if_pos h2]; have htd : (-1 :: (yAg es i).op).take (yAg es i).op.length = -1 :: (yAg es i).op.dropLast := by rw [← List.dropLast_cons_of_ne_nil hne, List.dropLast_eq_take]; simp
    rw [htd]
   ·rw [if_neg h2] at hn; cases hn
end Go.Proofs.YtkhejkfjhddobaaGreatDoor
