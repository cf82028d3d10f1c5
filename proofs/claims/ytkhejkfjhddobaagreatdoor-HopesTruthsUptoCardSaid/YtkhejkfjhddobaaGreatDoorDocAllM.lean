/- Behind every event of a beginning the document stands as it should. Plain. -/
import Derived.Test.YtkhejkfjhddobaaGreatDoorDocFrsM
import Derived.Test.YtkhejkfjhddobaaGreatDoorFindM
set_option linter.unusedSimpArgs false
namespace Go.Proofs.YtkhejkfjhddobaaGreatDoor
open Go.RowKit Gim
theorem run_next {nd : NetD} {es : List EvD} {i : Nat} {s : CkS} {fs : List FrS} {e : EvD} (hN : NetFit2 nd) (h : RunD nd es i s fs) (he : es[i]? = some e) (hn : nxtB s e = true) : RunD nd es (i + 1) (stp s e) (takeFs nd (stp s e).dn fs e).1 ∧
  ((e.kd = 0 ∧ (takeFs nd (stp s e).dn fs e).2 = none) ∨ (e.kd ≠ 0 ∧ ∃ l, (takeFs nd (stp s e).dn fs e).2 = some l ∧ ∀ p, p < nd.preds.length → l.getD p 0 = exD (docS (ndsN es (i + 1)) (stp s e).dn) (xN nd p) e.num)) := by
 by_cases h0 : e.kd = 0
 ·obtain ⟨a, b⟩ := run_open hN h he hn h0
  exact ⟨a, .inl ⟨h0, b⟩⟩
 ·by_cases h1 : e.kd = 1
  ·obtain ⟨a, l, b, c⟩ := run_text hN h he hn h1
   exact ⟨a, .inr ⟨h0, l, b, c⟩⟩
  ·have h2 : e.kd = 2 := by
    refine Classical.byContradiction fun h2 => ?_
    unfold nxtB at hn
    rw [if_neg h0, if_neg h1, if_neg h2, Bool.and_false] at hn
    cases hn
   obtain ⟨a, l, b, c⟩ := run_close hN h he hn h2
   exact ⟨a, .inr ⟨h0, l, b, c⟩⟩
def nd0 : NetD := ⟨0, [], []⟩
theorem nd0_fit : NetFit2 nd0 :=
 ⟨⟨⟨fun _ h => absurd h (Nat.not_lt_zero _), fun _ h => absurd h (Nat.not_lt_zero _), fun _ h => absurd h (Nat.not_lt_zero _)⟩, fun _ h => absurd h (Nat.not_lt_zero _), fun _ h => absurd h (Nat.not_lt_zero _), fun _ _ _ h => absurd h (Nat.not_lt_zero _)⟩, fun _ h => absurd h (Nat.not_lt_zero _), fun _ h => absurd h (Nat.not_lt_zero _)⟩
theorem run_all {es : List EvD} {sE : CkS} (hall : begS ck0 es = some sE) : ∀ i, i ≤ es.length → ∃ s fs, begS ck0 (es.take i) = some s ∧ RunD nd0 es i s fs
 | 0, _ => ⟨ck0, _, rfl, RunD.start nd0_fit es⟩
 | i + 1, hi => by
  obtain ⟨s, fs, h1, h2⟩ := run_all hall i (by omega)
  obtain ⟨e, he⟩ : ∃ e, es[i]? = some e := ⟨_, jk (by omega)⟩
  obtain ⟨t, t1, t2, t3⟩ := begS_next hall he
  rw [h1] at t1
  injection t1 with t1
  subst t1
  exact ⟨_, _, t3, (run_next nd0_fit h2 he t2).1⟩
theorem ndsN_take (es : List EvD) (j : Nat) : ∀ i, i ≤ j → ndsN (es.take j) i = ndsN es i
 | 0, _ => rfl
 | i + 1, hi => by
  show ndStep (ndsN (es.take j) i) i ((es.take j).getD i ze) = ndStep (ndsN es i) i (es.getD i ze)
  rw [ndsN_take es j i (by omega), jg, List.getElem?_take_of_lt (by omega), ← jg]
theorem doc_last {D : DocD} {op : List Int} (h : DocOk D op) : ∀ m : Int, -1 ≤ m → m < D.nodes.length → lastD D m < D.nodes.length ∧ m ≤ lastD D m := fun m h1 h2 => by
 by_cases hm : m < 0
 ·unfold lastD
  rw [if_pos hm]
  omega
 ·rw [lastD_pos (by omega)]
  by_cases ho : (ndAt D m).clo < 0
  ·have := h.lst m ((h.opn m (by omega) h2).1 ho)
   omega
  ·have := h.rngs m (by omega) h2 (by omega)
   omega
structure NdsSz (es : List EvD) (B i : Nat) : Prop where
 val : ∀ x ∈ (ndsN es i).nodes, x.val.size ≤ i * B
 ev : ∀ x ∈ (ndsN es i).nodes, x.ev ∈ es
 len : (ndsN es i).nodes.length ≤ i
theorem mem_modifyN {α : Type} {g : α → α} : ∀ {l : List α} {n : Nat} {x : α}, x ∈ l.modify n g → ∃ y ∈ l, x = y ∨ x = g y
 | [], n, x, h => by simp at h
 | a :: l, 0, x, h => by
  rw [List.modify_zero_cons, List.mem_cons] at h
  rcases h with h | h
  ·exact ⟨a, List.mem_cons_self, .inr h⟩
  ·exact ⟨x, List.mem_cons_of_mem _ h, .inl rfl⟩
 | a :: l, n + 1, x, h => by
  rw [List.modify_succ_cons, List.mem_cons] at h
  rcases h with h | h
  ·exact ⟨a, List.mem_cons_self, .inl h⟩
  ·obtain ⟨y, hy, e⟩ := mem_modifyN h
   exact ⟨y, List.mem_cons_of_mem _ hy, e⟩
theorem sz_next {es : List EvD} {i B : Nat} {s : CkS} {fs : List FrS} {e : EvD} (h : RunD nd0 es i s fs) (he : es[i]? = some e) (hn : nxtB s e = true) (hsz : NdsSz es B i) (htx : e.tx.size ≤ B) : NdsSz es B (i + 1) := by
 have hee : e ∈ es := List.mem_of_getElem? he
 have hB : (i + 1) * B = i * B + B := Nat.succ_mul i B
 obtain ⟨S, hS⟩ := je (ndsN es i)
 have en := ndsN_next he
 obtain ⟨h1, h2, h3, _⟩ := h
 obtain ⟨z1, z2, z3⟩ := hsz
 rw [hS] at en h1 h2 h3 z1 z2 z3
 by_cases hk2 : e.kd = 2
 ·have en : ndsN es (i + 1) = ⟨S.nodes.modify e.num.toNat (shutN i), S.op.dropLast⟩ := by rw [en]; unfold ndStep; rw [if_pos hk2]
  refine ⟨fun x hx => ?_, fun x hx => ?_, ?_⟩
  ·rw [en] at hx
   obtain ⟨y, hy, e1 | e1⟩ := mem_modifyN hx
   ·rw [e1]; have := z1 y hy; omega
   ·rw [e1]; have := z1 y hy; show y.val.size ≤ _; omega
  ·rw [en] at hx
   obtain ⟨y, hy, e1 | e1⟩ := mem_modifyN hx
   ·rw [e1]; exact z2 y hy
   ·rw [e1]; exact z2 y hy
  ·rw [en]
   show (S.nodes.modify e.num.toNat (shutN i)).length ≤ _
   rw [List.length_modify]
   omega
 ·have hnum : e.num = (docS S s.dn).nodes.length := by
   unfold nxtB at hn
   rw [jb] at hn
   have hn := hn.2
   by_cases h0 : e.kd = 0
   ·rw [if_pos h0] at hn
    simp only [opnB, jb, decide_eq_true_eq] at hn
    rw [hn.1.1.1.1.1, h2]
    rfl
   ·rw [if_neg h0] at hn
    by_cases h1' : e.kd = 1
    ·rw [if_pos h1'] at hn
     simp only [txtB, jb, decide_eq_true_eq] at hn
     rw [hn.1.1.1.1.1.1.1, h2]
     rfl
    ·rw [if_neg h1', if_neg hk2] at hn
     cases hn
  have hmem : ∀ x ∈ addV e.num e.tx S.op (S.nodes ++ [newN e i S.op]), (x.val.size ≤ i * B + B) ∧ x.ev ∈ es := fun x hx => by
   obtain ⟨k, hk⟩ := List.mem_iff_getElem?.1 hx
   have hkl := (ji.1 hk).1
   rw [addV_len, jp, List.length_singleton] at hkl
   have hat : ndG (addV e.num e.tx S.op (S.nodes ++ [newN e i S.op])) (k : Int) = _ := new_at h1 hnum (i := i) (k := (k : Int)) (by omega) (by show (k : Int) ≤ (S.nodes.length : Int); omega)
   have hx2 : ndG (addV e.num e.tx S.op (S.nodes ++ [newN e i S.op])) (k : Int) = x := by
    unfold ndG
    rw [Int.toNat_natCast, jg, hk]
    rfl
   rw [hx2] at hat
   by_cases e1 : (k : Int) = ((docS S s.dn).nodes.length : Nat)
   ·rw [if_pos e1] at hat
    rw [hat]
    exact ⟨by show e.tx.size ≤ _; omega, hee⟩
   ·rw [if_neg e1] at hat
    have hkn : k < S.nodes.length := by
     have : (k : Int) ≠ (S.nodes.length : Int) := e1
     omega
    have hy : ndAt (docS S s.dn) (k : Int) ∈ S.nodes := nd_mem (show ((k : Int)).toNat < S.nodes.length by omega)
    have y1 := z1 _ hy
    have y2 := z2 _ hy
    split at hat
    ·rw [hat]
     refine ⟨?_, y2⟩
     show ((ndAt (docS S s.dn) (k : Int)).val ++ e.tx).size ≤ _
     rw [ByteArray.size_append]
     omega
    ·rw [hat]
     exact ⟨by omega, y2⟩
  have hlen : (addV e.num e.tx S.op (S.nodes ++ [newN e i S.op])).length ≤ i + 1 := by
   rw [addV_len, jp, List.length_singleton]
   omega
  by_cases h0 : e.kd = 0
  ·have en : ndsN es (i + 1) = ⟨addV e.num e.tx S.op (S.nodes ++ [newN e i S.op]), S.op ++ [e.num]⟩ := by rw [en]; unfold ndStep; rw [if_neg hk2, if_pos h0]
   exact ⟨fun x hx => by rw [en] at hx; rw [hB]; exact (hmem x hx).1, fun x hx => by rw [en] at hx; exact (hmem x hx).2, by rw [en]; exact hlen⟩
  ·have en : ndsN es (i + 1) = ⟨(addV e.num e.tx S.op (S.nodes ++ [newN e i S.op])).modify e.num.toNat (shutN i), S.op⟩ := by rw [en]; unfold ndStep; rw [if_neg hk2, if_neg h0]
   refine ⟨fun x hx => ?_, fun x hx => ?_, ?_⟩
   ·rw [en] at hx
    rw [hB]
    obtain ⟨y, hy, e1 | e1⟩ := mem_modifyN hx
    ·rw [e1]; exact (hmem y hy).1
    ·rw [e1]; exact (hmem y hy).1
   ·rw [en] at hx
    obtain ⟨y, hy, e1 | e1⟩ := mem_modifyN hx
    ·rw [e1]; exact (hmem y hy).2
    ·rw [e1]; exact (hmem y hy).2
   ·rw [en]
    show ((addV e.num e.tx S.op (S.nodes ++ [newN e i S.op])).modify e.num.toNat (shutN i)).length ≤ _
    rw [List.length_modify]
    exact hlen
theorem sz_all {es : List EvD} {sE : CkS} {B : Nat} (hall : begS ck0 es = some sE) (hB : ∀ e ∈ es, e.tx.size ≤ B) : ∀ i, i ≤ es.length → NdsSz es B i
 | 0, _ => ⟨fun _ h => (by cases h), fun _ h => (by cases h), jr _⟩
 | i + 1, hi => by
  obtain ⟨s, fs, h1, h2⟩ := run_all hall i (by omega)
  obtain ⟨e, he⟩ : ∃ e, es[i]? = some e := ⟨_, jk (by omega)⟩
  obtain ⟨t, t1, t2, t3⟩ := begS_next hall he
  rw [h1] at t1
  injection t1 with t1
  subst t1
  exact sz_next h2 he t2 (sz_all hall hB i (by omega)) (hB e (List.mem_of_getElem? he))
def DepOk (s : CkS) : Prop := ∀ j, j < s.os.length → (s.os.getD j zo).2.1 = (j : Int) + 1
theorem depOk_stp {s : CkS} {e : EvD} (h : DepOk s) (hn : nxtB s e = true) : DepOk (stp s e) := by
 unfold nxtB at hn
 rw [jb] at hn
 have hn := hn.2
 intro j hj
 unfold stp at hj ⊢
 by_cases h0 : e.kd = 0
 ·rw [if_pos h0] at hj ⊢
  rw [if_pos h0, jb] at hn
  have hn := hn.1
  simp only [opnB, jb, decide_eq_true_eq] at hn
  simp only [jp, List.length_cons, List.length_nil] at hj
  show ((s.os ++ [(e.num, e.dep, e.nm)]).getD j zo).2.1 = _
  by_cases hl : j < s.os.length
  ·rw [jg, List.getElem?_append_left hl, ← jg]
   exact h j hl
  ·obtain rfl : j = s.os.length := by omega
   rw [jg, List.getElem?_append_right (jr _), Nat.sub_self]
   exact hn.1.1.1.2
 ·rw [if_neg h0] at hj ⊢
  by_cases h1 : e.kd = 1
  ·rw [if_pos h1] at hj ⊢
   exact h j hj
  ·rw [if_neg h1] at hj ⊢
   have hj2 : j < s.os.dropLast.length := hj
   rw [List.length_dropLast] at hj2
   show (s.os.dropLast.getD j zo).2.1 = _
   rw [jg, List.getElem?_dropLast, if_pos hj2, ← jg]
   exact h j (by omega)
theorem depOk_from : ∀ {l : List EvD} {s t : CkS}, DepOk s → begS s l = some t → DepOk t
 | [], s, t, h, e => by
  have e : s = t := Option.some.inj e
  rw [← e]
  exact h
 | x :: l, s, t, h, e => by
  unfold begS at e
  split at e
  ·next hn => exact depOk_from (depOk_stp h hn) e
  ·cases e
theorem depOk_beg {l : List EvD} {t : CkS} (e : begS ck0 l = some t) : DepOk t := depOk_from (fun _ hj => absurd hj (Nat.not_lt_zero _)) e
def tailN (es : List EvD) : Nat → List Int
 | 0 => []
 | i + 1 => if (es.getD i ze).kd = 0 then [] else [(es.getD i ze).num]
def stdN (es : List EvD) (i : Nat) : List Int := (-1 :: (ndsN es i).op) ++ tailN es i
theorem std_step {nd : NetD} {es : List EvD} {i : Nat} {s : CkS} {fs : List FrS} {e : EvD} (hr : RunD nd es i s fs) (hd : DepOk s) (he : es[i]? = some e) (hn : nxtB s e = true) :
  ∃ d : Nat, e.dep = d ∧ d ≤ (stdN es i).length ∧ stdN es (i + 1) = (stdN es i).take d ++ [e.num] := by
 have hlo := op_len hr
 have hg : es.getD i ze = e := by rw [jg, he]; rfl
 have ht : tailN es (i + 1) = if e.kd = 0 then [] else [e.num] := by
  show (if (es.getD i ze).kd = 0 then [] else [(es.getD i ze).num]) = _
  rw [hg]
 have en := ndsN_next he
 unfold nxtB at hn
 rw [jb] at hn
 have hn := hn.2
 have htk : ∀ k, k ≤ (ndsN es i).op.length + 1 → (stdN es i).take k = (-1 :: (ndsN es i).op).take k := fun k hk => by
  unfold stdN
  rw [List.take_append_of_le_length (by simpa using hk)]
 have hsl : (ndsN es i).op.length + 1 ≤ (stdN es i).length := by unfold stdN; simp
 by_cases h0 : e.kd = 0
 ·rw [if_pos h0, jb] at hn
  have hn := hn.1
  simp only [opnB, jb, decide_eq_true_eq] at hn
  have hdp : e.dep = ((ndsN es i).op.length + 1 : Nat) := by rw [hlo, hn.1.1.1.2]; rfl
  refine ⟨_, hdp, hsl, ?_⟩
  rw [htk _ (jr _), jm (by simp)]
  unfold stdN
  rw [ht, if_pos h0, en]
  unfold ndStep
  rw [if_neg (by omega), if_pos h0]
  simp
 ·rw [if_neg h0] at hn
  by_cases h1 : e.kd = 1
  ·rw [if_pos h1] at hn
   simp only [txtB, jb, decide_eq_true_eq] at hn
   have hdp : e.dep = ((ndsN es i).op.length + 1 : Nat) := by rw [hlo, hn.1.1.1.1.1.1.2]; rfl
   refine ⟨_, hdp, hsl, ?_⟩
   rw [htk _ (jr _), jm (by simp)]
   unfold stdN
   rw [ht, if_neg h0, en]
   unfold ndStep
   rw [if_neg (by omega), if_neg h0]
  ·rw [if_neg h1] at hn
   by_cases h2 : e.kd = 2
   ·rw [if_pos h2] at hn
    simp only [clsB, jb, decide_eq_true_eq] at hn
    obtain ⟨hos, ⟨⟨⟨⟨_, hdep⟩, _⟩, _⟩, _⟩⟩ := hn
    have hdp : e.dep = ((ndsN es i).op.length : Nat) := by
     rw [hdep, hd _ (by omega), hlo]
     omega
    have hne : (ndsN es i).op ≠ [] := fun hx => by rw [hx] at hlo; simp at hlo; omega
    refine ⟨_, hdp, by omega, ?_⟩
    rw [htk _ (by omega)]
    unfold stdN
    rw [ht, if_neg h0, en]
    unfold ndStep
    rw [if_pos h2]
    have htd : (-1 :: (ndsN es i).op).take (ndsN es i).op.length = -1 :: (ndsN es i).op.dropLast := by
     rw [← List.dropLast_cons_of_ne_nil hne, List.dropLast_eq_take]
     simp
    rw [htd]
   ·rw [if_neg h2] at hn
    cases hn
end Go.Proofs.YtkhejkfjhddobaaGreatDoor
