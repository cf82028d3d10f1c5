/- What is known of a text that comes stays known; where it is unknown, both may follow: plain. -/
import Derived.Test.YtgajinnbmnnccaaHuntWordsLaw
namespace Go.Proofs.Ytgajinnbmnnccaa
open Go.RowKit Gim
theorem gt_app {l : List Int} (m : List Int) {j : Nat} (h : j < l.length) : gt (l ++ m) j = gt l j := by
  unfold gt
  rw [List.getElem?_append_left h]
theorem gt_app2 {l : List Int} (m : List Int) (j : Nat) : gt (l ++ m) (l.length + j) = gt m j := by
  unfold gt
  rw [List.getElem?_append_right (by omega), Nat.add_sub_cancel_left]
theorem offB_app {l T : List Int} (m : List Int) (h : offB l T = true) : offB (l ++ m) T = true := by
  unfold offB at *
  rw [List.any_eq_true] at *
  obtain ⟨j, hj, hne⟩ := h
  rw [List.mem_range] at hj
  exact ⟨j, List.mem_range.2 (by rw [List.length_append]; omega), by rw [gt_app m (by omega)]; exact hne⟩
theorem offB_full {l T : List Int} (m : List Int) (h : T.length ≤ l.length) : offB (l ++ m) T = offB l T := by
  rw [Bool.eq_iff_iff]
  refine ⟨fun h1 => ?_, offB_app m⟩
  unfold offB at *
  rw [List.any_eq_true] at *
  obtain ⟨j, hj, hne⟩ := h1
  rw [List.mem_range, List.length_append] at hj
  exact ⟨j, List.mem_range.2 (by omega), by rw [gt_app m (by omega)] at hne; exact hne⟩
theorem standsB_app {l T : List Int} (m : List Int) {p : Nat} (h : standsB l T p = true) : standsB (l ++ m) T p = true := by
  rw [standsB_iff] at *
  exact ⟨by rw [List.length_append]; omega, fun j hj => by rw [gt_app m (by omega)]; exact h.2 j hj⟩
theorem fndB_app {l T : List Int} (m : List Int) (h : fndB l T = true) : fndB (l ++ m) T = true := by
  rw [fndB_iff] at *
  obtain ⟨p, h⟩ := h
  exact ⟨p, standsB_app m h⟩
theorem stands_end (l T : List Int) : standsB (l ++ T) T l.length = true := by
  rw [standsB_iff]
  exact ⟨by rw [List.length_append]; omega, fun j _ => gt_app2 T j⟩
theorem ends_app (l T : List Int) : endsB (l ++ T) T = true := by
  unfold endsB
  rw [List.length_append, Nat.add_sub_cancel, stands_end, Bool.and_true, decide_eq_true_eq]
  omega
theorem off_none {l T : List Int} (h : offB l T = false) {j : Nat} (h1 : j < l.length) (h2 : j < T.length) : gt T j = gt l j := by
  unfold offB at h
  rw [List.any_eq_false] at h
  have := h j (List.mem_range.2 (by omega))
  rwa [bne_iff_ne, ne_eq, Classical.not_not] at this
/-- what has not gone off is the text's beginning -/
theorem off_drop {l T : List Int} (h : offB l T = false) (hl : l.length ≤ T.length) : l ++ T.drop l.length = T := by
  refine List.ext_getElem (by simp; omega) fun j hj hj2 => ?_
  by_cases hlt : j < l.length
  · rw [List.getElem_append_left hlt, ← gt_lt hlt, ← gt_lt hj2]
    exact (off_none h hlt hj2).symm
  · rw [List.getElem_append_right (by omega), List.getElem_drop]
    congr 1
    omega
/-- a text's last character is x -/
theorem ends_one {l : List Int} {x : Int} : endsB l [x] = true ↔ ∃ m, l = m ++ [x] := by
  constructor
  · intro h
    unfold endsB at h
    rw [Bool.and_eq_true, decide_eq_true_eq, standsB_iff] at h
    obtain ⟨h1, h2, h3⟩ := h
    simp only [List.length_cons, List.length_nil] at h1 h2 h3
    have h4 := h3 0 (by omega)
    have h5 : gt l (l.length - 1) = x := h4
    refine ⟨l.take (l.length - 1), ?_⟩
    have := List.take_succ_eq_append_getElem (l := l) (i := l.length - 1) (by omega)
    rw [show l.length - 1 + 1 = l.length by omega, List.take_length, ← gt_lt (by omega), h5] at this
    exact this
  · rintro ⟨m, rfl⟩
    exact ends_app m [x]
/-- where the last characters differ the texts differ, and the one does not end in the other -/
theorem ends_snoc {l T : List Int} {x : Int} (h : endsB T [x] = false) (hT : T ≠ []) : endsB (l ++ [x]) T = false := by
  rw [← Bool.not_eq_true]
  intro h1
  unfold endsB at h1
  rw [Bool.and_eq_true, decide_eq_true_eq, standsB_iff] at h1
  obtain ⟨h1, h2, h3⟩ := h1
  rw [List.length_append, List.length_singleton] at h1 h2 h3
  have hpos : 0 < T.length := List.length_pos_iff.2 hT
  have h4 := h3 (T.length - 1) (by omega)
  rw [show l.length + 1 - T.length + (T.length - 1) = l.length + 0 by omega, gt_app2, show gt [x] 0 = x from rfl] at h4
  have : endsB T [x] = true := by
    rw [ends_one]
    refine ⟨T.take (T.length - 1), ?_⟩
    have := List.take_succ_eq_append_getElem (l := T) (i := T.length - 1) (by omega)
    rw [show T.length - 1 + 1 = T.length by omega, List.take_length, ← gt_lt (by omega), ← h4] at this
    exact this
  rw [h] at this
  cases this
theorem told_two {a b w : Bool} (h : toldZ a b w ≠ 1) : (a = true) ∨ (a = false ∧ (b || w) = true) := by
  cases a
  · refine .inr ⟨rfl, ?_⟩
    cases hb : (b || w)
    · exact absurd (by unfold toldZ; rw [hb]; rfl) h
    · rfl
  · exact .inl rfl
theorem told_h {b w : Bool} : toldZ true b w = 2 := rfl
theorem told_n {b w : Bool} (h : (b || w) = true) : toldZ false b w = 0 := by unfold toldZ; rw [h]; rfl
/-- what is known stays known -/
theorem tB_mono {c : Int} {N : Nat} {T l : List Int} (m : List Int) (wh : Bool) (h : tB c N T l false ≠ 1) : tB c N T (l ++ m) wh = tB c N T l false := by
  have hl : (l ++ m).length = l.length + m.length := List.length_append
  have E : ∀ (x : Bool), (x = decide ((l ++ m).length = T.length)) → offB l T = true ∨ T.length < l.length → toldZ (wh && x && !offB (l ++ m) T) (offB (l ++ m) T || decide (T.length < (l ++ m).length)) wh = 0 := by
    rintro x rfl (h1 | h1)
    · rw [offB_app m h1, Bool.not_true, Bool.and_false]
      exact told_n (by simp)
    · rw [decide_eq_false (by omega : ¬ (l ++ m).length = T.length), Bool.and_false, Bool.false_and]
      exact told_n (by rw [decide_eq_true (by omega : T.length < (l ++ m).length)]; simp)
  have E0 : tB 1 N T l false ≠ 1 → offB l T = true ∨ T.length < l.length := by
    intro h
    have h : toldZ (false && decide (l.length = T.length) && !offB l T) (offB l T || decide (T.length < l.length)) false ≠ 1 := h
    rcases told_two h with h1 | ⟨_, h1⟩
    · rw [Bool.false_and, Bool.false_and] at h1; cases h1
    · rw [Bool.or_false, Bool.or_eq_true, decide_eq_true_eq] at h1; exact h1
  have E1 : ∀ a b : Bool, toldZ a b false = 1 ∨ toldZ a b false ≠ 1 := fun a b => by by_cases h : toldZ a b false = 1 <;> simp [h]
  unfold tB at h ⊢
  split at h <;> rename_i c0
  · rw [if_pos c0, if_pos c0]
  split at h <;> rename_i c1
  · rw [if_neg c0, if_neg c0, if_pos c1, if_pos c1]
    have hh := E0 h
    rw [E _ rfl hh]
    exact (told_n (by rcases hh with h1 | h1 <;> simp [h1])).symm
  split at h <;> rename_i c2
  · rw [if_neg c0, if_neg c0, if_neg c1, if_neg c1, if_pos c2, if_pos c2]
    have hh := E0 (fun e => by
      have e : toldZ (false && decide (l.length = T.length) && !offB l T) (offB l T || decide (T.length < l.length)) false = 1 := e
      rw [e] at h
      exact h rfl)
    rw [E _ rfl hh]
    rw [show toldZ (false && decide (l.length = T.length) && !offB l T) (offB l T || decide (T.length < l.length)) false = 0 from told_n (by rcases hh with h1 | h1 <;> simp [h1])]
  rw [if_neg c0, if_neg c0, if_neg c1, if_neg c1, if_neg c2, if_neg c2]
  split at h <;> rename_i c3
  · rw [if_pos c3, if_pos c3]
    rcases told_two h with h1 | ⟨h1, h2⟩
    · rw [h1]
      rw [Bool.and_eq_true, decide_eq_true_eq] at h1
      rw [offB_full m h1.2, h1.1, decide_eq_true (by omega : T.length ≤ (l ++ m).length)]
      rfl
    · rw [Bool.or_false] at h2
      rw [offB_app m h2, h2, Bool.not_true, Bool.false_and, Bool.false_and]
      rfl
  rw [if_neg c3, if_neg c3]
  split at h <;> rename_i c4
  · exact absurd rfl h
  rw [if_neg c4, if_neg c4]
  split at h <;> rename_i c5
  · rw [if_pos c5, if_pos c5]
    rcases told_two h with h1 | ⟨h1, h2⟩
    · rw [fndB_app m h1, h1]; rfl
    · cases h2
  rw [if_neg c5, if_neg c5]
  split at h <;> rename_i c6
  · rw [if_pos c6, if_pos c6]
    rcases told_two h with h1 | ⟨h1, h2⟩
    · cases h1
    · rw [Bool.or_false, decide_eq_true_eq] at h2
      rw [decide_eq_false (by omega : ¬ (l ++ m).length = N), decide_eq_true h2, decide_eq_true (by omega : N < (l ++ m).length), Bool.and_false]
      rfl
  rw [if_neg c6, if_neg c6]
  split at h <;> rename_i c7
  · rw [if_pos c7, if_pos c7]
    rcases told_two h with h1 | ⟨h1, h2⟩
    · rw [decide_eq_true_eq] at h1
      rw [decide_eq_true h1, decide_eq_true (by omega : N < (l ++ m).length)]; rfl
    · cases h2
  rw [if_neg c7, if_neg c7]
  rcases told_two h with h1 | ⟨h1, h2⟩
  · cases h1
  · rw [Bool.or_false, decide_eq_true_eq] at h2
    rw [decide_eq_false (by omega : ¬ (l ++ m).length < N), decide_eq_true h2, decide_eq_true (by omega : N ≤ (l ++ m).length), Bool.and_false]
    rfl
/-- of a whole text it is known -/
theorem tB_whole (c : Int) (N : Nat) (T l : List Int) : tB c N T l true = 0 ∨ tB c N T l true = 2 := by
  have E : ∀ a b, toldZ a b true = 0 ∨ toldZ a b true = 2 := fun a b => by cases a <;> cases b <;> simp [toldZ]
  unfold tB
  repeat' split
  · exact .inr rfl
  · exact E _ _
  · rcases E (true && decide (l.length = T.length) && !offB l T) (offB l T || decide (T.length < l.length)) with h | h <;> rw [h] <;> simp
  all_goals exact E _ _
theorem tB_range (c : Int) (N : Nat) (T l : List Int) (w : Bool) : 0 ≤ tB c N T l w ∧ tB c N T l w ≤ 2 := by
  have E : ∀ a b, 0 ≤ toldZ a b w ∧ toldZ a b w ≤ 2 := fun a b => toldZ_range a b w
  unfold tB
  repeat' split
  · omega
  · exact E _ _
  · have := E (w && decide (l.length = T.length) && !offB l T) (offB l T || decide (T.length < l.length)); omega
  all_goals exact E _ _
/-- the six texts that are tried -/
def triesL (U : List Int) (N n : Nat) (x : Int) (i : Nat) : List Int :=
  if i = 1 then U else if i = 2 then U.drop n else if i = 3 then (if n < N ∧ N - n < 2000 then List.replicate (N - n) 0 else []) else if i = 4 then (if n < N + 1 ∧ N + 1 - n < 2000 then List.replicate (N + 1 - n) 0 else []) else if i = 5 then [x] else []
/-- where nothing is known, both may follow -/
theorem early_law {c : Int} {N : Nat} {s : ByteArray} {l : List Int} {x : Int} (h0 : 0 ≤ c) (h8 : c ≤ 8) (hN : N < 1900) (hx : endsB (rs s) [x] = false) (h4 : c = 4 → rs s ≠ []) (h : tB c N (askedT c s) l false = 1) :
    (∃ i, i < 6 ∧ tB c N (askedT c s) (l ++ triesL (rs s) N l.length x i) true = 0) ∧ (∃ i, i < 6 ∧ tB c N (askedT c s) (l ++ triesL (rs s) N l.length x i) true = 2) := by
  have W : ∀ m, tB c N (askedT c s) m true = if wantB c N (rs s) m then 2 else 0 := fun m => whole_want h0 h8
  have t0 : triesL (rs s) N l.length x 0 = [] := rfl
  have t1 : triesL (rs s) N l.length x 1 = rs s := rfl
  have t2 : triesL (rs s) N l.length x 2 = (rs s).drop l.length := rfl
  have t5 : triesL (rs s) N l.length x 5 = [x] := rfl
  have t4 : l.length ≤ N → triesL (rs s) N l.length x 4 = List.replicate (N + 1 - l.length) 0 := fun k => by
    show (if l.length < N + 1 ∧ N + 1 - l.length < 2000 then List.replicate (N + 1 - l.length) (0 : Int) else []) = _
    exact if_pos ⟨by omega, by omega⟩
  have t3 : l.length < N → triesL (rs s) N l.length x 3 = List.replicate (N - l.length) 0 := fun k => by
    show (if l.length < N ∧ N - l.length < 2000 then List.replicate (N - l.length) (0 : Int) else []) = _
    exact if_pos ⟨by omega, by omega⟩
  obtain ⟨T, hT⟩ : ∃ T, T = rs s := ⟨_, rfl⟩
  have hne : l ++ [x] ≠ T := fun e => by
    have : endsB (rs s) [x] = true := by rw [ends_one]; exact ⟨l, by rw [← hT, e]⟩
    rw [hx] at this
    cases this
  have hord : ∀ m, (ordI m (rs s) == 0) = decide (m = rs s) := fun m => by
    rw [Bool.eq_iff_iff, beq_iff_eq, decide_eq_true_eq]; exact ordI_zero_iff
  have E1 : toldZ (false && decide (l.length = (rs s).length) && !offB l (rs s)) (offB l (rs s) || decide ((rs s).length < l.length)) false = 1 → l ++ (rs s).drop l.length = rs s := fun h => by
    have h1 : (offB l (rs s) || decide ((rs s).length < l.length)) = false := by
      cases hb : (offB l (rs s) || decide ((rs s).length < l.length))
      · rfl
      · rw [hb] at h; cases h
    rw [Bool.or_eq_false_iff, decide_eq_false_iff_not] at h1
    exact off_drop h1.1 (by omega)
  obtain rfl | rfl | rfl | rfl | rfl | rfl | rfl | rfl | rfl : c = 0 ∨ c = 1 ∨ c = 2 ∨ c = 3 ∨ c = 4 ∨ c = 5 ∨ c = 6 ∨ c = 7 ∨ c = 8 := by omega
  · cases h
  · have hd := E1 h
    refine ⟨⟨5, by omega, ?_⟩, ⟨2, by omega, ?_⟩⟩
    · rw [W, t5, show wantB 1 N (rs s) (l ++ [x]) = (ordI (l ++ [x]) (rs s) == 0) from rfl, hord, ← hT, decide_eq_false hne]; rfl
    · rw [W, t2, hd, show wantB 1 N (rs s) (rs s) = (ordI (rs s) (rs s) == 0) from rfl, hord, decide_eq_true rfl]; rfl
  · have hd := E1 (by
      have h : 2 - toldZ (false && decide (l.length = (rs s).length) && !offB l (rs s)) (offB l (rs s) || decide ((rs s).length < l.length)) false = 1 := h
      omega)
    refine ⟨⟨2, by omega, ?_⟩, ⟨5, by omega, ?_⟩⟩
    · rw [W, t2, hd, show wantB 2 N (rs s) (rs s) = !(ordI (rs s) (rs s) == 0) from rfl, hord, decide_eq_true rfl]; rfl
    · rw [W, t5, show wantB 2 N (rs s) (l ++ [x]) = !(ordI (l ++ [x]) (rs s) == 0) from rfl, hord, ← hT, decide_eq_false hne]; rfl
  · have h : toldZ (!offB l (rs s) && decide ((rs s).length ≤ l.length)) (offB l (rs s)) false = 1 := h
    have ho : offB l (rs s) = false := by
      cases hb : offB l (rs s)
      · rfl
      · rw [hb] at h; cases h
    have hlt : ¬ (rs s).length ≤ l.length := fun k => by rw [ho, decide_eq_true k] at h; cases h
    refine ⟨⟨0, by omega, ?_⟩, ⟨2, by omega, ?_⟩⟩
    · rw [W, t0, List.append_nil, show wantB 3 N (rs s) l = standsB l (rs s) 0 from rfl, ← begins_iff, decide_eq_false hlt, Bool.and_false]; rfl
    · rw [W, t2, off_drop ho (by omega), show wantB 3 N (rs s) (rs s) = standsB (rs s) (rs s) 0 from rfl, show standsB (rs s) (rs s) 0 = true from by have := stands_end [] (rs s); exact this]; rfl
  · refine ⟨⟨5, by omega, ?_⟩, ⟨1, by omega, ?_⟩⟩
    · rw [W, t5, show wantB 4 N (rs s) (l ++ [x]) = endsB (l ++ [x]) (rs s) from rfl, ends_snoc hx (h4 rfl)]; rfl
    · rw [W, t1, show wantB 4 N (rs s) (l ++ rs s) = endsB (l ++ rs s) (rs s) from rfl, ends_app]; rfl
  · have h : toldZ (fndB l (rs s)) false false = 1 := h
    have ho : fndB l (rs s) = false := by
      cases hb : fndB l (rs s)
      · rfl
      · rw [hb] at h; cases h
    refine ⟨⟨0, by omega, ?_⟩, ⟨1, by omega, ?_⟩⟩
    · rw [W, t0, List.append_nil, show wantB 5 N (rs s) l = decide (0 ≤ findI l (rs s)) from rfl, ← fnd_iff, ho]; rfl
    · rw [W, t1, show wantB 5 N (rs s) (l ++ rs s) = decide (0 ≤ findI (l ++ rs s) (rs s)) from rfl, ← fnd_iff, show fndB (l ++ rs s) (rs s) = true from fndB_iff.2 ⟨_, stands_end l (rs s)⟩]; rfl
  · have h : toldZ (false && decide (l.length = N)) (decide (N < l.length)) false = 1 := h
    have hlt : ¬ N < l.length := fun k => by rw [decide_eq_true k] at h; cases h
    refine ⟨⟨4, by omega, ?_⟩, ?_⟩
    · rw [W, t4 (by omega), show wantB 6 N (rs s) (l ++ List.replicate (N + 1 - l.length) 0) = decide ((l ++ List.replicate (N + 1 - l.length) (0 : Int)).length = N) from rfl, List.length_append, List.length_replicate, decide_eq_false (by omega)]; rfl
    · by_cases he : l.length = N
      · exact ⟨0, by omega, by rw [W, t0, List.append_nil, show wantB 6 N (rs s) l = decide (l.length = N) from rfl, decide_eq_true he]; rfl⟩
      · exact ⟨3, by omega, by rw [W, t3 (by omega), show wantB 6 N (rs s) (l ++ List.replicate (N - l.length) 0) = decide ((l ++ List.replicate (N - l.length) (0 : Int)).length = N) from rfl, List.length_append, List.length_replicate, decide_eq_true (by omega)]; rfl⟩
  · have h : toldZ (decide (N < l.length)) false false = 1 := h
    have hlt : ¬ N < l.length := fun k => by rw [decide_eq_true k] at h; cases h
    refine ⟨⟨0, by omega, ?_⟩, ⟨4, by omega, ?_⟩⟩
    · rw [W, t0, List.append_nil, show wantB 7 N (rs s) l = decide (N < l.length) from rfl, decide_eq_false hlt]; rfl
    · rw [W, t4 (by omega), show wantB 7 N (rs s) (l ++ List.replicate (N + 1 - l.length) 0) = decide (N < (l ++ List.replicate (N + 1 - l.length) (0 : Int)).length) from rfl, List.length_append, List.length_replicate, decide_eq_true (by omega)]; rfl
  · have h : toldZ (false && decide (l.length < N)) (decide (N ≤ l.length)) false = 1 := h
    have hlt : ¬ N ≤ l.length := fun k => by rw [decide_eq_true k] at h; cases h
    refine ⟨⟨3, by omega, ?_⟩, ⟨0, by omega, ?_⟩⟩
    · rw [W, t3 (by omega), show wantB 8 N (rs s) (l ++ List.replicate (N - l.length) 0) = decide ((l ++ List.replicate (N - l.length) (0 : Int)).length < N) from rfl, List.length_append, List.length_replicate, decide_eq_false (by omega)]; rfl
    · rw [W, t0, List.append_nil, show wantB 8 N (rs s) l = decide (l.length < N) from rfl, decide_eq_true (by omega)]; rfl
end Go.Proofs.Ytgajinnbmnnccaa
