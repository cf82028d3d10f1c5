/- Plain laws on the two orders of texts: by characters and by units; by characters is by bytes. No program in sight. -/
import Derived.Test.YtgajinnbmnnccaaUnits
namespace Gim
open Go

/-! ### the order of lists -/
theorem ordI_app : ∀ (P A B : List Int), ordI (P ++ A) (P ++ B) = ordI A B
  | [], _, _ => rfl
  | p :: P, A, B => by simp only [List.cons_append, ordI, Int.lt_irrefl, if_false]; exact ordI_app P A B
theorem ordI_neg : ∀ l t : List Int, ordI t l = - ordI l t
  | [], [] => rfl
  | [], _ :: _ => rfl
  | _ :: _, [] => rfl
  | a :: l, b :: t => by
    simp only [ordI]
    by_cases h1 : a < b
    · have h2 : ¬ b < a := by omega
      simp [h1, h2]
    · by_cases h2 : b < a
      · simp [h1, h2]
      · simp only [h1, h2, if_false]; exact ordI_neg l t
theorem ordI_range : ∀ l t : List Int, -1 ≤ ordI l t ∧ ordI l t ≤ 1
  | [], [] => by simp [ordI]
  | [], _ :: _ => by simp [ordI]
  | _ :: _, [] => by simp [ordI]
  | a :: l, b :: t => by
    have := ordI_range l t
    simp only [ordI]
    split
    · omega
    · split <;> omega
theorem ordI_zero : ∀ {l t : List Int}, ordI l t = 0 → l = t
  | [], [], _ => rfl
  | [], _ :: _, h => by simp [ordI] at h
  | _ :: _, [], h => by simp [ordI] at h
  | a :: l, b :: t, h => by
    simp only [ordI] at h
    split at h
    · omega
    · split at h
      · omega
      · rw [ordI_zero h, show a = b by omega]
theorem ordI_zero_iff {l t : List Int} : ordI l t = 0 ↔ l = t := ⟨ordI_zero, fun h => h ▸ ordI_self _⟩

/-! ### characters -/
/-- r is a character -/
def Ch (r : Int) : Prop := (0 ≤ r ∧ r < 55296) ∨ (57344 ≤ r ∧ r ≤ 1114111)
theorem ch_valid {r : Int} (h : Ch r) : Utf8.valid r = true := by
  unfold Ch at h
  simp only [Utf8.valid, Bool.or_eq_true, Bool.and_eq_true, decide_eq_true_eq]
  omega
theorem valid_ch {r : Int} (h : Utf8.valid r = true) : Ch r := by
  simp only [Utf8.valid, Bool.or_eq_true, Bool.and_eq_true, decide_eq_true_eq] at h
  unfold Ch
  omega
theorem decode_ch (s : ByteArray) (p : Nat) : Ch (Utf8.decode s p).1 := by
  have hb : ∀ k, (s.get! (p + k)).toNat < 256 := fun k => (s.get! (p + k)).toNat_lt
  have h0 := hb 0; have h1 := hb 1; have h2 := hb 2; have h3 := hb 3
  have hw : Ch (Utf8.runeError : Nat) := by unfold Ch Utf8.runeError; omega
  simp only [Utf8.decode]
  repeat' split
  all_goals first
    | exact hw
    | (rename_i h; simp only [Bool.and_eq_true, decide_eq_true_eq] at h; exact valid_ch h.2)
    | (unfold Ch; simp only [Bool.and_eq_true, beq_iff_eq, decide_eq_true_eq, ge_iff_le] at *; omega)
theorem rsF_ch (s : ByteArray) : ∀ (f p : Nat), ∀ r ∈ rsF s f p, Ch r := by
  intro f
  induction f with
  | zero => intro p r h; simp [rsF] at h
  | succ f ih =>
    intro p r h
    simp only [rsF] at h
    split at h
    · rcases List.mem_cons.1 h with h | h
      · subst h; exact decode_ch s p
      · exact ih _ r h
    · simp at h
theorem rs_ch (s : ByteArray) : ∀ r ∈ rs s, Ch r := rsF_ch s _ 0

/-! ### units -/
theorem unI_cons (a : Int) (l : List Int) : unI (a :: l) = un1 a ++ unI l := by simp [unI]
theorem unI_app (P A : List Int) : unI (P ++ A) = unI P ++ unI A := by simp [unI]
theorem un1_ne (a : Int) : un1 a ≠ [] := by unfold un1; split <;> simp
/-- the two orders part at these two characters -/
def parts (a b : Int) : Prop := 65535 < max a b ∧ 57344 ≤ min a b ∧ min a b ≤ 65535
instance (a b : Int) : Decidable (parts a b) := by unfold parts; infer_instance
theorem parts_lt {a b : Int} (h : a < b) : parts a b ↔ 65535 < b ∧ 57344 ≤ a ∧ a ≤ 65535 := by
  unfold parts
  rw [Int.max_eq_right (by omega), Int.min_eq_left (by omega)]
theorem un_less {a b : Int} (ha : Ch a) (hb : Ch b) (h : a < b) (L T : List Int) : ordI (un1 a ++ L) (un1 b ++ T) = if parts a b then 1 else -1 := by
  unfold Ch at ha hb
  have hp := parts_lt h
  unfold un1
  by_cases h1 : 65535 < a
  · have h2 : 65535 < b := by omega
    rw [if_pos h1, if_pos h2, if_neg (fun x => by have := hp.1 x; omega)]
    simp only [List.cons_append, List.nil_append, ordI]
    by_cases h3 : (a - 65536) / 1024 < (b - 65536) / 1024
    · rw [if_pos (by omega)]
    · rw [if_neg (by omega), if_neg (by omega), if_pos (by omega)]
  · rw [if_neg h1]
    by_cases h2 : 65535 < b
    · rw [if_pos h2]
      simp only [List.cons_append, List.nil_append, ordI]
      by_cases h3 : 57344 ≤ a
      · rw [if_neg (by omega), if_pos (by omega), if_pos (hp.2 (by omega))]
      · rw [if_pos (by omega), if_neg (fun x => by have := hp.1 x; omega)]
    · rw [if_neg h2]
      simp only [List.cons_append, List.nil_append, ordI]
      rw [if_pos h, if_neg (fun x => by have := hp.1 x; omega)]
theorem parts_comm (a b : Int) : parts a b ↔ parts b a := by unfold parts; rw [Int.max_comm, Int.min_comm]
theorem un_greater {a b : Int} (ha : Ch a) (hb : Ch b) (h : b < a) (L T : List Int) : ordI (un1 a ++ L) (un1 b ++ T) = if parts a b then -1 else 1 := by
  rw [ordI_neg (un1 b ++ T) (un1 a ++ L), un_less hb ha h]
  by_cases hp : parts a b
  · rw [if_pos hp, if_pos ((parts_comm _ _).1 hp)]
  · rw [if_neg hp, if_neg (fun h => hp ((parts_comm _ _).1 h))]; rfl
theorem un_nil_left {b : Int} (T : List Int) : ordI [] (un1 b ++ T) = -1 := by
  cases h : un1 b ++ T with
  | nil => exact absurd (List.append_eq_nil_iff.1 h).1 (un1_ne b)
  | cons x y => rfl
theorem un_nil_right {b : Int} (T : List Int) : ordI (un1 b ++ T) [] = 1 := by rw [ordI_neg [] _, un_nil_left]; rfl
theorem unI_zero : ∀ {l t : List Int}, (∀ r ∈ l, Ch r) → (∀ r ∈ t, Ch r) → (ordI (unI l) (unI t) = 0 ↔ l = t)
  | [], [], _, _ => by simp [unI, ordI]
  | [], b :: t, _, _ => by rw [unI_cons, show unI [] = [] from rfl, un_nil_left]; simp
  | a :: l, [], _, _ => by rw [unI_cons, show unI [] = [] from rfl, un_nil_right]; simp
  | a :: l, b :: t, h1, h2 => by
    have ih := unI_zero (l := l) (t := t) (fun r h => h1 r (List.mem_cons_of_mem _ h)) (fun r h => h2 r (List.mem_cons_of_mem _ h))
    have ha := h1 a List.mem_cons_self
    have hb := h2 b List.mem_cons_self
    rw [unI_cons, unI_cons]
    rcases Int.lt_trichotomy a b with h | h | h
    · rw [un_less ha hb h]
      constructor
      · intro e; split at e <;> omega
      · intro e; cases e; omega
    · subst h
      rw [ordI_app, ih]; simp
    · rw [un_greater ha hb h]
      constructor
      · intro e; split at e <;> omega
      · intro e; cases e; omega
theorem take_same {l t : List Int} {k : Nat} (h1 : k ≤ l.length) (h2 : k ≤ t.length) (h : ∀ j, j < k → gt l j = gt t j) : l.take k = t.take k :=
  gt_ext (by simp; omega) fun j hj => by
    have hj' : j < k := by simp at hj; omega
    rw [show gt (l.take k) j = gt l j by simp [gt, hj'], show gt (t.take k) j = gt t j by simp [gt, hj']]
    exact h j hj'
/-- both orders behind a common beginning -/
theorem both_drop {l t : List Int} {k : Nat} (h1 : k ≤ l.length) (h2 : k ≤ t.length) (h : ∀ j, j < k → gt l j = gt t j) :
    ordI l t = ordI (l.drop k) (t.drop k) ∧ ordI (unI l) (unI t) = ordI (unI (l.drop k)) (unI (t.drop k)) := by
  have e := take_same h1 h2 h
  constructor
  · exact ordI_eq k l t h1 h2 h
  · rw [← ordI_app (unI (l.take k)) (unI (l.drop k)), ← unI_app, List.take_append_drop]
    rw [e, ← unI_app, List.take_append_drop]
/-- at the first unlike characters -/
theorem both_differ {l t : List Int} {k : Nat} (hl : ∀ r ∈ l, Ch r) (ht : ∀ r ∈ t, Ch r) (h1 : k < l.length) (h2 : k < t.length) (h : ∀ j, j < k → gt l j = gt t j) (hne : gt l k ≠ gt t k) :
    (ordI l t != ordI (unI l) (unI t)) = decide (parts (gt l k) (gt t k)) := by
  obtain ⟨e1, e2⟩ := both_drop (by omega) (by omega) h
  rw [e1, e2, drop_gt h1, drop_gt h2, unI_cons, unI_cons]
  have ha := hl _ (gt_mem h1)
  have hb := ht _ (gt_mem h2)
  rcases Int.lt_trichotomy (gt l k) (gt t k) with hh | hh | hh
  · rw [un_less ha hb hh]
    simp only [ordI]
    rw [if_pos hh]
    by_cases hp : parts (gt l k) (gt t k) <;> simp [hp]
  · exact absurd hh hne
  · rw [un_greater ha hb hh]
    simp only [ordI]
    rw [if_neg (by omega), if_pos hh]
    by_cases hp : parts (gt l k) (gt t k) <;> simp [hp]
/-- where no unlike pair stands -/
theorem both_same {l t : List Int} (h : ∀ j, j < l.length → j < t.length → gt l j = gt t j) : ordI l t = ordI (unI l) (unI t) := by
  rcases Nat.lt_or_ge l.length t.length with hh | hh
  · obtain ⟨e1, e2⟩ := both_drop (l := l) (t := t) (k := l.length) (by omega) (by omega) (fun j hj => h j hj (by omega))
    rw [e1, e2, drop_gt hh]
    simp only [List.drop_length, unI_cons]
    rw [show unI [] = [] from rfl, un_nil_left]; rfl
  · obtain ⟨e1, e2⟩ := both_drop (l := l) (t := t) (k := t.length) (by omega) (by omega) (fun j hj => h j (by omega) hj)
    rw [e1, e2, List.drop_length]
    cases hd : l.drop t.length with
    | nil => simp [unI, ordI]
    | cons a r => rw [unI_cons, show unI [] = [] from rfl, un_nil_right]; rfl
end Gim
