/- Plain laws on the characters of a string, as the model's own range goes through it. No program in sight. -/
import Derived.Lib.RuneCount
namespace Gim
open Go

/-- characters of s from place p on, with fuel -/
def rsF (s : ByteArray) : Nat → Nat → List Int
  | 0, _ => []
  | f + 1, p => if p < s.size then ((Utf8.decode s p).1 : Int) :: rsF s f (p + (Utf8.decode s p).2) else []

theorem rsF_end (s : ByteArray) (f p : Nat) (h : ¬ p < s.size) : rsF s f p = [] := by
  cases f <;> simp [rsF, h]

theorem rsF_fuel (s : ByteArray) : ∀ (f g p : Nat), s.size ≤ p + f → s.size ≤ p + g → rsF s f p = rsF s g p := by
  intro f
  induction f with
  | zero => intro g p h _; rw [rsF_end s g p (by omega)]; rfl
  | succ f ih =>
    intro g p h h2
    by_cases hp : p < s.size
    · obtain ⟨g, rfl⟩ : ∃ g', g = g' + 1 := ⟨g - 1, by omega⟩
      have hw := Lib.decode_width_pos s p hp
      simp only [rsF, hp, if_true]
      rw [ih g (p + (Utf8.decode s p).2) (by omega) (by omega)]
    · rw [rsF_end s _ p hp, rsF_end s _ p hp]

/-- characters from place p on -/
def rsAt (s : ByteArray) (p : Nat) : List Int := rsF s (s.size - p) p
/-- the characters of s -/
def rs (s : ByteArray) : List Int := rsAt s 0

theorem rsAt_end {s : ByteArray} {p : Nat} (h : ¬ p < s.size) : rsAt s p = [] := rsF_end s _ p h
theorem rsAt_next {s : ByteArray} {p : Nat} (h : p < s.size) : rsAt s p = ((Utf8.decode s p).1 : Int) :: rsAt s (p + (Utf8.decode s p).2) := by
  have hw := Lib.decode_width_pos s p h
  unfold rsAt
  obtain ⟨f, hf⟩ : ∃ f, s.size - p = f + 1 := ⟨s.size - p - 1, by omega⟩
  rw [hf]
  simp only [rsF, h, if_true]
  rw [rsF_fuel s f (s.size - (p + (Utf8.decode s p).2)) (p + (Utf8.decode s p).2) (by omega) (by omega)]

theorem rsF_length (s : ByteArray) : ∀ (f p : Nat), (rsF s f p).length ≤ f := by
  intro f
  induction f with
  | zero => intro p; simp [rsF]
  | succ f ih => intro p; simp only [rsF]; split <;> simp [ih _]

theorem rsAt_length (s : ByteArray) (p : Nat) : (rsAt s p).length ≤ s.size - p := rsF_length s _ p
theorem rs_length (s : ByteArray) : (rs s).length ≤ s.size := rsAt_length s 0

theorem decode_nonneg_lt (s : ByteArray) (p : Nat) : (Utf8.decode s p).1 ≤ 1114111 := by
  have hb : ∀ k, (s.get! (p + k)).toNat < 256 := fun k => (s.get! (p + k)).toNat_lt
  have h0 := hb 0; have h1 := hb 1; have h2 := hb 2; have h3 := hb 3
  simp only [Utf8.decode]
  repeat' split
  all_goals simp_all [Utf8.runeError, Utf8.valid]
  all_goals omega

theorem rsF_range (s : ByteArray) : ∀ (f p : Nat), ∀ r ∈ rsF s f p, 0 ≤ r ∧ r ≤ 1114111 := by
  intro f
  induction f with
  | zero => intro p r h; simp [rsF] at h
  | succ f ih =>
    intro p r h
    simp only [rsF] at h
    split at h
    · rcases List.mem_cons.1 h with h | h
      · subst h; have := decode_nonneg_lt s p; omega
      · exact ih _ r h
    · simp at h
theorem rs_range (s : ByteArray) : ∀ r ∈ rs s, 0 ≤ r ∧ r ≤ 1114111 := rsF_range s _ 0

/-- the element number j (kept from the walk's simp) -/
def gt (l : List Int) (j : Nat) : Int := (l[j]?).getD 0
theorem gt_some {l : List Int} {j : Nat} (h : j < l.length) : l[j]? = some (gt l j) := by simp [gt, h]
theorem gt_lt {l : List Int} {j : Nat} (h : j < l.length) : gt l j = l[j] := by simp [gt, h]
theorem gt_mem {l : List Int} {j : Nat} (h : j < l.length) : gt l j ∈ l := by rw [gt_lt h]; exact List.getElem_mem h

theorem gt_ext {l t : List Int} (h : l.length = t.length) (hg : ∀ j, j < l.length → gt l j = gt t j) : l = t := by
  apply List.ext_getElem h
  intro j h1 h2
  have := hg j h1
  rwa [gt_lt h1, gt_lt h2] at this

/-- one character on, by number -/
theorem rs_step {s : ByteArray} {p n : Nat} (hp : p < s.size) (h : (rs s).drop n = rsAt s p) :
    n < (rs s).length ∧ gt (rs s) n = ((Utf8.decode s p).1 : Int) ∧ (rs s).drop (n + 1) = rsAt s (p + (Utf8.decode s p).2) := by
  rw [rsAt_next hp] at h
  have hn : n < (rs s).length := by
    rcases Nat.lt_or_ge n (rs s).length with h1 | h1
    · exact h1
    · rw [List.drop_eq_nil_of_le h1] at h; cases h
  rw [List.drop_eq_getElem_cons hn] at h
  have h2 := (List.cons.inj h)
  exact ⟨hn, by rw [gt_lt hn]; exact h2.1, h2.2⟩
theorem rs_stop {s : ByteArray} {p n : Nat} (hp : ¬ p < s.size) (h : (rs s).drop n = rsAt s p) : (rs s).length ≤ n := by
  rw [rsAt_end hp] at h
  simpa using h

end Gim
