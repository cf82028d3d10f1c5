/- The characters of a class, in order. -/
import Derived.Test.YtbbfifaojepjiaaDoorCls
namespace Gim
/-- the characters from r to h -/
def upToC (r h : Int) : List Int := (List.range (h + 1 - r).toNat).map (fun (i : Nat) => r + (i : Int))
theorem upToC_end {r h : Int} (hr : ¬ r ≤ h) : upToC r h = [] := by
  unfold upToC
  rw [show (h + 1 - r).toNat = 0 by omega]
  rfl
theorem upToC_next {r h : Int} (hr : r ≤ h) : upToC r h = r :: upToC (r + 1) h := by
  unfold upToC
  obtain ⟨m, hm⟩ : ∃ m, (h + 1 - r).toNat = m + 1 := ⟨(h - r).toNat, by omega⟩
  rw [hm, show (h + 1 - (r + 1)).toNat = m by omega, List.range_succ_eq_map, List.map_cons, List.map_map]
  simp only [List.cons.injEq]
  refine ⟨by simp, ?_⟩
  refine List.map_congr_left fun i _ => ?_
  simp only [Function.comp_apply, Nat.succ_eq_add_one, Int.natCast_add]
  omega
theorem upToC_length (r h : Int) : (upToC r h).length = (h + 1 - r).toNat := by simp [upToC]
theorem upToC_get (r h : Int) (i : Nat) (hi : i < (upToC r h).length) : (upToC r h)[i] = r + (i : Int) := by simp [upToC]
theorem upToC_mem {r h x : Int} (hx : x ∈ upToC r h) : r ≤ x ∧ x ≤ h := by
  simp only [upToC, List.mem_map, List.mem_range] at hx
  obtain ⟨i, hi, rfl⟩ := hx
  omega
/-- the characters of the ranges -/
def elems : List (Int × Int) → List Int
  | [] => []
  | p :: l => upToC p.1 p.2 ++ elems l
theorem elems_drop {l : List (Int × Int)} {k : Nat} (h : k < l.length) : elems (l.drop k) = upToC (lo l k) (hi l k) ++ elems (l.drop (k + 1)) := by rw [drop_lohi h]; rfl
theorem elems_mem : ∀ {l : List (Int × Int)} {b x : Int}, rising b l = true → x ∈ elems l → b < x ∧ x ≤ 1114111
  | [], _, _, _, h => by cases h
  | p :: l, b, x, hr, h => by
    have h1 := rising_mem hr (List.mem_cons_self (a := p) (l := l))
    simp only [rising, Bool.and_eq_true, decide_eq_true_eq] at hr
    rcases List.mem_append.1 h with h | h
    · have := upToC_mem h
      omega
    · have := elems_mem (l := l) hr.2 h
      omega
theorem next_elems : ∀ {l : List (Int × Int)} {b last0 x : Int} {pre post : List Int}, rising b l = true → last0 ≤ b → elems l = pre ++ x :: post → nextC l (pre.getLastD last0) = (x, true)
  | [], _, _, _, pre, post, _, _, h => by
    have := congrArg List.length h
    simp [elems] at this
  | p :: l, b, last0, x, pre, post, hr, hl, h => by
    have h1 := rising_mem hr (List.mem_cons_self (a := p) (l := l))
    have hr2 : rising p.2 l = true := by
      simp only [rising, Bool.and_eq_true, decide_eq_true_eq] at hr
      exact hr.2
    have hlen := upToC_length p.1 p.2
    have h0 : elems (p :: l) = upToC p.1 p.2 ++ elems l := rfl
    rw [h0] at h
    have hstep : ∀ r, nextC (p :: l) r = if r < p.2 then (if r < p.1 then p.1 else r + 1, true) else nextC l r := fun r => rfl
    by_cases hk : pre.length < (upToC p.1 p.2).length
    · have hx : x = p.1 + (pre.length : Int) := by
        have e := congrArg (fun L => L[pre.length]?) h
        simp only [List.getElem?_append_left hk, List.getElem?_append_right (Nat.le_refl _), Nat.sub_self, List.getElem?_cons_zero, List.getElem?_eq_getElem hk, upToC_get] at e
        exact (Option.some.inj e).symm
      rcases List.eq_nil_or_concat pre with rfl | ⟨q, y, rfl⟩
      · rw [show ([] : List Int).getLastD last0 = last0 from rfl, hstep]
        simp only [List.length_nil] at hx
        rw [if_pos (by omega), if_pos (by omega)]
        simp only [Prod.mk.injEq, and_true]
        omega
      · have hy : y = p.1 + (q.length : Int) := by
          have hq : q.length < (upToC p.1 p.2).length := by simp at hk; omega
          have e := congrArg (fun L => L[q.length]?) h
          simp only [List.getElem?_append_left hq, List.append_assoc, List.concat_eq_append, List.getElem?_append_right (Nat.le_refl _), Nat.sub_self, List.getElem?_eq_getElem hq, upToC_get] at e
          simpa using e.symm
        simp only [List.concat_eq_append, List.length_append, List.length_cons, List.length_nil] at hk hx
        rw [List.concat_eq_append, List.getLastD_concat, hstep, if_pos (by omega), if_neg (by omega)]
        simp only [Prod.mk.injEq, and_true]
        omega
    · obtain ⟨pre', rfl⟩ : ∃ pre', pre = upToC p.1 p.2 ++ pre' := by
        have e : upToC p.1 p.2 <+: pre := List.prefix_of_prefix_length_le (l₃ := pre ++ x :: post) (by rw [← h]; exact List.prefix_append _ _) (List.prefix_append _ _) (by omega)
        obtain ⟨t, ht⟩ := e
        exact ⟨t, ht.symm⟩
      rw [List.append_assoc, List.append_cancel_left_eq] at h
      have ih := next_elems (l := l) (b := p.2) (last0 := p.2) hr2 (Int.le_refl _) h
      have hlast : (upToC p.1 p.2 ++ pre').getLastD last0 = pre'.getLastD p.2 := by
        rcases List.eq_nil_or_concat pre' with rfl | ⟨q, y, rfl⟩
        · obtain ⟨m, hm⟩ : ∃ m, (upToC p.1 p.2).length = m + 1 := ⟨(p.2 - p.1).toNat, by omega⟩
          rw [List.append_nil, List.getLastD_nil]
          rcases List.eq_nil_or_concat (upToC p.1 p.2) with e | ⟨q, y, e⟩
          · rw [e] at hm; simp at hm
          · have hq : q.length < (upToC p.1 p.2).length := by rw [e]; simp
            have g := upToC_get p.1 p.2 q.length hq
            have g2 : (upToC p.1 p.2)[q.length]? = some y := by rw [e]; simp
            rw [List.getElem?_eq_getElem hq, g] at g2
            have hl2 : (upToC p.1 p.2).length = q.length + 1 := by rw [e]; simp
            rw [e, List.concat_eq_append, List.getLastD_concat, ← Option.some.inj g2]
            omega
        · rw [List.concat_eq_append, ← List.append_assoc, List.getLastD_concat, List.getLastD_concat]
      rw [hlast, hstep, if_neg, ih]
      rcases List.eq_nil_or_concat pre' with rfl | ⟨q, y, rfl⟩
      · simp
      · have hy : y ∈ elems l := by rw [h]; simp
        have := elems_mem hr2 hy
        rw [List.concat_eq_append, List.getLastD_concat]
        omega
theorem count_elems : ∀ {l : List (Int × Int)} {b r : Int}, rising b l = true → 1114111 ≤ r → countC l r = ((elems l).length : Int)
  | [], _, _, _, _ => rfl
  | p :: l, b, r, hr, hle => by
    have h1 := rising_mem hr (List.mem_cons_self (a := p) (l := l))
    have hr2 : rising p.2 l = true := by
      simp only [rising, Bool.and_eq_true, decide_eq_true_eq] at hr
      exact hr.2
    have ih := count_elems (l := l) (r := r) hr2 hle
    have hstep : countC (p :: l) r = (if p.1 ≤ r then (if r ≤ p.2 then r else p.2) - p.1 + 1 else 0) + countC l r := rfl
    have h0 : elems (p :: l) = upToC p.1 p.2 ++ elems l := rfl
    rw [hstep, ih, h0, List.length_append, upToC_length, if_pos (by omega)]
    split <;> omega
end Gim
