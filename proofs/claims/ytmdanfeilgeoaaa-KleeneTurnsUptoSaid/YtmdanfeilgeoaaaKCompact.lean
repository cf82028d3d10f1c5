/- slices.CompactFunc of formulas of any depth. -/
import Derived.Test.YtmdanfeilgeoaaaKSort2
namespace Gim
open Go Go.RowKit Go.Sort Go.Proofs Go.Lib
/-- is the element kept: is it another than the one ahead of it -/
def keepB (fs : List Fm) (t : Nat) : Bool := decide (t = 0) || !decide (ordF (fs.getD t (cst 0)) (fs.getD (t - 1) (cst 0)) = 0)
def sel (fs : List Fm) (t : Nat) : List Nat := (List.range t).filter (keepB fs)
theorem sel_next (fs : List Fm) (t : Nat) : sel fs (t + 1) = sel fs t ++ (if keepB fs t = true then [t] else []) := by
  unfold sel
  rw [List.range_succ, List.filter_append]
  congr 1
  rw [List.filter_cons]
  simp
theorem sel_all (fs : List Fm) : ∀ t, (∀ i, i < t → keepB fs i = true) → sel fs t = List.range t := by
  intro t h
  unfold sel
  exact List.filter_eq_self.2 fun i hi => h i (List.mem_range.1 hi)
theorem getD_of {fs : List Fm} {i : Nat} {f d : Fm} (h : fs[i]? = some f) : fs.getD i d = f := by
  rw [List.getD_eq_getElem?_getD, h]
  rfl
theorem keepB_of {fs : List Fm} {t : Nat} {f g : Fm} (h1 : fs[t + 1]? = some f) (h2 : fs[t]? = some g) : keepB fs (t + 1) = !decide (ordF f g = 0) := by
  unfold keepB
  rw [Nat.add_sub_cancel, getD_of h1, getD_of h2]
  simp
theorem set4_grownBy (w : World) (g o : Nat) (a b c d : Value) : w.grownBy ((((w.setCell ⟨g, o, none⟩ a).setCell ⟨g, o + 1, none⟩ b).setCell ⟨g, o + 2, none⟩ c).setCell ⟨g, o + 3, none⟩ d) (some g) :=
  World.grownBy.trans (World.grownBy.trans (World.grownBy.trans (grownBy_setAt _ _ _ _) (grownBy_setAt _ _ _ _)) (grownBy_setAt _ _ _ _)) (grownBy_setAt _ _ _ _)
theorem Rw.set4 {t : TypeId} {w : World} {g cap : Nat} {cs : List N4} (h : Rw t w g cap cs) {i : Nat} (hi : i < cs.length) (c : N4) :
    Rw t ((((w.setCell ⟨g, i * 4, none⟩ (.int .i64 c.1)).setCell ⟨g, i * 4 + 1, none⟩ (.int .i64 c.2.1)).setCell ⟨g, i * 4 + 2, none⟩ (.int .i64 c.2.2.1)).setCell ⟨g, i * 4 + 3, none⟩ (.slice c.2.2.2.1 c.2.2.2.2.1 c.2.2.2.2.2)) g cap (cs.set i c) := by
  obtain ⟨cur, h1, h2, h3, h4, h5⟩ := h
  refine ⟨_, Go.Joins.block_setCell (Go.Joins.block_setCell (Go.Joins.block_setCell (Go.Joins.block_setCell h1 (i := i * 4) _) (i := i * 4 + 1) _) (i := i * 4 + 2) _) (i := i * 4 + 3) _, by simpa using h2, h3, by simpa using h4, fun j d m u hj hm hu => ?_⟩
  simp only [Array.getElem?_setIfInBounds, Array.size_setIfInBounds]
  by_cases hij : j = i
  · subst hij
    rw [List.getElem?_set_self hi] at hj
    cases hj
    match m, hm with
    | 0, _ =>
      rw [if_neg (by omega), if_neg (by omega), if_neg (by omega), if_pos (by omega), if_pos (by omega)]
      exact hu
    | 1, _ =>
      rw [if_neg (by omega), if_neg (by omega), if_pos (by omega), if_pos (by omega)]
      exact hu
    | 2, _ =>
      rw [if_neg (by omega), if_pos (by omega), if_pos (by omega)]
      exact hu
    | 3, _ =>
      rw [if_pos (by omega), if_pos (by omega)]
      exact hu
  · rw [List.getElem?_set_ne (by omega)] at hj
    rw [if_neg (by omega), if_neg (by omega), if_neg (by omega), if_neg (by omega)]
    exact h5 j d m u hj hm hu
/-- what the kept ones are, of a list in order: rising, the same members -/
theorem sel_up {fs : List Fm} (hs : fs.Pairwise fun x y => ordF x y ≤ 0) : ∀ t, t ≤ fs.length → Up ((sel fs t).map fun i => fs.getD i (cst 0)) ∧ (∀ f, f ∈ ((sel fs t).map fun i => fs.getD i (cst 0)) ↔ f ∈ fs.take t) ∧ (∀ i ∈ sel fs t, i < t)
  | 0, _ => by simp [sel, Up]
  | t + 1, h => by
    obtain ⟨h1, h2, h3⟩ := sel_up hs t (by omega)
    have hel : fs[t]? = some (fs.getD t (cst 0)) := by
      rw [List.getD_eq_getElem?_getD, List.getElem?_eq_getElem (by omega)]
      rfl
    have htk : fs.take (t + 1) = fs.take t ++ [fs.getD t (cst 0)] := by rw [List.take_add_one, hel]; rfl
    rw [sel_next]
    by_cases k : keepB fs t = true
    · rw [if_pos k]
      refine ⟨?_, ?_, ?_⟩
      · rw [List.map_append]
        refine List.pairwise_append.2 ⟨h1, by simp, fun a ha b hb => ?_⟩
        simp only [List.map_cons, List.map_nil, List.mem_singleton] at hb
        subst hb
        have ha2 := (h2 a).1 ha
        obtain ⟨i, hi, rfl⟩ := List.mem_iff_getElem.1 ha2
        have hit : i < t := by simp at hi; omega
        rw [List.getElem_take]
        rcases t with _ | t
        · omega
        · have hlast : fs[t]? = some (fs[t]'(by omega)) := List.getElem?_eq_getElem _
          have hk := keepB_of hel hlast
          rw [k] at hk
          have hne : ¬ ordF (fs.getD (t + 1) (cst 0)) (fs[t]'(by omega)) = 0 := by simpa using hk
          have hle := List.pairwise_iff_getElem.1 hs t (t + 1) (by omega) (by omega) (by omega)
          have hge : fs.getD (t + 1) (cst 0) = fs[t + 1]'(by omega) := getD_of (List.getElem?_eq_getElem (by omega))
          rw [hge] at hne ⊢
          have hng := ordF_neg (fs[t]'(by omega)) (fs[t + 1]'(by omega))
          have hlt : ordF (fs[t]'(by omega)) (fs[t + 1]'(by omega)) < 0 := by omega
          by_cases hil : i = t
          · subst hil
            exact hlt
          · have h5 := List.pairwise_iff_getElem.1 hs i t (by omega) (by omega) (by omega)
            by_cases e : ordF (fs[i]'(by omega)) (fs[t]'(by omega)) = 0
            · rw [ordF_eq _ _ e]
              exact hlt
            · exact ordF_tr _ _ _ (by omega) hlt
      · intro f
        rw [htk, List.map_append, List.mem_append, List.mem_append, h2 f]
        simp
      · intro i hi
        rcases List.mem_append.1 hi with hi | hi
        · have := h3 i hi
          omega
        · simp at hi
          omega
    · rw [if_neg k, List.append_nil]
      refine ⟨h1, ?_, fun i hi => by have := h3 i hi; omega⟩
      intro f
      rw [htk, List.mem_append, h2 f]
      constructor
      · exact .inl
      · rintro (hf | hf)
        · exact hf
        · simp only [List.mem_singleton] at hf
          rcases t with _ | t
          · simp [keepB] at k
          · have hlast : fs[t]? = some (fs[t]'(by omega)) := List.getElem?_eq_getElem _
            have hk := keepB_of hel hlast
            have he : ordF (fs.getD (t + 1) (cst 0)) (fs[t]'(by omega)) = 0 := by
              by_cases e : ordF (fs.getD (t + 1) (cst 0)) (fs[t]'(by omega)) = 0
              · exact e
              · exact absurd (by rw [hk, decide_eq_false e]; rfl) k
            rw [hf, ordF_eq _ _ he]
            exact List.mem_iff_getElem.2 ⟨t, by simp; omega, by rw [List.getElem_take]⟩
end Gim
namespace Go.Proofs.Ytmdanfeilgeoaaa
open Go.RowKit Gim Go.Sort Go.Lib
/-- the comparison of two of the row's elements, in whatever world lies behind -/
theorem same_at {N g : Nat} {w W : World} {cs : List N4} {fs : List Fm} (ht : TwL N w (some g) cs fs) (hb : w.grownBy W (some g)) {i j : Nat} {c d : N4} {f h : Fm} (hi : cs[i]? = some c) (hj : cs[j]? = some d) (fi : fs[i]? = some f) (fj : fs[j]? = some h) :
    Calls Try.prog 49 #[.agg #[.int .i64 c.1, .int .i64 c.2.1, .int .i64 c.2.2.1, .slice c.2.2.2.1 c.2.2.2.2.1 c.2.2.2.2.2], .agg #[.int .i64 d.1, .int .i64 d.2.1, .int .i64 d.2.2.1, .slice d.2.2.2.1 d.2.2.2.2.1 d.2.2.2.2.2]] W fun e w' => e = .returned (.bool (decide (ordF f h = 0))) ∧ ∃ q os', w' = grow (W.drewN q) os' := by
  obtain ⟨bs1, e1, F1⟩ := (ht.each i c f hi fi).at_ hb
  obtain ⟨bs2, e2, F2⟩ := (ht.each j d h hj fj).at_ hb
  rw [e1, e2]
  exact same2_calls _ _ _ _ _ _ _ _ _ _ _ _ _ _ W F1 F2
theorem run_clear_forms (w : World) (g o m c : Nat) (ty : TypeId) (hm : 0 < m) (hc : ∀ j, j < m * 4 → (w.cell? ⟨g, o + j, none⟩).isSome = true) (hf : ∀ j, j < m * 4 → w.frozen? ⟨g, o + j, none⟩ = false) :
    (Builtin.clear_ #[24] ty #[.slice (some ⟨g, o, none⟩) m c]).run Try.prog w = .ok (.tuple #[]) (w.setCells g o (Builtin.zeroCells (Value.agg #[.int .i64 0, .int .i64 0, .int .i64 0, .slice none 0 0]).cells m).toList) := by
  obtain ⟨zs, hz⟩ : ∃ zs, (Builtin.zeroCells (Value.agg #[.int .i64 0, .int .i64 0, .int .i64 0, .slice none 0 0]).cells m).toList = zs := ⟨_, rfl⟩
  have hcl : (Value.agg #[.int .i64 0, .int .i64 0, .int .i64 0, .slice none 0 0]).cells = #[.int .i64 0, .int .i64 0, .int .i64 0, .slice none 0 0] := rfl
  have hlen : zs.length = m * 4 := by rw [← hz, hcl]; simp [Builtin.zeroCells]
  have hone : ∀ v ∈ zs, v.oneCell' = true := by
    rw [← hz, hcl]
    intro v hv
    simp only [Builtin.zeroCells, Array.toList_map, List.mem_map] at hv
    obtain ⟨q, _, rfl⟩ := hv
    have h4 : q % 4 < 4 := Nat.mod_lt _ (by omega)
    show ((#[.int .i64 0, .int .i64 0, .int .i64 0, .slice none 0 0] : Array Value)[q % 4]!).oneCell' = true
    match q % 4, h4 with
    | 0, _ => rfl
    | 1, _ => rfl
    | 2, _ => rfl
    | 3, _ => rfl
  have hst := run_storeCells_cells (P := Try.prog) g o zs 0 w (by simpa [hlen] using hc) (by simpa [hlen] using hf) hone
  simp only [Nat.add_zero] at hst
  rw [hz]
  obtain ⟨m, rfl⟩ : ∃ m', m = m' + 1 := ⟨m - 1, by omega⟩
  simp [Builtin.clear_, run_underlying Try.underlying24, Try.zeroValue26, hz, hst]
end Go.Proofs.Ytmdanfeilgeoaaa
