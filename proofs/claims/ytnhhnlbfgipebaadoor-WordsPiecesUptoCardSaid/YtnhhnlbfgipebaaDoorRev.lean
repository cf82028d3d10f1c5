/- The walk of words.Reverse. -/
import Derived.Test.YtnhhnlbfgipebaaDoorRunes
namespace Gim
/-- l with its first i and its last i places exchanged -/
def revT (l : List Int) (i : Nat) : List Int := (List.range l.length).map fun j => if j < i ∨ l.length ≤ j + i then gt l (l.length - 1 - j) else gt l j
theorem revT_length (l : List Int) (i : Nat) : (revT l i).length = l.length := by simp [revT]
theorem revT_get {l : List Int} {i j : Nat} (h : j < l.length) : (revT l i)[j]? = some (if j < i ∨ l.length ≤ j + i then gt l (l.length - 1 - j) else gt l j) := by simp [revT, h]
theorem revT_gt {l : List Int} {i j : Nat} (h : j < l.length) (h1 : i ≤ j) (h2 : j + i < l.length) : gt (revT l i) j = gt l j := by
  unfold gt
  rw [revT_get h, if_neg (by omega)]
  rfl
theorem revT_zero (l : List Int) : revT l 0 = l := by
  refine gt_ext (revT_length l 0) fun j hj => ?_
  rw [revT_length] at hj
  exact revT_gt hj (by omega) (by omega)
theorem revT_step {l : List Int} {i : Nat} (h : i + i + 1 < l.length) : ((revT l i).set i (gt l (l.length - 1 - i))).set (l.length - 1 - i) (gt l i) = revT l (i + 1) := by
  apply List.ext_getElem?
  intro j
  by_cases hj : j < l.length
  · rw [List.getElem?_set, List.getElem?_set, revT_get hj, revT_get hj]
    simp only [List.length_set, revT_length]
    by_cases h1 : l.length - 1 - i = j
    · rw [if_pos h1, if_pos (by omega), if_pos (by omega)]
      rw [show l.length - 1 - j = i by omega]
    · rw [if_neg h1]
      by_cases h2 : i = j
      · subst h2
        rw [if_pos rfl, if_pos (by omega), if_pos (by omega)]
      · rw [if_neg h2]
        by_cases h3 : j < i ∨ l.length ≤ j + i
        · rw [if_pos h3, if_pos (by omega)]
        · rw [if_neg h3, if_neg (by omega)]
  · rw [List.getElem?_eq_none (by simp [revT_length]; omega), List.getElem?_eq_none (by simp [revT_length]; omega)]
theorem revT_done {l : List Int} {i : Nat} (h : l.length ≤ i + i + 1) : revT l i = l.reverse := by
  refine gt_ext (by simp [revT_length]) fun j hj => ?_
  rw [revT_length] at hj
  have hr : gt l.reverse j = gt l (l.length - 1 - j) := by
    unfold gt
    rw [List.getElem?_reverse hj]
  rw [hr]
  unfold gt
  rw [revT_get hj]
  by_cases h3 : j < i ∨ l.length ≤ j + i
  · rw [if_pos h3]; rfl
  · rw [if_neg h3, show l.length - 1 - j = j by omega]; rfl
end Gim
namespace Go.Proofs.YtnhhnlbfgipebaaDoor
open Go.RowKit Gim

set_option maxHeartbeats 1000000 in
theorem reverse (s : ByteArray) (w : World) (hs : s.size ≤ 1099511627776) :
    Calls Tryd.prog 12 #[.string s] w fun e w' => e = .returned (.string (runesBytes (rs s).reverse)) ∧ Below w.heap.size w w' := by
  have l1 := rs_length s
  obtain ⟨l, hl⟩ : ∃ l, Hid (l = rs s) := ⟨_, rfl⟩
  obtain ⟨n, hn⟩ : ∃ n, Hid (n = (rs s).length) := ⟨_, rfl⟩
  rw [← hl.out]
  rw [← hn.out] at l1
  go_enter Tryd.func12, Tryd.ntmps12
  go_wp2_with fail
  refine (wordsRunes _ _ hs).mono ?_
  rintro e w1 ⟨v1, rfl, hr1, hb1⟩
  rcases hr1.2 with ⟨rfl, h0⟩ | ⟨g, cap, cur, rfl, hg, hrest⟩
  · have hn0 : n = 0 := by rw [hn.out]; exact h0
    subst hn0
    have hl0 : l = [] := List.eq_nil_of_length_eq_zero (by rw [hl.out, ← hn.out])
    subst hl0
    have hcv := run_convert_runes_nil (P := Tryd.prog) w1 33 9 21 0 0 rfl rfl rfl
    go_wp2
    refine wp_loop_rounds 1 ?_
    rw [rounds_succ]
    go_wp2
    go_ret
    exact ⟨rfl, hb1⟩
  · have hrow := hr1
    rw [← hn.out] at hrow ⊢
    rw [← hl.out] at hrow
    have HN := Lib.hid (show l.length = n by rw [hl.out, hn.out])
    clear hr1 hrest
    go_wp2
    go_loopw [4, 5] (fun vi vj wr => ∃ i : Nat, vi = .int .i64 i ∧ vj = .int .i64 ((n : Int) - 1 - i) ∧ i + i ≤ n + 1 ∧ Row wr w.heap.size 21 .i32 (.slice (some ⟨g, 0, none⟩) n cap) (revT l i) ∧ Below w.heap.size w wr) (fun vi _ _ => n - (intOf vi).toNat)
    case atStart => exact ⟨0, rfl, by go_num, by omega, by rw [revT_zero]; exact hrow, hb1⟩
    case round =>
      clear hrow hb1
      obtain ⟨i, rfl, rfl, hin, hrow, hbw⟩ := hrel
      by_cases hij : i + i + 1 < n
      · have hlt : (i : Int) < (n : Int) - 1 - i := by omega
        have hL := Lib.hid (revT_length l i)
        obtain ⟨j, hj⟩ : ∃ j, Hid (j = n - 1 - i) := ⟨_, rfl⟩
        have hj1 := hj.out
        have ej : (n : Int) - 1 - i = (j : Int) := by omega
        have hci := hrow.cell (j := i) (by rw [hL.out, HN.out]; omega)
        have hcj := hrow.cell (j := j) (by rw [hL.out, HN.out]; omega)
        rw [revT_gt (by rw [HN.out]; omega) (by omega) (by rw [HN.out]; omega)] at hci hcj
        have hfi := hrow.free i
        have hfj := hrow.free j
        have hij2 : i < j := by omega
        have hjn : j < n := by omega
        clear hj1
        rw [ej] at hlt ⊢
        clear ej
        have hcj2 : (wr.setCell ⟨g, i, none⟩ (.int .i32 (gt l j))).cell? ⟨g, j, none⟩ = some (.int .i32 (gt l j)) := by
          rw [World.cell?_setCell_other _ _ _ _ (by intro e; simp only [Addr.mk.injEq, true_and, and_true] at e; omega)]; exact hcj
        have hfj2 : (wr.setCell ⟨g, i, none⟩ (.int .i32 (gt l j))).frozen? ⟨g, j, none⟩ = false := by
          rw [World.frozen?_setCell]
          exact hfj
        have HR : Hid (∀ w3 : World, w3.heap = ((wr.setCell ⟨g, i, none⟩ (.int .i32 (gt l j))).setCell ⟨g, j, none⟩ (.int .i32 (gt l i))).heap → Row w3 w.heap.size 21 .i32 (.slice (some ⟨g, 0, none⟩) n cap) (revT l (i + 1))) := fun w3 h3 => by
          have h := (hrow.set' i (gt l j)).set' j (gt l i)
          have hstep := revT_step (l := l) (i := i) (by rw [HN.out]; omega)
          rw [HN.out, ← hj.out] at hstep
          rw [hstep] at h
          exact row_heap h h3
        have HJ := Lib.hid (show (n : Int) - 1 - ((i + 1 : Nat) : Int) = (j : Int) - 1 by have := hj.out; omega)
        have hgl := (hrow.lt g rfl).1
        go_wp2
        go_region
        go_wp2
        go_roundw
        case rel => exact ⟨i + 1, by go_num, by rw [HJ.out], by omega, HR.out _ rfl, ((hbw.drew).setCell hgl _).setCell hgl _⟩
        case measure => simp [intOf]; omega
      · have hlt : ¬ (i : Int) < (n : Int) - 1 - i := by omega
        have HD := revT_done (l := l) (i := i) (by rw [HN.out]; omega)
        rw [HD] at hrow
        obtain ⟨a2, c2, e2, rd⟩ := hrow.rd
        have e3 : Hid (l.reverse.length = n) := by simp [Hid, HN.out]
        rw [e3.out] at rd e2
        simp only [Value.slice.injEq, true_and] at e2
        obtain ⟨rfl, rfl⟩ := e2
        have hcv := rd.conv (P := Tryd.prog) (src := 33) (dst := 9) (e := 21) rfl rfl rfl
        clear HD
        go_wp2
        go_ret
        exact ⟨rfl, hbw⟩
end Go.Proofs.YtnhhnlbfgipebaaDoor
