/- gimletlaw14.merged. -/
import Derived.Test.YtmdanfeilgeoaaaKEvals
namespace Gim
open Go Go.RowKit Go.Sort Go.Proofs Go.Lib
def padL (v w : List Int) : List Int := w ++ List.replicate (v.length - w.length) 1
def mrgQ (v o : List Int) (q : Nat) : List Int := (List.range o.length).map fun i => if i < q ∧ gt v i ≠ 1 then gt v i else gt o i
/-- what merged answers -/
def mrgL (v w : List Int) : List Int := mrgQ v (padL v w) v.length
theorem mrgQ_len (v o : List Int) (q : Nat) : (mrgQ v o q).length = o.length := by simp [mrgQ]
theorem mrgQ_zero (v o : List Int) : mrgQ v o 0 = o := by
  apply List.ext_getElem
  · simp [mrgQ]
  · intro i h1 h2
    simp [mrgQ, gt, h2]
theorem mrgQ_get (v o : List Int) (q i : Nat) (h : i < o.length) : (mrgQ v o q)[i]? = some (if i < q ∧ gt v i ≠ 1 then gt v i else gt o i) := by simp [mrgQ, h]
theorem mrgQ_skip {v o : List Int} {q : Nat} (h : gt v q = 1) : mrgQ v o (q + 1) = mrgQ v o q := by
  apply List.ext_getElem?
  intro i
  by_cases hi : i < o.length
  · rw [mrgQ_get _ _ _ _ hi, mrgQ_get _ _ _ _ hi]
    by_cases hq : i = q
    · subst hq
      simp [h]
    · have : (i < q + 1) ↔ (i < q) := by omega
      simp [this]
  · rw [List.getElem?_eq_none (by rw [mrgQ_len]; omega), List.getElem?_eq_none (by rw [mrgQ_len]; omega)]
theorem mrgQ_set {v o : List Int} {q : Nat} (h : gt v q ≠ 1) : mrgQ v o (q + 1) = (mrgQ v o q).set q (gt v q) := by
  apply List.ext_getElem?
  intro i
  by_cases hi : i < o.length
  · rw [mrgQ_get _ _ _ _ hi]
    by_cases hq : i = q
    · subst hq
      rw [List.getElem?_set_self (by rw [mrgQ_len]; exact hi)]
      simp [h]
    · rw [List.getElem?_set_ne (by omega), mrgQ_get _ _ _ _ hi]
      have : (i < q + 1) ↔ (i < q) := by omega
      simp [this]
  · rw [List.getElem?_eq_none (by rw [mrgQ_len]; omega), List.getElem?_eq_none (by rw [List.length_set, mrgQ_len]; omega)]
theorem padL_len (v w : List Int) : (padL v w).length = max v.length w.length := by
  simp [padL]
  omega
theorem padL_gt (v w : List Int) (i : Nat) (h : i < max v.length w.length) : gt (padL v w) i = if i < w.length then gt w i else 1 := by
  unfold gt padL
  by_cases hi : i < w.length
  · rw [if_pos hi, List.getElem?_append_left hi]
  · rw [if_neg hi, List.getElem?_append_right (by omega), List.getElem?_replicate, if_pos (by omega)]
    rfl
theorem mrgL_val (v w : List Int) : mrgV v w (mrgL v w) := by
  intro x hx
  obtain ⟨X, rfl⟩ := Int.eq_ofNat_of_zero_le hx
  have hl : (mrgL v w).length = max v.length w.length := by unfold mrgL; rw [mrgQ_len, padL_len]
  have hg : ∀ i, i < max v.length w.length → gt (mrgL v w) i = if i < v.length ∧ gt v i ≠ 1 then gt v i else gt (padL v w) i := fun i hi => by
    unfold gt mrgL
    rw [mrgQ_get _ _ _ _ (by rw [padL_len]; exact hi)]
    rfl
  unfold valB
  simp only [hl, Int.toNat_natCast]
  by_cases h1 : X < v.length
  · rw [if_pos (by omega), hg X (by omega), if_pos (show (X : Int) < v.length by omega)]
    by_cases h2 : gt v X = 1
    · rw [if_neg (fun h => h.2 h2), if_pos h2, padL_gt v w X (by omega)]
      by_cases h3 : X < w.length
      · rw [if_pos h3, if_pos (show (X : Int) < w.length by omega)]
      · rw [if_neg h3, if_neg (show ¬ (X : Int) < w.length by omega)]
    · rw [if_pos ⟨h1, h2⟩, if_neg h2]
  · rw [if_neg (show ¬ (X : Int) < v.length by omega), if_pos rfl]
    by_cases h3 : X < w.length
    · rw [if_pos (by omega), hg X (by omega), if_neg (fun h => h1 h.1), padL_gt v w X (by omega), if_pos h3, if_pos (show (X : Int) < w.length by omega)]
    · rw [if_neg (by omega), if_neg (show ¬ (X : Int) < w.length by omega)]
theorem mrgL_knows (v w : List Int) : knows v (mrgL v w) := fun x hx h => by rw [mrgL_val v w x hx, if_neg h]
end Gim
namespace Go.Proofs.Ytmdanfeilgeoaaa
open Go.RowKit Gim Go.Sort Go.Lib
set_option maxRecDepth 100000 in
set_option maxHeartbeats 4000000 in
theorem merged_calls (ao bo : Option Addr) (n cap m cap2 : Nat) (xs ys : List Int) (w : World) (h : Rd w .i64 ao n cap xs) (h2 : Rd w .i64 bo m cap2 ys) (hnone : bo = none → m = 0 ∧ cap2 = 0) (hn : n ≤ 1099511627775) (hm : m ≤ 1099511627775) :
    Calls Try.prog 25 #[.slice ao n cap, .slice bo m cap2] w (GivesRow w 23 .i64 (mrgL xs ys)) := by
  have HL := Lib.hid h.len
  have HL2 := Lib.hid h2.len
  have hT := truths_calls bo m cap2 ys w h2 hnone (by omega)
  have HR := Lib.hid h
  clear h h2 hnone
  go_enter Try.func25, Try.ntmps25
  go_wp2_with fail
  refine hT.mono ?_
  rintro e w1 ⟨v1, rfl, hrow1, hb1⟩
  have HB1 := Lib.hid hb1
  have HR1 := Lib.hid (HR.out.below hb1)
  have HS1 := Lib.hid hb1.size
  have HROW1 := Lib.hid hrow1
  clear hT hrow1 hb1
  go_wp2_with fail
  go_loopw [5] (fun vv wr => ∃ (k : Nat), Row wr w.heap.size 23 .i64 vv (ys ++ List.replicate k 1) ∧ k ≤ n - m ∧ Below w.heap.size w wr) (fun vv _ => n - (match vv with | .slice _ l _ => l | _ => 0))
  case atStart => exact ⟨0, by simpa using HROW1.out, Nat.zero_le _, HB1.out⟩
  case round =>
    obtain ⟨k, hrow, hk, hb⟩ := hrel
    obtain ⟨a5, c5, hv5, hrd5⟩ := hrow.rd
    obtain ⟨l, hl⟩ : ∃ l, (ys ++ List.replicate k 1).length = l := ⟨_, rfl⟩
    have hlm : l = m + k := by rw [← hl]; simp [HL2.out]
    rw [hl] at hv5 hrd5
    subst hv5
    have hsz := hb.size
    have hlb : l ≤ 9223372036854775807 := by omega
    by_cases hc : l < n
    · have hc' : (l : Int) < n := by omega
      have hlq : (ys ++ List.replicate k 1).length < 1099511627776 := by rw [hl]; omega
      have HROW := Lib.hid hrow
      have HB := Lib.hid hb
      have HL3 := Lib.hid hl
      have HLM := Lib.hid hlm
      have HKK := Lib.hid (show k + 1 ≤ n - m by omega)
      clear hl hrd5 hb hlm
      go_wp2_with (at_builtin; refine append1 _ rfl _ _ 27 rfl w.heap.size 23 .i64 8 info_truth Try.underlying27 _ _ rfl hrow 1 rfl hlq (by decide) hsz ?_; intro v' w3 hown' hgrow3)
      have hb3 : Below w.heap.size w w3 := HB.out.grown hgrow3 hsz (fun j hj => (HROW.out.lt j hj).1)
      have hr4 : Row w3 w.heap.size 23 .i64 v' (ys ++ List.replicate (k + 1) 1) := by
        rw [List.replicate_succ', ← List.append_assoc]
        exact hown'
      obtain ⟨a6, c6, hv6, _⟩ := hr4.rd
      have hl6 : (ys ++ List.replicate (k + 1) 1).length = l + 1 := by simp [HL2.out]; have := HLM.out; omega
      rw [hl6] at hv6
      subst hv6
      clear hgrow3 hrow hown'
      go_wp2_with fail
      go_roundw
      case rel => exact ⟨k + 1, hr4, HKK.out, hb3⟩
      case measure => simp; omega
    · have hc' : ¬ (l : Int) < n := by omega
      have hpad : ys ++ List.replicate k 1 = padL xs ys := by
        unfold padL
        rw [HL.out, HL2.out]
        have : k = n - m := by omega
        rw [this]
      rw [hpad] at hrow
      have hlo : (padL xs ys).length = l := by rw [← hpad]; exact hl
      obtain ⟨W2, hW2⟩ : ∃ W2, W2 = wr := ⟨_, rfl⟩
      subst hW2
      have HROW := Lib.hid hrow
      have HB := Lib.hid hb
      have HLO := Lib.hid hlo
      have HNL := Lib.hid (show n ≤ l by omega)
      clear hl hpad hlo hrow hb hrd5 hlm
      go_wp2_with fail
      go_loopw [20] (fun i ws => ∃ (q : Nat), i = .int .i64 q ∧ q ≤ n ∧ Row ws w.heap.size 23 .i64 (.slice a5 l c5) (mrgQ xs (padL xs ys) q) ∧ Below w.heap.size w ws) (fun i _ => n - (RowKit.intOf i).toNat)
      case atStart => exact ⟨0, rfl, Nat.zero_le _, by rw [mrgQ_zero]; exact HROW.out, HB.out⟩
      case round =>
        obtain ⟨q, rfl, hq, hrow, hb⟩ := hrel
        by_cases hqn : q < n
        · have hqn' : (q : Int) < n := by omega
          have hql : (q : Int) < l := by have := HNL.out; omega
          obtain ⟨b, o, hao, hb1, hcl⟩ := (HR.out.below hb).cell q hqn
          subst hao
          have c0 := hcl q hqn
          obtain ⟨t, ht⟩ : ∃ t, gt xs q = t := ⟨_, rfl⟩
          rw [ht] at c0
          have HTT := Lib.hid ht
          have HROW2 := Lib.hid hrow
          have HB2 := Lib.hid hb
          clear hcl ht hb1
          by_cases h1 : t = 1
          · subst h1
            clear hb hrow
            go_wp2_with fail
            go_roundw
            case rel => exact ⟨q + 1, by go_num, by omega, by rw [mrgQ_skip HTT.out]; exact HROW2.out, HB2.out⟩
            case measure => simp [RowKit.intOf]; omega
          · have h1' : (t != 1) = true := by simpa using h1
            have hlen : (mrgQ xs (padL xs ys) q).length = l := by rw [mrgQ_len]; exact HLO.out
            obtain ⟨g, ha5⟩ : ∃ g, a5 = some ⟨g, 0, none⟩ := by
              rcases hrow.2 with ⟨h9, _⟩ | ⟨g, cap', cur, h9, _⟩
              · simp only [Value.slice.injEq] at h9; omega
              · simp only [Value.slice.injEq] at h9; exact ⟨g, h9.1⟩
            subst ha5
            have e0 := hrow.cell (j := q) (by rw [hlen]; omega)
            have f0 := hrow.free q
            have hst := hrow.set' q t
            have hg3 : wr.grownBy (wr.setCell ⟨g, q, none⟩ (.int .i64 t)) (some g) := grownBy_setAt _ _ _ _
            have hgb := (hrow.lt g rfl).1
            have HST := Lib.hid (show Row (wr.setCell ⟨g, q, none⟩ (.int .i64 t)) w.heap.size 23 .i64 (.slice (some ⟨g, 0, none⟩) l c5) (mrgQ xs (padL xs ys) (q + 1)) by
              rw [mrgQ_set (by rw [HTT.out]; exact h1), HTT.out]
              exact hst)
            have HB3 := Lib.hid (hb.grown hg3 hb.size (fun j e => by have := Option.some.inj e; omega))
            clear hst hg3 hlen hrow hb
            go_wp2_with fail
            go_roundw
            case rel => exact ⟨q + 1, by go_num, by omega, HST.out, HB3.out⟩
            case measure => simp [RowKit.intOf]; omega
        · obtain rfl : q = n := by omega
          have HROW2 := Lib.hid (show Row wr w.heap.size 23 .i64 (.slice a5 l c5) (mrgL xs ys) by unfold mrgL; rw [HL.out]; exact hrow)
          have HB2 := Lib.hid hb
          clear hrow hb
          go_wp2_with fail
          go_ret
          exact ⟨_, rfl, HROW2.out, HB2.out⟩
end Go.Proofs.Ytmdanfeilgeoaaa
