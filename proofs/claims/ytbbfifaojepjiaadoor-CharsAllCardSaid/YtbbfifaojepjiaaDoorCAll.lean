/- chars.All: the iterator's contract. -/
import Derived.Test.YtbbfifaojepjiaaDoorCtab
import Derived.Test.YtbbfifaojepjiaaDoorCAllLaw
import Derived.RangeFuncNested
import Derived.RangeFuncBound
import Derived.RangeFuncCalls
import Derived.RangeFuncLeaves
import Derived.RangeFuncFrom
import Derived.Shelf.Abstract
import Derived.WalkKit
import Derived.OwnWalkIn
import Derived.TacticsInMore
import Derived.LoopNIn
import Derived.LoopIn
namespace Gim
open Go Go.RowKit
/-- cells from block m on lie on -/
def KeepsCells (m : Nat) (A B : World) : Prop := A.heap.size ≤ B.heap.size ∧ ∀ j o, m ≤ j → A.heap[j]? = some o → o.isCells = true → B.heap[j]? = some o
theorem KeepsCells.refl (m : Nat) (A : World) : KeepsCells m A A := ⟨Nat.le_refl _, fun _ _ _ h _ => h⟩
theorem KeepsCells.trans {m : Nat} {A B C : World} (h : KeepsCells m A B) (k : KeepsCells m B C) : KeepsCells m A C := ⟨Nat.le_trans h.1 k.1, fun j o hj ho hc => k.2 j o hj (h.2 j o hj ho hc) hc⟩
theorem KeepsCells.of_below {m : Nat} {A B : World} (h : Below A.heap.size A B) : KeepsCells m A B := ⟨h.size, fun j _ _ ho _ => (h.block j (Array.getElem?_eq_some_iff.1 ho).1).trans ho⟩
theorem KeepsCells.setCell {m : Nat} (A : World) (p : Addr) (hp : p.block < m) (v : Value) : KeepsCells m A (A.setCell p v) := by
  refine ⟨by simp [World.setCell], fun j o hj ho _ => ?_⟩
  simp only [World.setCell, Array.getElem?_modify]
  rw [if_neg (by omega)]
  exact ho
theorem KeepsCells.putObj {m : Nat} (A : World) (l : Nat) (o o' : Obj) (hl : A.heap[l]? = some o) (hc : o.isCells = false) : KeepsCells m A (A.putObj l o') := by
  refine ⟨by simp, fun j u _ hu hcu => ?_⟩
  have hne : j ≠ l := fun e => by
    subst e
    rw [hl] at hu
    cases hu
    rw [hc] at hcu
    cases hcu
  exact (World.putObj_heap_other hne).trans hu
/-- what the body of a range over chars.All keeps -/
def KpC (n m : Nat) (A B : World) : Prop := Below n A B ∧ KeepsCells m A B
theorem kpC_t {n m : Nat} : ∀ {A B C : World}, KpC n m A B → KpC n m B C → KpC n m A C := fun h k => ⟨h.1.trans k.1, h.2.trans k.2⟩
theorem grown_of_below {A B : World} (h : Below A.heap.size A B) : A.grownBy B none := ⟨h.os, h.tape, h.output, h.size, fun k hk _ => h.block k hk⟩
end Gim
namespace Go.Proofs.YtbbfifaojepjiaaDoor
open Go.RowKit Go.Shelf Gim
attribute [local go_sem] Oper.semAt_some
/-- chars.of, its table read in a world ahead -/
theorem of_calls_at (w0 w : World) (hb : Below w0.heap.size w0 w) (c : Int) (hT : Tab 0 w0) : Calls Tryd.prog 22 #[.int .i64 c] w fun e w' => ∃ ao n cap, e = .returned (.slice ao n cap) ∧ Prs w0 .i32 ao n cap (cls c) ∧ Drew w w' := by
  by_cases h0 : c < 0
  · have hc : cls c = [] := by unfold cls; repeat' (first | rfl | rw [if_neg (by omega)])
    have H := Lib.hid hc
    clear hc
    go_enter Tryd.func22, Tryd.ntmps22
    go_wp2
    go_ret
    exact ⟨none, 0, 0, rfl, by rw [H.out]; exact ⟨rfl, by omega, by unfold maxLen; omega, fun j hj => by omega⟩, Drew.refl _⟩
  · by_cases h6 : 6 ≤ c
    · have hc : cls c = [] := by unfold cls; repeat' (first | rfl | rw [if_neg (by omega)])
      have H := Lib.hid hc
      clear hc
      go_enter Tryd.func22, Tryd.ntmps22
      go_wp2
      go_ret
      exact ⟨none, 0, 0, rfl, by rw [H.out]; exact ⟨rfl, by omega, by unfold maxLen; omega, fun j hj => by omega⟩, Drew.refl _⟩
    · obtain ⟨m, rfl⟩ : ∃ m : Nat, c = m := ⟨c.toNat, by omega⟩
      obtain ⟨ao, n, cap, hcell0, hp⟩ := hT.2 m (by omega)
      have hcell := (hb.cell (p := ⟨0, m, none⟩) hT.1).trans hcell0
      have hm : (m : Int) < 6 := by omega
      have hm' : m < 6 := by omega
      clear h6 h0 hcell0
      go_enter Tryd.func22, Tryd.ntmps22
      go_wp2
      go_ret
      exact ⟨ao, n, cap, rfl, hp, Drew.refl _⟩
set_option maxRecDepth 100000 in
set_option maxHeartbeats 2000000 in
theorem cAll1_in (n : Nat) (hn : 1 ≤ n) (l Bc m₀ : Nat) (c : Int) (w0 : World) (hT : Tab 0 w0) (J Jx : List Int → World → Prop) (W : World) (hW : Below w0.heap.size w0 W) (hm : m₀ ≤ W.heap.size) (hJ : AbidesFrom W.heap.size J)
    (hY : ∀ pre x W1, J pre W1 → pre.length < (elems (cls c)).length → YieldAt Fence.wide (n - 1) Tryd.prog l #[.int .i32 x] W1 fun e W' =>
      (e = .returned (.bool true) ∧ J (pre ++ [x]) W' ∧ KpC w0.heap.size m₀ W1 W') ∨ (e = .returned (.bool false) ∧ Jx (pre ++ [x]) W'))
    (hBc : W.cell? ⟨Bc, 0, none⟩ = some (.int .i64 c)) (h0 : J [] W) :
    CallsIn Fence.wide n Tryd.prog 21 #[.func (.yield l) #[] #[], .pointer (some ⟨Bc, 0, none⟩)] W fun e W' => (∃ v, e = .returned v) ∧
      ((∃ ys, ys = elems (cls c) ∧ J ys W') ∨ (∃ pre, pre <+: elems (cls c) ∧ Jx pre W')) := by
  refine callsIn_of_wp Tryd.func21 rfl trivial ?_ rfl
  simp only [Tryd.ntmps21, List.size_toArray, List.length_cons, List.length_nil, Nat.reduceAdd, Nat.reduceSub, Array.replicate_succ, Array.replicate_zero, List.push_toArray, List.append_toArray, List.nil_append, List.cons_append]
  gi_wp2_with fail
  refine ⟨trivial, ((callsIn_wide (n := n - 1)).2 (of_calls_at w0 _ hW c hT)).mono ?_⟩
  rintro e w1 ⟨ao, n2, cap, rfl, hp, hd⟩
  have hlen := Lib.hid hp.len
  have h18 : n2 ≤ 18 := hp.len ▸ cls_length c
  have hW1 := hW.trans (hd.below _)
  have hJ1 : J [] w1 := hJ _ _ _ none h0 (grown_of_below (hd.below _)) (fun r e => by cases e)
  have hm1 : m₀ ≤ w1.heap.size := Nat.le_trans hm (hd.below 0).size
  gi_wp2
  gi_loopw [9] (fun i wr => ∃ (q : Nat) (pre : List Int), i = .int .i64 q ∧ q ≤ n2 ∧ J pre wr ∧ Below w0.heap.size w0 wr ∧ m₀ ≤ wr.heap.size ∧ Hid (pre ++ elems ((cls c).drop q) = elems (cls c))) (fun i _ => n2 - (intOf i).toNat)
  case atStart => exact ⟨0, [], rfl, Nat.zero_le _, hJ1, hW1, hm1, Lib.hid rfl⟩
  case round =>
    obtain ⟨q, pre, rfl, hq, hJs, hb, hmr, H⟩ := hrel
    by_cases hqn : q < n2
    · obtain ⟨a, rfl, ha, h1, h2⟩ := (hp.below hb).cell q hqn
      obtain ⟨g1, g2, g3⟩ := lohi_range (c := c) (k := q) (by rw [hlen.out]; exact hqn)
      obtain ⟨wO, rfl⟩ : ∃ wO, wO = wr := ⟨_, rfl⟩
      have bb : ∀ o, Below wO.heap.size wO (wO.alloc o) := fun o => (Below.refl _ _).alloc (Nat.le_refl _) o
      have yb := fun o => heap_alloc_new wO o
      have HS := Lib.hid (show pre ++ (upToC (lo (cls c) q) (hi (cls c) q) ++ elems ((cls c).drop (q + 1))) = elems (cls c) by rw [← elems_drop (by rw [hlen.out]; exact hqn)]; exact H.out)
      have hJ2 : ∀ o, J pre (wO.alloc o) := fun o => hJ _ _ _ none hJs (grown_of_below (bb o)) (fun r e => by cases e)
      have hb2 : ∀ o, Below w0.heap.size w0 (wO.alloc o) := fun o => hb.alloc hb.size o
      have HM := Lib.hid hmr
      have HJ2 := Lib.hid hJ2
      have HB2 := Lib.hid hb2
      have YB := Lib.hid yb
      obtain ⟨lq, hlq⟩ : ∃ lq, lo (cls c) q = lq := ⟨_, rfl⟩
      obtain ⟨hq2, hhq⟩ : ∃ hq2, hi (cls c) q = hq2 := ⟨_, rfl⟩
      rw [hlq, hhq] at HS
      rw [hlq] at h1 g1 g2
      rw [hhq] at h2 g2 g3
      clear hb hJs hmr H hb2 hJ2 bb yb hlq hhq
      gi_wp2
      gi_loopw [5] (fun r wi => ∃ (x : Int) (pr : List Int) (t : TypeId), r = .int .i32 x ∧ lq ≤ x ∧ x ≤ hq2 + 1 ∧ J pr wi ∧ Below w0.heap.size w0 wi ∧ wi.heap[wO.heap.size]? = some (.cells #[.int .i32 lq, .int .i32 hq2] t) ∧ Hid (pr ++ (upToC x hq2 ++ elems ((cls c).drop (q + 1))) = elems (cls c))) (fun r _ => (hq2 + 1 - intOf r).toNat)
      case atStart => exact ⟨lq, pre, _, rfl, Int.le_refl _, by omega, HJ2.out _, HB2.out _, YB.out _, HS⟩
      case round =>
        obtain ⟨x, pr, t, rfl, hx1, hx2, hJi, hbi, hyi, HI⟩ := hrel
        have cy : wr.cell? ⟨wO.heap.size, 1, none⟩ = some (.int .i32 hq2) := by simp [World.cell?, hyi]
        by_cases hx : x ≤ hq2
        · have hNN := HI.out
          rw [upToC_next hx] at hNN
          have HN := Lib.hid (show (pr ++ [x]) ++ (upToC (x + 1) hq2 ++ elems ((cls c).drop (q + 1))) = elems (cls c) by rw [List.append_assoc]; exact hNN)
          have hlt : pr.length < (elems (cls c)).length := by rw [← hNN]; simp
          obtain ⟨fn, tmps, assign, body, hy, hR⟩ := hY pr x wr hJi hlt
          clear hNN HI hlt
          gi_wp2
          refine hR.mono ?_
          rintro e W3 (⟨rfl, hJ3, hk3⟩ | ⟨rfl, hJx3⟩)
          · have hy3 := hk3.2.2 _ _ HM.out hyi rfl
            have hb3 := hbi.trans hk3.1
            gi_wp2
            go_roundw
            case rel => exact ⟨x + 1, _, t, rfl, by omega, by omega, hJ3, hb3, hy3, HN⟩
            case measure => simp [intOf]; omega
          · gi_wp2
            refine bodyPost_ret (results_none rfl _ _ _) rfl ?_
            exact ⟨⟨_, rfl⟩, .inr ⟨_, ⟨_, HN.out⟩, hJx3⟩⟩
        · have HE := Lib.hid (show pr ++ elems ((cls c).drop (q + 1)) = elems (cls c) by have h := HI.out; rw [upToC_end hx, List.nil_append] at h; exact h)
          have hsz : m₀ ≤ wr.heap.size := Nat.le_trans HM.out (Nat.le_of_lt (Array.getElem?_eq_some_iff.1 hyi).1)
          gi_wp2
          go_roundw
          case rel => exact ⟨q + 1, pr, by go_num, by omega, hJi, hbi, hsz, HE⟩
          case measure => simp [intOf]; omega
    · gi_wp2
      go_end0
      exact ⟨⟨_, rfl⟩, .inl ⟨_, by
        have h := H.out
        rw [List.drop_of_length_le (by rw [hlen.out]; omega)] at h
        simpa [elems] using h, hJs⟩⟩
/-- chars.All(class) hands back a value that goes through the class -/
theorem cAll_stops (n : Nat) (hn : 1 ≤ n) (Bc m₀ : Nat) (c : Int) (w0 w : World) (hT : Tab 0 w0) (hw : Below w0.heap.size w0 w) (hm : m₀ ≤ w.heap.size) (hB : Bc < w.heap.size) (hc : w.cell? ⟨Bc, 0, none⟩ = some (.int .i64 c)) :
    SeqStopsK Fence.wide n Tryd.prog 21 #[.pointer (some ⟨Bc, 0, none⟩)] (fun x : Int => #[.int .i32 x]) (KpC w0.heap.size m₀) (fun ys => ys = elems (cls c)) (fun pre => pre <+: elems (cls c)) (elems (cls c)).length w := fun l J Jx W hW hJ _ hY h0 =>
  cAll1_in n hn l Bc m₀ c w0 hT J Jx W (hw.trans (hW.mono hw.size)) (Nat.le_trans hm hW.size) hJ hY ((hW.cell (p := ⟨Bc, 0, none⟩) hB).trans hc) h0
theorem cAll_in (n : Nat) (c : Int) (w : World) :
    CallsIn Fence.wide n Tryd.prog 7 #[.int .i64 c] w fun e w' => e = .returned (.func (.func 21) #[] #[.pointer (some ⟨w.heap.size, 0, none⟩)]) ∧ w' = w.alloc (.cells #[.int .i64 c] 24) := by
  refine callsIn_of_wp Tryd.func7 rfl trivial ?_ rfl
  simp only [Tryd.ntmps7, List.size_toArray, List.length_cons, List.length_nil, Nat.reduceAdd, Nat.reduceSub, Array.replicate_succ, Array.replicate_zero, List.push_toArray, List.append_toArray, List.nil_append, List.cons_append]
  gi_wp2
  go_ret
  exact ⟨rfl, rfl⟩
theorem kpC_b {n m : Nat} {w : World} (hn : n ≤ w.heap.size) (W : World) (l : Nat) (o o' : Obj) (hl : w.heap.size ≤ l) (h : W.heap[l]? = some o) (hc : o.isCells = false) (hw : o.isWalk = false) : KpC n m W (W.putObj l o') :=
  ⟨belowK_b hn W l o o' hl h hc hw, KeepsCells.putObj W l o o' h hc⟩
end Go.Proofs.YtbbfifaojepjiaaDoor
