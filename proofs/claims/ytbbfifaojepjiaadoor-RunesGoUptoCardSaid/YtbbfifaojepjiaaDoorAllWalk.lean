/- runes.All: the iterator's contract. -/
import Derived.Test.YtbbfifaojepjiaaDoorBase
import Derived.RangeFuncNested
import Derived.RangeFuncBound
import Derived.RangeFuncCalls
import Derived.RangeFuncLeaves
import Derived.RangeFuncFrom
import Derived.Shelf.Abstract
import Derived.Shelf.RegionOpen
import Derived.WalkKit
import Derived.OwnWalkIn
import Derived.TacticsInMore
import Derived.LoopNIn
import Derived.LoopIn
namespace Gim
open Go
/-- places and characters of s from place p on, with fuel -/
def prF (s : ByteArray) : Nat → Nat → List (Nat × Int)
  | 0, _ => []
  | f + 1, p => if p < s.size then (p, ((Utf8.decode s p).1 : Int)) :: prF s f (p + (Utf8.decode s p).2) else []
theorem prF_end (s : ByteArray) (f p : Nat) (h : ¬ p < s.size) : prF s f p = [] := by
  cases f <;> simp [prF, h]
theorem prF_fuel (s : ByteArray) : ∀ (f g p : Nat), s.size ≤ p + f → s.size ≤ p + g → prF s f p = prF s g p := by
  intro f
  induction f with
  | zero => intro g p h _; rw [prF_end s g p (by omega)]; rfl
  | succ f ih =>
    intro g p h h2
    by_cases hp : p < s.size
    · obtain ⟨g, rfl⟩ : ∃ g', g = g' + 1 := ⟨g - 1, by omega⟩
      have hw := Lib.decode_width_pos s p hp
      simp only [prF, hp, if_true]
      rw [ih g (p + (Utf8.decode s p).2) (by omega) (by omega)]
    · rw [prF_end s _ p hp, prF_end s _ p hp]
/-- places and characters of s from place p on -/
def prAt (s : ByteArray) (p : Nat) : List (Nat × Int) := prF s (s.size - p) p
theorem prAt_end {s : ByteArray} {p : Nat} (h : ¬ p < s.size) : prAt s p = [] := prF_end s _ p h
theorem prAt_next {s : ByteArray} {p : Nat} (h : p < s.size) : prAt s p = (p, ((Utf8.decode s p).1 : Int)) :: prAt s (p + (Utf8.decode s p).2) := by
  have hw := Lib.decode_width_pos s p h
  unfold prAt
  obtain ⟨f, hf⟩ : ∃ f, s.size - p = f + 1 := ⟨s.size - p - 1, by omega⟩
  rw [hf]
  simp only [prF, h, if_true]
  rw [prF_fuel s f (s.size - (p + (Utf8.decode s p).2)) (p + (Utf8.decode s p).2) (by omega) (by omega)]
theorem Went.grown {w W1 : World} {k : Nat} {s : ByteArray} {p : Nat} (h : Went w k s p W1) : w.grownBy W1 (some k) := by
  have hb := h.below k w (RowKit.Below.refl _ _) (Nat.le_refl _)
  exact ⟨hb.os, hb.tape, hb.output, hb.size, fun j _ hne => h.other j (fun e => hne (by rw [e]))⟩
end Gim
namespace Go.Proofs.YtbbfifaojepjiaaDoor
open Go.RowKit Go.Shelf Gim
attribute [local go_sem] Oper.semAt_some
/-- a place is told as far as a text reaches -/
abbrev encP (x : Nat × Int) : Array Value := #[.int .i64 ((min x.1 1125899906842624 : Nat) : Int), .int .i32 x.2]
set_option maxRecDepth 100000 in
set_option maxHeartbeats 2000000 in
/-- 'for at, r := range s { if !yield(at, r) { return } }' -/
theorem all1_in (F : Fence) (n : Nat) (hf : F.fn 28) (hro : F.round = none) (hn : 1 ≤ n) (l Bs : Nat) (s : ByteArray) (hs : s.size ≤ 1125899906842624) (J Jx : List (Nat × Int) → World → Prop) (W : World) (hJ : AbidesFrom W.heap.size J)
    (hY : ∀ pre x W1, J pre W1 → pre.length < (prAt s 0).length → YieldAt F (n - 1) Tryd.prog l (encP x) W1 fun e W' =>
      (e = .returned (.bool true) ∧ J (pre ++ [x]) W' ∧ KeepsWalks W1 W') ∨ (e = .returned (.bool false) ∧ Jx (pre ++ [x]) W'))
    (hBs : W.cell? ⟨Bs, 0, none⟩ = some (.string s)) (h0 : J [] W) :
    CallsIn F n Tryd.prog 28 #[.func (.yield l) #[] #[], .pointer (some ⟨Bs, 0, none⟩)] W fun e W' => (∃ v, e = .returned v) ∧
      ((∃ ys, ys = prAt s 0 ∧ J ys W') ∨ (∃ pre, pre <+: prAt s 0 ∧ Jx pre W')) := by
  refine callsIn_of_wp Tryd.func28 rfl hf ?_ hro
  simp only [Tryd.ntmps28, List.size_toArray, List.length_cons, List.length_nil, Nat.reduceAdd, Nat.reduceSub, Array.replicate_succ, Array.replicate_zero, List.push_toArray, List.append_toArray, List.nil_append, List.cons_append]
  gi_wp2
  gi_loopw [3] (fun _ wr => ∃ (pos : Nat) (pre : List (Nat × Int)), wr.heap[W.heap.size]? = some (.stringIter s pos) ∧ J pre wr ∧ Hid (pre ++ prAt s pos = prAt s 0)) (fun _ wr => s.size - wr.iterPos W.heap.size)
  case atStart => exact ⟨0, [], World.iter_heap W s 0, hJ _ _ _ none h0 (World.grownBy_alloc W _ none) (fun r e => by cases e), Lib.hid rfl⟩
  case round =>
    obtain ⟨pos, pre, hit, hJs, H⟩ := hrel
    have hpos0 := iterPos_of hit
    by_cases hp : pos < s.size
    · obtain ⟨W1, hnx, hw1⟩ := next_some (P := Tryd.prog) hit hp
      have hwd := Lib.decode_width_pos s pos hp
      have hJ1 : J pre W1 := hJ _ _ _ _ hJs hw1.grown (fun r e => by cases e; exact ⟨Nat.le_refl _, _, hit, rfl⟩)
      have hN := H.out
      rw [prAt_next hp] at hN
      have HN := Lib.hid (show (pre ++ [(pos, ((Utf8.decode s pos).1 : Int))]) ++ prAt s (pos + (Utf8.decode s pos).2) = prAt s 0 by rw [List.append_assoc]; exact hN)
      have hlt : pre.length < (prAt s 0).length := by rw [← hN]; simp
      obtain ⟨fn, tmps, assign, body, hy, hR⟩ := hY pre (pos, ((Utf8.decode s pos).1 : Int)) W1 hJ1 hlt
      dsimp only [encP] at hy
      rw [Nat.min_eq_left (by omega)] at hy
      have hit1 := hw1.it
      clear hN H hlt
      gi_wp2
      refine hR.mono ?_
      rintro e W3 (⟨rfl, hJ3, hk3⟩ | ⟨rfl, hJx3⟩)
      · have hit3 : W3.heap[W.heap.size]? = some (.stringIter s (pos + (Utf8.decode s pos).2)) := hk3.2 _ _ hit1 rfl
        gi_wp2
        go_roundw
        case rel => exact ⟨_, _, hit3, hJ3, HN⟩
        case measure => rw [iterPos_of hit3, hpos0]; omega
      · gi_wp2
        refine bodyPost_ret (results_none rfl _ _ _) rfl ?_
        exact ⟨⟨_, rfl⟩, .inr ⟨_, ⟨_, HN.out⟩, hJx3⟩⟩
    · have hnx : ∀ ty, (Instr.next (.pointer (some ⟨W.heap.size, 0, none⟩)) true ty).run Tryd.prog wr = _ := fun ty => Lib.run_next_end_at wr W.heap.size s pos ty hit hp
      have HE := Lib.hid (H.out.symm.trans (by rw [prAt_end hp, List.append_nil]) : prAt s 0 = pre)
      clear H
      gi_wp2
      go_end0
      exact ⟨⟨_, rfl⟩, .inl ⟨_, HE.out.symm, hJs⟩⟩
/-- runes.All(s) hands back a value that goes through the string -/
theorem all_stops (F : Fence) (n : Nat) (hf : F.fn 28) (hro : F.round = none) (hn : 1 ≤ n) (Bs : Nat) (s : ByteArray) (hs : s.size ≤ 1125899906842624) (w : World) (hBs : Bs < w.heap.size) (hc : w.cell? ⟨Bs, 0, none⟩ = some (.string s)) :
    SeqStopsK F n Tryd.prog 28 #[.pointer (some ⟨Bs, 0, none⟩)] encP KeepsWalks (fun ys => ys = prAt s 0) (fun pre => pre <+: prAt s 0) (prAt s 0).length w := fun l J Jx W hW hJ _ hY h0 =>
  all1_in F n hf hro hn l Bs s hs J Jx W hJ hY ((hW.cell (p := ⟨Bs, 0, none⟩) hBs).trans hc) h0
theorem all_in (F : Fence) (n : Nat) (hf : F.fn 12) (hro : F.round = none) (s : ByteArray) (w : World) :
    CallsIn F n Tryd.prog 12 #[.string s] w fun e w' => e = .returned (.func (.func 28) #[] #[.pointer (some ⟨w.heap.size, 0, none⟩)]) ∧ w' = w.alloc (.cells #[.string s] 9) := by
  refine callsIn_of_wp Tryd.func12 rfl hf ?_ hro
  simp only [Tryd.ntmps12, List.size_toArray, List.length_cons, List.length_nil, Nat.reduceAdd, Nat.reduceSub, Array.replicate_succ, Array.replicate_zero, List.push_toArray, List.append_toArray, List.nil_append, List.cons_append]
  gi_wp2
  go_ret
  exact ⟨rfl, rfl⟩
end Go.Proofs.YtbbfifaojepjiaaDoor
