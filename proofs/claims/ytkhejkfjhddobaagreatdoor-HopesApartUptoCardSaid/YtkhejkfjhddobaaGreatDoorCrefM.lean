/- The document's classes: gimletref02.Ranges, Is, Next, Count. -/
import Derived.Test.YtkhejkfjhddobaaGreatDoorClsM
import Derived.Test.YtkhejkfjhddobaaGreatDoorRows
import Derived.Lib.LaidIn
import Derived.Deep.SlicePairs
import Derived.Deep.DeepHandedRow
import Derived.Deep.DeepWitnessRowRef
set_option maxHeartbeats 4000000
namespace Gim
open Go Go.RowKit
def yHK (k : IntKind) : List (Int × Int) → List Value
 | [] => []
 | (x, y) :: t => .int k x :: .int k y :: yHK k t
theorem yLc (k : IntKind) : ∀ (ps : List (Int × Int)) (j : Nat), j < ps.length → (yHK k ps)[j * 2]? = some (.int k (lo ps j)) ∧ (yHK k ps)[j * 2 + 1]? = some (.int k (hi ps j))
 | (x, y) :: t, 0, _ => by simp [yHK, lo, hi]
 | (x, y) :: t, j + 1, h => by
  have e : (j + 1) * 2 = j * 2 + 2 := by omega
  have := yLc k t j (by simpa using h); simpa [yHK, lo, hi, e] using this
theorem yBX {w : World} {k : IntKind} {g : Nat} {cs : Array Value} {t : TypeId} {fr : Nat × Nat} {n : Nat} {ps : List (Int × Int)} (hg : w.heap[g]? = some (.cells cs t fr)) (hc : cs.toList = yHK k ps) (hn : ps.length = n) (hm : n ≤ 18) :
  Prs w k (some ⟨g, 0, none⟩) n n ps :=
 ⟨hn, jr _, by unfold maxLen; omega, fun j hj => ⟨_, rfl, (jl hg), by
  have := (yLc k ps j (by omega)).1; rw [← hc] at this; simpa [World.cell?, hg, Addr.add_lit] using this, by have := (yLc k ps j (by omega)).2; rw [← hc] at this; simpa [World.cell?, hg, Addr.add_lit] using this⟩⟩
end Gim
namespace Go.Proofs.YtkhejkfjhddobaaGreatDoor
open Go.RowKit Gim
-- gimlet/gimletref02.Ranges
theorem yJj (w : World) : Calls Tryz.prog 110 #[.int .i64 0] w fun e w' => ∃ ao n, e = .returned (.slice ao n n) ∧ Prs w' .i64 ao n n (cls 0) ∧ Below w.heap.size w w' := by go_enter Tryz.func110, Tryz.ntmps110; go_wp2; go_ret; exact ⟨_, _, rfl, yBX (jw _ _) rfl rfl (by omega), (jf _ _).alloc (jr _) _⟩
theorem yJi (w : World) : Calls Tryz.prog 110 #[.int .i64 1] w fun e w' => ∃ ao n, e = .returned (.slice ao n n) ∧ Prs w' .i64 ao n n (cls 1) ∧ Below w.heap.size w w' := by go_enter Tryz.func110, Tryz.ntmps110; go_wp2; go_ret; exact ⟨_, _, rfl, yBX (jw _ _) rfl rfl (by omega), (jf _ _).alloc (jr _) _⟩
theorem yJw (w : World) : Calls Tryz.prog 110 #[.int .i64 2] w fun e w' => ∃ ao n, e = .returned (.slice ao n n) ∧ Prs w' .i64 ao n n (cls 2) ∧ Below w.heap.size w w' := by go_enter Tryz.func110, Tryz.ntmps110; go_wp2; go_ret; exact ⟨_, _, rfl, yBX (jw _ _) rfl rfl (by omega), (jf _ _).alloc (jr _) _⟩
theorem yJf (w : World) : Calls Tryz.prog 110 #[.int .i64 3] w fun e w' => ∃ ao n, e = .returned (.slice ao n n) ∧ Prs w' .i64 ao n n (cls 3) ∧ Below w.heap.size w w' := by go_enter Tryz.func110, Tryz.ntmps110; go_wp2; go_ret; exact ⟨_, _, rfl, yBX (jw _ _) rfl rfl (by omega), (jf _ _).alloc (jr _) _⟩
theorem yJn (w : World) : Calls Tryz.prog 110 #[.int .i64 4] w fun e w' => ∃ ao n, e = .returned (.slice ao n n) ∧ Prs w' .i64 ao n n (cls 4) ∧ Below w.heap.size w w' := by go_enter Tryz.func110, Tryz.ntmps110; go_wp2; go_ret; exact ⟨_, _, rfl, yBX (jw _ _) rfl rfl (by omega), (jf _ _).alloc (jr _) _⟩
theorem yJl (w : World) : Calls Tryz.prog 110 #[.int .i64 5] w fun e w' => ∃ ao n, e = .returned (.slice ao n n) ∧ Prs w' .i64 ao n n (cls 5) ∧ Below w.heap.size w w' := by go_enter Tryz.func110, Tryz.ntmps110; go_wp2; go_ret; exact ⟨_, _, rfl, yBX (jw _ _) rfl rfl (by omega), (jf _ _).alloc (jr _) _⟩
theorem yKy (w : World) (c : Int) : Calls Tryz.prog 110 #[.int .i64 c] w fun e w' => ∃ ao n, e = .returned (.slice ao n n) ∧ Prs w' .i64 ao n n (cls c) ∧ Below w.heap.size w w' := by
 by_cases h0 : c = 0
 ·subst h0; exact yJj w
 by_cases h1 : c = 1
 ·subst h1; exact yJi w
 by_cases h2 : c = 2
 ·subst h2; exact yJw w
 by_cases h3 : c = 3
 ·subst h3; exact yJf w
 by_cases h4 : c = 4
 ·subst h4; exact yJn w
 by_cases h5 : c = 5
 ·subst h5; exact yJl w
 have hc : cls c = [] := by unfold cls; repeat' (first | rfl | rw [if_neg (by assumption)])
 have H := jh hc; clear hc; go_enter Tryz.func110, Tryz.ntmps110; go_wp2; go_ret; exact ⟨none, 0, rfl, by rw [H.out]; exact ⟨rfl, by omega, by unfold maxLen; omega, fun j hj => by omega⟩, jf _ _⟩
-- gimlet/gimletref02.Is
theorem yLj (w : World) (c r : Int) : Calls Tryz.prog 70 #[.int .i64 c, .int .i64 r] w fun e w' => e = .returned (.bool (isR (cls c) r)) ∧ Below w.heap.size w w' := by
 go_enter Tryz.func70, Tryz.ntmps70; go_wp2_with fail; refine (yKy w c).mono ?_; rintro e w1 ⟨ao, n, rfl, hp, hb1⟩; have hn := jh hp.len; have h18 : n ≤ 18 := hp.len ▸ yI7 c; go_wp2; go_loopw [10] (fun i wr => ∃ q : Nat, q ≤ n ∧ i = .int .i64 q ∧ Hid (isR ((cls c).drop q) r = isR (cls c) r) ∧ Below w.heap.size w wr ∧ Prs wr .i64 ao n n (cls c)) (fun i _ => n - (intOf i).toNat)
 case atStart => exact ⟨0, by omega, rfl, jh rfl, hb1, hp⟩
 case round =>
  obtain ⟨q, hq, rfl, H, hb, hp⟩ := hrel; by_cases hqn : q < n
  ·obtain ⟨a, rfl, ha, h1, h2⟩ := hp.cell q hqn; obtain ⟨g1, g2, g3⟩ := yOp (c := c) (k := q) (by rw [hn.out]; exact hqn); have st := jh (yRK r (k := q) (l := cls c) (by rw [hn.out]; exact hqn)); by_cases hx : lo (cls c) q ≤ r
   ·by_cases hy : r ≤ hi (cls c) q
    ·have hxy := jh (And.intro hx hy); go_wp2; go_ret; exact ⟨by rw [← H.out, st.out, if_pos hxy.out]; rfl, hb.alloc hb.size _⟩
    ·have hxy := jh (show ¬ (lo (cls c) q ≤ r ∧ r ≤ hi (cls c) q) from fun h => hy h.2); go_wp2; go_roundw
     case rel => exact ⟨q + 1, by omega, by go_num, jh (by rw [← H.out, st.out, if_neg hxy.out]), hb.alloc hb.size _, hp.below ((jf _ _).alloc (jr _) _)⟩
     case measure => simp [intOf]; omega
   ·have hxy := jh (show ¬ (lo (cls c) q ≤ r ∧ r ≤ hi (cls c) q) from fun h => hx h.1); go_wp2; go_roundw
    case rel => exact ⟨q + 1, by omega, by go_num, jh (by rw [← H.out, st.out, if_neg hxy.out]), hb.alloc hb.size _, hp.below ((jf _ _).alloc (jr _) _)⟩
    case measure => simp [intOf]; omega
  ·obtain rfl : q = n := by omega
   go_wp2; go_ret; exact ⟨by rw [← H.out, List.drop_of_length_le (by rw [hn.out]; exact jr _)]; rfl, hb⟩
open Go.ChangeShapes Go.WideShapes Go.RowKit Go.Shelf Go.Lib Gim
def yHO {H : Type} (c : Int) : DataW H := .slice ((cls c).map fun p => .agg [.lit (.int .i32 p.1), .lit (.int .i32 p.2)]) []
theorem yLW : (Rows.laid_gimlet_chars_ranges : DataW Unit) = .agg ((List.range 6).map fun c : Nat => yHO (c : Int)) := rfl
theorem yNl : Rows.laid_unicode_utf8_first = Lib.firstData := by kernel_rfl
theorem yLS : (Rows.laid_unicode_utf8_acceptRanges : DataW Unit) = Lib.acceptData := by kernel_rfl
theorem yLX {w : World} {fuel : Nat} {v : Value} {c : Int} {p : List MemPlace} (h : DataW.trod (fun _ => ()) Tryz.prog w 0 (fun _ => true) false fuel 184 [v] = some (yHO c, p)) :
  ∃ ao n cap, v = .slice ao n cap ∧ Prs w .i32 ao n cap (cls c) := by
 rcases Go.Deep.open_slice_pairs Tryz.underlying184 Tryz.underlying187 (by kernel_rfl) rfl rfl (by kernel_rfl) (by kernel_rfl) h with ⟨_, h0⟩ | ⟨a, len, cap, m, n, V0, V1, D0, D1, P0, P1, hcs, hb, hl, hm, hmm, hx, hpr⟩
 ·simp [yHO] at h0
 ·simp only [if_true] at hmm; subst hmm; simp only [Prod.mk.injEq, yHO, DataW.slice.injEq] at hx; obtain ⟨⟨hx, _⟩, _⟩ := hx; have hlen : (cls c).length = len := by have := congrArg List.length hx; simpa using this
  refine ⟨some a, len, _, by simpa using hcs, hlen, hl, hm, fun j hj => ?_⟩; obtain ⟨h0, h1, t0, t1⟩ := hpr j (by omega); obtain ⟨z0, e0, f0, _⟩ := DataW.trod_int Tryz.underlying21 t0; obtain ⟨z1, e1, f1, _⟩ := DataW.trod_int Tryz.underlying21 t1; simp only [List.cons.injEq, and_true] at e0 e1; simp only [Prod.mk.injEq] at f0 f1; have hxj := congrArg (·[j]?) hx; simp only [List.getElem?_map, List.getElem?_range hj, Option.map_some] at hxj; have hg : (cls c)[j]? = some (lo (cls c) j, hi (cls c) j) := by
   have hj' : j < (cls c).length := by omega
   rw [jk hj']; simp [lo, hi, hj']
  rw [hg] at hxj; simp only [Option.map_some, Option.some.injEq, DataW.agg.injEq, List.cons.injEq, and_true, f0.1, f1.1, DataW.lit.injEq, Lit.int.injEq, true_and] at hxj; obtain ⟨rfl, rfl⟩ := hxj; refine ⟨a, rfl, by have := block_lt_of_cell h0; simpa [add_block] using this, by rw [h0, e0], ?_⟩; have : a.add (j * 2 + 1) = ⟨(a.add (j * 2)).block, (a.add (j * 2)).off + 1, none⟩ := by rw [← Go.Deep.add_add]; simp [Addr.add]
  rw [← this, h1, e1]
theorem yKC {w : World} (h : VarReads Tryz.prog w "gimlet/chars.ranges" Rows.laid_gimlet_chars_ranges) : Tab 2 w := by
 obtain ⟨g, t, cs, fuel, p, hg, hty, hvar, hd⟩ := h; obtain rfl := Option.some.inj ((show Tryz.prog.globalNamed "gimlet/chars.ranges" = some 2 by kernel_rfl).symm.trans hg); obtain rfl := Option.some.inj ((show (Tryz.prog.globals[2]?).map (·.type) = some 199 by kernel_rfl).symm.trans hty); have main : ∀ c : Nat, c < 6 → ∃ ao n cap, w.cell? ⟨2, c, none⟩ = some (.slice ao n cap) ∧ Prs w .i32 ao n cap (cls c) := by
  intro c hc; rw [yLW] at hd; obtain ⟨fuel', d, q, hdi, he⟩ := array_elem Tryz.underlying199 hd c hc; simp only [List.getElem?_map, List.getElem?_range hc, Option.map_some, Option.some.injEq] at hdi; subst hdi; rw [show Tryz.prog.cellsOf 184 = 1 by kernel_rfl, Nat.mul_one] at he; have hcell := World.var?_cell hg hvar c; rcases hq : cs.toList[c]? with _ | v
  ·have : (cs.toList.drop c).take 1 = [] := by simp at hq; simp; omega
   rw [this] at he; cases fuel' with
   | zero => simp [DataW.trod] at he
   | succ f => simp [DataW.trod, Tryz.underlying184] at he
  ·have : (cs.toList.drop c).take 1 = [v] := by have hlt := (ji.1 hq).1; rw [List.drop_eq_getElem_cons hlt]; simp [(ji.1 hq).2]
   rw [this] at he; obtain ⟨ao, n, cap, rfl, hp⟩ := yLX he; exact ⟨ao, n, cap, by rw [hcell, ← Array.getElem?_toList, hq], hp⟩
 obtain ⟨_, _, _, h0, _⟩ := main 0 (by omega); exact ⟨block_lt_of_cell h0, main⟩
def yEo : List (String × DataW Unit) := [("unicode/utf8.acceptRanges", Rows.laid_unicode_utf8_acceptRanges), ("gimlet/chars.ranges", Rows.laid_gimlet_chars_ranges), ("unicode/utf8.first", Rows.laid_unicode_utf8_first)]
theorem ySg {W : World} (hL : laidMetH Tryz.prog yEo W) : yBd W :=
 ⟨yKC (laidMet.reads (l := yEo) hL (.tail _ (.head _))), utf8Tabs_of_readsT (U8Types.of196 yJD) ySN (yNl ▸ laidMet.reads (l := yEo) hL (.tail _ (.tail _ (.head _)))) (yLS ▸ laidMet.reads (l := yEo) hL (.head _))⟩
noncomputable def yGJ (os : Os) : World :=
 let N := (World.settled Tryz.prog os).heap.size
 let w0 := World.holding Tryz.prog os ⟨#[.cells (yHK .i32 (cls 0)).toArray 187, .cells (yHK .i32 (cls 1)).toArray 187, .cells (yHK .i32 (cls 2)).toArray 187, .cells (yHK .i32 (cls 3)).toArray 187, .cells (yHK .i32 (cls 4)).toArray 187, .cells (yHK .i32 (cls 5)).toArray 187], #[], []⟩
 let put (h : Array Obj) (g : Nat) (cs : Array Value) : Array Obj := h.modify g fun
  | .cells _ t frozen => .cells cs t frozen
  | o => o
 let h1 := put w0.heap 0 (Lib.firstTab.map fun z => Value.int .u8 z).toArray
 let h2 := put h1 1 ((List.range 16).flatMap fun i => [Value.int .u8 (Lib.accLo i), Value.int .u8 (Lib.accHi i)]).toArray
 let h3 := put h2 2 #[.slice (some ⟨N, 0, none⟩) 5 5, .slice (some ⟨N + 1, 0, none⟩) 3 3, .slice (some ⟨N + 2, 0, none⟩) 15 15, .slice (some ⟨N + 3, 0, none⟩) 18 18, .slice (some ⟨N + 4, 0, none⟩) 1 1, .slice (some ⟨N + 5, 0, none⟩) 3 3]
 { w0 with heap := h3 }
theorem yRT (os : Os) (args : Array Value) : laidMet Tryz.prog yEo ((yGJ os).forCall (fun _ _ => 0) ⟨#[], args, []⟩).memory :=
 laidMet_of_run' 8 (by kernel_rfl) (by kernel_rfl)
end Go.Proofs.YtkhejkfjhddobaaGreatDoor
