/- kleene.simple's sorting, compacting and looking through a slice of formulas. -/
import Derived.Test.YtmdanfeilgeoaaaKRow
import Derived.Test.YtmdanfeilgeoaaaKLay
import Derived.Shelf.SlSortCmp.QuietGrown
import Derived.Deep.CutRange
import Derived.Deep.CutBlock
namespace Gim
open Go Go.RowKit Go.Sort Go.Proofs Go.Lib
theorem ordV_lt (x y : Int × Int × Int) : ltOf ordV x y = decide (x.1 < y.1 ∨ x.1 = y.1 ∧ (x.2.1 < y.2.1 ∨ x.2.1 = y.2.1 ∧ x.2.2 < y.2.2)) := by
  unfold ltOf ordV or3 cmpZ
  by_cases h1 : x.1 < y.1 <;> by_cases h2 : y.1 < x.1 <;> by_cases h3 : x.2.1 < y.2.1 <;> by_cases h4 : y.2.1 < x.2.1 <;> by_cases h5 : x.2.2 < y.2.2 <;> by_cases h6 : y.2.2 < x.2.2 <;> simp [h1, h2, h3, h4, h5, h6] <;> omega
theorem ordV_swo : SWO (ltOf ordV) where
  irrefl x := by rw [ordV_lt]; simp
  trans x y z h1 h2 := by rw [ordV_lt] at *; simp at *; omega
  ntrans x y z h1 h2 := by rw [ordV_lt] at *; simp at *; omega
theorem ordV_tot (x y : Int × Int × Int) (h1 : ltOf ordV x y = false) (h2 : ltOf ordV y x = false) : x = y := by
  rw [ordV_lt] at *
  obtain ⟨a, b, c⟩ := x
  obtain ⟨a', b', c'⟩ := y
  simp at *
  omega
theorem sorted3 : ([(1, 0, 1), (1, 0, 0), (1, 0, 1)] : List (Int × Int × Int)).mergeSort (fun x y => !ltOf ordV y x) = [(1, 0, 0), (1, 0, 1), (1, 0, 1)] := by
  have h1 : ltOf ordV (1, 0, 0) (1, 0, 1) = true := by decide
  have h2 : ltOf ordV (1, 0, 1) (1, 0, 0) = false := by decide
  have h3 : ltOf ordV (1, 0, 1) (1, 0, 1) = false := by decide
  simp [List.mergeSort, List.MergeSort.Internal.splitInTwo, h1, h2, h3]
theorem holdsV_at {w : World} {g : Nat} {d : Array (Int × Int × Int)} (h : HoldsK encV 4 w g 0 d) (i : Nat) (hi : i < d.size) : w.cell? ⟨g, i * 4, none⟩ = some (.int .i64 (d[i]!).1) ∧ w.cell? ⟨g, i * 4 + 1, none⟩ = some (.int .i64 (d[i]!).2.1) ∧ w.cell? ⟨g, i * 4 + 2, none⟩ = some (.int .i64 (d[i]!).2.2) ∧ w.cell? ⟨g, i * 4 + 3, none⟩ = some (.slice none 0 0) ∧ ∀ k, k < 4 → w.frozen? ⟨g, i * 4 + k, none⟩ = false := by
  have hh : ∀ k, k < 4 → w.cell? ⟨g, i * 4 + k, none⟩ = some ((encV d[i]!)[k]!) ∧ w.frozen? ⟨g, i * 4 + k, none⟩ = false := fun k hk => by
    have h1 := h (i * 4 + k) (by rw [size_flatK]; omega)
    rw [get_flatK _ _ _ _ (by omega), show (i * 4 + k) / 4 = i by omega, show (i * 4 + k) % 4 = k by omega, Nat.zero_add] at h1
    exact h1
  exact ⟨(hh 0 (by omega)).1, (hh 1 (by omega)).1, (hh 2 (by omega)).1, (hh 3 (by omega)).1, fun k hk => (hh k hk).2⟩
theorem holdsV_of {w : World} {g : Nat} {d : Array (Int × Int × Int)} (h : ∀ i, i < d.size → ∀ k, k < 4 → w.cell? ⟨g, i * 4 + k, none⟩ = some ((encV d[i]!)[k]!) ∧ w.frozen? ⟨g, i * 4 + k, none⟩ = false) : HoldsK encV 4 w g 0 d := by
  intro j hj
  rw [size_flatK] at hj
  have h1 := h (j / 4) (by omega) (j % 4) (by omega)
  rw [show j / 4 * 4 + j % 4 = j by omega] at h1
  rw [get_flatK _ _ _ _ hj, Nat.zero_add]
  exact h1
theorem holdsV_below {w w' : World} {g : Nat} {d : Array (Int × Int × Int)} (h : HoldsK encV 4 w g 0 d) (hg : g < w.heap.size) (hb : Below w.heap.size w w') : HoldsK encV 4 w' g 0 d := fun j hj => by
  have h1 := h j hj
  have h2 := hb.block g hg
  simp only [World.cell?, World.frozen?, h2] at h1 ⊢
  exact h1
theorem sortWorldK_grownBy {α : Type} [Inhabited α] (enc : α → List Value) (k : Nat) (w : World) (blk off n : Nat) (d : Array α) (os : Array Obj) : w.grownBy (sortWorldK enc k w blk off n d os) (some blk) := by
  have hs : (putRowK enc k (Sort.ahead w n) blk off d).heap.size = w.heap.size := by simp [putRowK, putRow, mapBlock, Sort.ahead]
  refine ⟨rfl, rfl, rfl, ?_, fun j hj hne => ?_⟩
  · simp only [sortWorldK, grow, Array.size_append]
    omega
  · have hne' : blk ≠ j := fun e => hne (by rw [e])
    simp only [sortWorldK, grow]
    rw [Array.getElem?_append_left (by omega)]
    simp only [putRowK, putRow, mapBlock, Sort.ahead, Array.getElem?_modify]
    rw [if_neg hne']
theorem grownBy_set1 (w : World) (g o : Nat) (v : Value) : w.grownBy (w.setCell ⟨g, o, none⟩ v) (some g) := by
  refine ⟨rfl, rfl, rfl, by simp [World.setCell], fun j _ hne => ?_⟩
  have hne' : g ≠ j := fun e => hne (by rw [e])
  simp only [World.setCell, Array.getElem?_modify]
  rw [if_neg hne']
theorem grownBy_trans {a b c : World} {g : Option Nat} (h : a.grownBy b g) (k : b.grownBy c g) : a.grownBy c g :=
  ⟨k.os.trans h.os, k.tape.trans h.tape, k.output.trans h.output, Nat.le_trans h.size k.size, fun j hj hne => (k.block j (Nat.lt_of_lt_of_le hj h.size) hne).trans (h.block j hj hne)⟩
theorem Grows.grownBy {a b : World} (h : Grows a b) (g : Option Nat) : a.grownBy b g := ⟨h.below.os, h.below.tape, h.below.output, h.below.size, fun j hj _ => h.below.block j hj⟩
end Gim
namespace Go.Proofs.Ytmdanfeilgeoaaa
open Go.RowKit Gim Go.Sort Go.Lib
theorem same_calls (x y : Int × Int × Int) (w : World) : Calls Try.prog 49 #[.agg #[.int .i64 x.1, .int .i64 x.2.1, .int .i64 x.2.2, .slice none 0 0], .agg #[.int .i64 y.1, .int .i64 y.2.1, .int .i64 y.2.2, .slice none 0 0]] w fun e w' => e = .returned (.bool (decide (ordV x y = 0))) ∧ Grows w w' := by
  have hC := fun w => order_calls x y w
  obtain ⟨r, hr⟩ : ∃ r, ordV x y = r := ⟨_, rfl⟩
  rw [hr] at hC ⊢
  clear hr
  obtain ⟨x1, x2, x3⟩ := x
  obtain ⟨y1, y2, y3⟩ := y
  dsimp only at hC ⊢
  go_enter Try.func49, Try.ntmps49
  go_wp2_with fail
  refine (hC _).mono ?_
  rintro e w1 ⟨rfl, hg⟩
  have HG := Lib.hid ((((Grows.refl w).alloc _).alloc _).trans hg)
  clear hg hC
  go_wp2_with fail
  go_ret
  exact ⟨by simp [Bool.beq_eq_decide_eq], HG.out⟩
theorem isAll_calls (B : Nat) (x y : Int × Int × Int) (w : World) (hB : B < w.heap.size) (hc : w.heap[B]? = some (.cells #[.int .i64 y.1, .int .i64 y.2.1, .int .i64 y.2.2, .slice none 0 0] 26)) : Calls Try.prog 51 #[.agg #[.int .i64 x.1, .int .i64 x.2.1, .int .i64 x.2.2, .slice none 0 0], .pointer (some ⟨B, 0, none⟩)] w fun e w' => e = .returned (.bool (decide (ordV x y = 0))) ∧ Grows w w' := by
  have hC := fun w => order_calls x y w
  obtain ⟨r, hr⟩ : ∃ r, ordV x y = r := ⟨_, rfl⟩
  rw [hr] at hC ⊢
  clear hr
  obtain ⟨x1, x2, x3⟩ := x
  obtain ⟨y1, y2, y3⟩ := y
  dsimp only at hC hc ⊢
  have hc2 := (heap_alloc_old w (.cells #[.int .i64 x1, .int .i64 x2, .int .i64 x3, .slice none 0 0] 26) hB).trans hc
  have c0 : (w.alloc (.cells #[.int .i64 x1, .int .i64 x2, .int .i64 x3, .slice none 0 0] 26)).cell? ⟨B, 0, none⟩ = some (.int .i64 y1) := by simp only [World.cell?, hc2]; rfl
  have c1 : (w.alloc (.cells #[.int .i64 x1, .int .i64 x2, .int .i64 x3, .slice none 0 0] 26)).cell? ⟨B, 1, none⟩ = some (.int .i64 y2) := by simp only [World.cell?, hc2]; rfl
  have c2 : (w.alloc (.cells #[.int .i64 x1, .int .i64 x2, .int .i64 x3, .slice none 0 0] 26)).cell? ⟨B, 2, none⟩ = some (.int .i64 y3) := by simp only [World.cell?, hc2]; rfl
  have c3 : (w.alloc (.cells #[.int .i64 x1, .int .i64 x2, .int .i64 x3, .slice none 0 0] 26)).cell? ⟨B, 3, none⟩ = some (.slice none 0 0) := by simp only [World.cell?, hc2]; rfl
  clear hc hc2
  go_enter Try.func51, Try.ntmps51
  go_wp2_with fail
  refine (hC _).mono ?_
  rintro e w1 ⟨rfl, hg⟩
  have HG := Lib.hid (((Grows.refl w).alloc _).trans hg)
  clear hg hC
  go_wp2_with fail
  go_ret
  exact ⟨by simp [Bool.beq_eq_decide_eq], HG.out⟩
theorem sort_calls (g cap : Nat) (d : Array (Int × Int × Int)) (w : World) (hH : HoldsK encV 4 w g 0 d) (hg : g < w.heap.size) (hs : d.size < 4611686018427387904) :
    Calls Try.prog 47 #[.slice (some ⟨g, 0, none⟩) d.size cap, .func (.func 46) #[] #[]] w fun e w' =>
      e = .returned (.tuple #[]) ∧ w.grownBy w' (some g) ∧ HoldsK encV 4 w' g 0 (d.toList.mergeSort fun x y => !ltOf ordV y x).toArray := by
  have hcon := AnyQ.slices_SortFunc_total laysSortF 4 Try.isAgg26 Try.sizeOf26 encV (fun _ => rfl) (fun x v hv => by simp [encV] at hv; rcases hv with rfl | rfl | rfl | rfl <;> rfl) ordV ordV_swo 46 #[] g 0 cap d w
    (enters_of Try.func46 (by kernel_rfl) rfl) (fun _ _ _ _ x y => order_calls x y _) hH hg hs ordV_tot
  refine Calls.mono hcon ?_
  rintro e w' ⟨rfl, n, os, rfl⟩
  exact ⟨rfl, sortWorldK_grownBy _ _ _ _ _ _ _ _, holdsK_sortWorldK_c encV 4 w g 0 d _ n os hH hg (by simp)⟩
theorem run_clear_form (w : World) (g o c : Nat) (ty : TypeId) (hc : ∀ j, j < 4 → (w.cell? ⟨g, o + j, none⟩).isSome = true) (hf : ∀ j, j < 4 → w.frozen? ⟨g, o + j, none⟩ = false) :
    (Builtin.clear_ #[24] ty #[.slice (some ⟨g, o, none⟩) 1 c]).run Try.prog w = .ok (.tuple #[]) ((((w.setCell ⟨g, o, none⟩ (.int .i64 0)).setCell ⟨g, o + 1, none⟩ (.int .i64 0)).setCell ⟨g, o + 2, none⟩ (.int .i64 0)).setCell ⟨g, o + 3, none⟩ (.slice none 0 0)) := by
  have hzc : (Builtin.zeroCells (Value.agg #[.int .i64 0, .int .i64 0, .int .i64 0, .slice none 0 0]).cells 1).toList = [.int .i64 0, .int .i64 0, .int .i64 0, .slice none 0 0] := by kernel_rfl
  have hst := run_storeCells_cells (P := Try.prog) g o [.int .i64 0, .int .i64 0, .int .i64 0, .slice none 0 0] 0 w (by simpa using hc) (by simpa using hf) (by intro v hv; simp at hv; rcases hv with rfl | rfl <;> rfl)
  simp only [Nat.add_zero] at hst
  simp [Builtin.clear_, run_underlying Try.underlying24, Try.zeroValue26, hzc, hst, World.setCells]
set_option maxHeartbeats 4000000 in
theorem compact3 (g cap : Nat) (w : World) (hH : HoldsK encV 4 w g 0 #[(1, 0, 0), (1, 0, 1), (1, 0, 1)]) (hg : g < w.heap.size) (hcap : 3 ≤ cap) (hcm : cap ≤ maxLen) :
    Calls Try.prog 48 #[.slice (some ⟨g, 0, none⟩) 3 cap, .func (.func 49) #[] #[]] w fun e w' =>
      e = .returned (.slice (some ⟨g, 0, none⟩) 2 cap) ∧ w.grownBy w' (some g) ∧ HoldsK encV 4 w' g 0 #[(1, 0, 0), (1, 0, 1)] := by
  have eg : ∀ args w, (callFunc 49 args).run Try.prog w = .ok (.enter 49 args) w := enters_of Try.func49 (by kernel_rfl) rfl
  have hfacts : ∀ W, HoldsK encV 4 W g 0 #[(1, 0, 0), (1, 0, 1), (1, 0, 1)] → W.cell? ⟨g, 0, none⟩ = some (.int .i64 1) ∧ W.cell? ⟨g, 1, none⟩ = some (.int .i64 0) ∧ W.cell? ⟨g, 2, none⟩ = some (.int .i64 0) ∧ W.cell? ⟨g, 3, none⟩ = some (.slice none 0 0) ∧
      W.cell? ⟨g, 4, none⟩ = some (.int .i64 1) ∧ W.cell? ⟨g, 5, none⟩ = some (.int .i64 0) ∧ W.cell? ⟨g, 6, none⟩ = some (.int .i64 1) ∧ W.cell? ⟨g, 7, none⟩ = some (.slice none 0 0) ∧
      W.cell? ⟨g, 8, none⟩ = some (.int .i64 1) ∧ W.cell? ⟨g, 9, none⟩ = some (.int .i64 0) ∧ W.cell? ⟨g, 10, none⟩ = some (.int .i64 1) ∧ W.cell? ⟨g, 11, none⟩ = some (.slice none 0 0) := fun W h => by
    obtain ⟨a0, a1, a2, a3, _⟩ := holdsV_at h 0 (by simp)
    obtain ⟨b0, b1, b2, b3, _⟩ := holdsV_at h 1 (by simp)
    obtain ⟨c0, c1, c2, c3, _⟩ := holdsV_at h 2 (by simp)
    exact ⟨a0, a1, a2, a3, b0, b1, b2, b3, c0, c1, c2, c3⟩
  have hgr : ∀ n os, Grows w (grow (w.drewN n) os) := fun n os => ⟨n, os, rfl⟩
  have k1 : ∀ W, Calls Try.prog 49 #[.agg #[.int .i64 1, .int .i64 0, .int .i64 1, .slice none 0 0], .agg #[.int .i64 1, .int .i64 0, .int .i64 0, .slice none 0 0]] W fun e w' => e = .returned (.bool false) ∧ ∃ q os', w' = grow (W.drewN q) os' := fun W => same_calls (1, 0, 1) (1, 0, 0) W
  have k2 : ∀ W, Calls Try.prog 49 #[.agg #[.int .i64 1, .int .i64 0, .int .i64 1, .slice none 0 0], .agg #[.int .i64 1, .int .i64 0, .int .i64 1, .slice none 0 0]] W fun e w' => e = .returned (.bool true) ∧ ∃ q os', w' = grow (W.drewN q) os' := fun W => same_calls (1, 0, 1) (1, 0, 1) W
  have HF := Lib.hid hfacts
  have mixed := laysSortF.mixed
  have hp0 : IntKind.i64.wrap 0 = 0 := by decide
  have hp1 : IntKind.i64.wrap 1 = 1 := by decide
  clear hfacts
  have q := fun n os => HF.out _ (holdsV_below hH hg (hgr n os).below)
  have HH := Lib.hid hH
  clear hH
  go_enter Try.func48, Try.ntmps48
  go_wp2_with fail
  refine wp_loop_rounds 2 ?_
  rw [rounds_succ]
  go_upto_region 6 with fail
  go_quiet_grown (first | (go_at_fn 49; refine Calls.grown_of (k1 _)))
  obtain ⟨W1, hW1⟩ : ∃ W1, W1 = grow (w.drewN nq) osq := ⟨_, rfl⟩
  have hg1 : Grows w W1 := ⟨nq, osq, hW1⟩
  rw [← hW1]
  have HH1 := Lib.hid (holdsV_below HH.out hg hg1.below)
  have hgW : g < W1.heap.size := Nat.lt_of_lt_of_le hg hg1.below.size
  have HG1 := Lib.hid hg1
  clear hW1 q hgr hg1
  go_wp2_with fail
  rw [rounds_succ]
  have hgr : ∀ n os, Grows W1 (grow (W1.drewN n) os) := fun n os => ⟨n, os, rfl⟩
  have q := fun n os => HF.out _ (holdsV_below HH1.out hgW (hgr n os).below)
  go_upto_region 6 with fail
  go_quiet_grown (first | (go_at_fn 49; refine Calls.grown_of (k2 _)))
  obtain ⟨W2, hW2⟩ : ∃ W2, W2 = grow (W1.drewN nq) osq := ⟨_, rfl⟩
  have hg2 : Grows W1 W2 := ⟨nq, osq, hW2⟩
  rw [← hW2]
  have HH2 := Lib.hid (holdsV_below HH1.out hgW hg2.below)
  have HG2 := Lib.hid (HG1.out.trans hg2)
  clear hW2 q hgr hg2
  go_wp2_with fail
  refine wp_loop_rounds 1 ?_
  rw [rounds_succ]
  obtain ⟨e0, e1, e2, e3, ef⟩ := holdsV_at HH2.out 2 (by simp)
  have hcc : ∀ j, j < 4 → (W2.cell? ⟨g, 8 + j, none⟩).isSome = true := fun j hj => by
    match j, hj with
    | 0, _ => exact (congrArg Option.isSome e0).trans rfl
    | 1, _ => exact (congrArg Option.isSome e1).trans rfl
    | 2, _ => exact (congrArg Option.isSome e2).trans rfl
    | 3, _ => exact (congrArg Option.isSome e3).trans rfl
  obtain ⟨W3, hW3⟩ : ∃ W3, Hid (W3 = (((W2.setCell ⟨g, 8, none⟩ (.int .i64 0)).setCell ⟨g, 8 + 1, none⟩ (.int .i64 0)).setCell ⟨g, 8 + 2, none⟩ (.int .i64 0)).setCell ⟨g, 8 + 3, none⟩ (.slice none 0 0)) := ⟨_, Lib.hid rfl⟩
  have hcl : ∀ ty, (Builtin.clear_ #[24] ty #[.slice (some ⟨g, 8, none⟩) 1 (cap - 2)]).run Try.prog W2 = .ok (.tuple #[]) W3 := fun ty => by
    rw [hW3.out]
    exact run_clear_form W2 g 8 (cap - 2) ty hcc ef
  clear e0 e1 e2 e3 ef hcc
  have hcm2 : cap - 2 ≤ 9223372036854775807 := by unfold maxLen at hcm; omega
  go_wp2_with fail
  go_ret
  have hg3 : W2.grownBy W3 (some g) := by
    rw [hW3.out]
    exact grownBy_trans (grownBy_trans (grownBy_trans (grownBy_set1 _ _ _ _) (grownBy_set1 _ _ _ _)) (grownBy_set1 _ _ _ _)) (grownBy_set1 _ _ _ _)
  refine ⟨rfl, grownBy_trans (HG2.out.grownBy _) hg3, holdsV_of fun i hi k hk => ?_⟩
  have hi2 : i < 2 := by simpa using hi
  have hold : W3.cell? ⟨g, i * 4 + k, none⟩ = W2.cell? ⟨g, i * 4 + k, none⟩ ∧ W3.frozen? ⟨g, i * 4 + k, none⟩ = W2.frozen? ⟨g, i * 4 + k, none⟩ := by
    have h1 : i * 4 + k < 8 := by omega
    rw [hW3.out]
    refine ⟨?_, by simp only [World.frozen?_setCell]⟩
    have hne : ∀ m, 8 ≤ m → (⟨g, m, none⟩ : Addr) ≠ ⟨g, i * 4 + k, none⟩ := fun m hm e => by
      have := congrArg Addr.off e
      simp at this
      omega
    rw [World.cell?_setCell_other (h := hne (8 + 3) (by omega)), World.cell?_setCell_other (h := hne (8 + 2) (by omega)), World.cell?_setCell_other (h := hne (8 + 1) (by omega)), World.cell?_setCell_other (h := hne 8 (by omega))]
  rw [hold.1, hold.2]
  have hh := HH2.out (i * 4 + k) (by rw [size_flatK]; simp; omega)
  rw [get_flatK _ _ _ _ (by simp; omega), show (i * 4 + k) / 4 = i by omega, show (i * 4 + k) % 4 = k by omega, Nat.zero_add] at hh
  refine ⟨hh.1.trans ?_, hh.2⟩
  match i, hi2 with
  | 0, _ => rfl
  | 1, _ => rfl
end Go.Proofs.Ytmdanfeilgeoaaa
