/- slices.SortFunc and slices.ContainsFunc of formulas of any depth. -/
import Derived.Test.YtmdanfeilgeoaaaKTwin
import Derived.Test.YtmdanfeilgeoaaaKOrd2
import Derived.Test.YtmdanfeilgeoaaaKLay
import Derived.Test.YtmdanfeilgeoaaaKMoreLaw
import Derived.Shelf.SlSortCmp.QuietGrown
namespace Gim
open Go Go.RowKit Go.Sort Go.Proofs Go.Lib
/-- block g holds these formulas' cells -/
def Rw (t : TypeId) (w : World) (g cap : Nat) (cs : List N4) : Prop :=
  ∃ cur, w.heap[g]? = some (.cells cur t (0, 0)) ∧ cs.length ≤ cap ∧ cap ≤ maxLen ∧ cur.size = cap * 4 ∧ ∀ i c m u, cs[i]? = some c → m < 4 → (cell4 c)[m]? = some u → cur[i * 4 + m]? = some u
theorem Rw.lt {t : TypeId} {w : World} {g cap : Nat} {cs : List N4} (h : Rw t w g cap cs) : g < w.heap.size := by
  obtain ⟨cur, h1, _⟩ := h
  exact (Array.getElem?_eq_some_iff.1 h1).1
theorem Rw.below {t : TypeId} {w w' : World} {g cap : Nat} {cs : List N4} (h : Rw t w g cap cs) (hb : Below w.heap.size w w') : Rw t w' g cap cs := by
  have hl := h.lt
  obtain ⟨cur, h1, h2⟩ := h
  exact ⟨cur, (hb.block g hl).trans h1, h2⟩
theorem Rw.cell {t : TypeId} {w : World} {g cap : Nat} {cs : List N4} (h : Rw t w g cap cs) {i : Nat} {c : N4} {m : Nat} {u : Value} (hi : cs[i]? = some c) (hm : m < 4) (hu : (cell4 c)[m]? = some u) : w.cell? ⟨g, i * 4 + m, none⟩ = some u := by
  obtain ⟨cur, h1, _, _, _, h2⟩ := h
  simp only [World.cell?, h1]
  exact h2 i c m u hi hm hu
theorem Rw.frozen {t : TypeId} {w : World} {g cap : Nat} {cs : List N4} (h : Rw t w g cap cs) (o : Nat) : w.frozen? ⟨g, o, none⟩ = false := by
  obtain ⟨cur, h1, _⟩ := h
  simp [World.frozen?, h1]
theorem Rw.four {t : TypeId} {w : World} {g cap : Nat} {cs : List N4} (h : Rw t w g cap cs) {i : Nat} {c : N4} (hi : cs[i]? = some c) :
    w.cell? ⟨g, i * 4, none⟩ = some (.int .i64 c.1) ∧ w.cell? ⟨g, i * 4 + 1, none⟩ = some (.int .i64 c.2.1) ∧ w.cell? ⟨g, i * 4 + 2, none⟩ = some (.int .i64 c.2.2.1) ∧ w.cell? ⟨g, i * 4 + 3, none⟩ = some (.slice c.2.2.2.1 c.2.2.2.2.1 c.2.2.2.2.2) :=
  ⟨h.cell (m := 0) hi (by omega) rfl, h.cell (m := 1) hi (by omega) rfl, h.cell (m := 2) hi (by omega) rfl, h.cell (m := 3) hi (by omega) rfl⟩
/-- an element of a row that is sorted: its cells, its formula -/
structure El (N : Nat) (w : World) (g : Nat) where
  c : N4
  f : Fm
  ok : Tw N w (some g) c f
instance (N : Nat) (w : World) (g : Nat) : Inhabited (El N w g) := ⟨⟨(0, 0, 0, (none, 0, 0)), .mk 0 0 0 [], ⟨[], N, 0, rfl, Nat.le_refl _, ⟨Nat.zero_le _, fun _ _ => ⟨rfl, Nat.le_refl _, Nat.zero_le _, fun _ hj => absurd hj (Nat.not_lt_zero _)⟩⟩, fun _ _ => .inr (Nat.zero_le _)⟩⟩⟩
def encE {N : Nat} {w : World} {g : Nat} (e : El N w g) : List Value := cell4 e.c
def ordE {N : Nat} {w : World} {g : Nat} (x y : El N w g) : Int := ordF x.f y.f
theorem ordE_swo {N : Nat} {w : World} {g : Nat} : SWO (ltOf (ordE (N := N) (w := w) (g := g))) where
  irrefl x := ordF_swo.irrefl x.f
  trans x y z h1 h2 := ordF_swo.trans x.f y.f z.f h1 h2
  ntrans x y z h1 h2 := ordF_swo.ntrans x.f y.f z.f h1 h2
theorem cell4_one (c : N4) : ∀ v ∈ cell4 c, v.oneCell' = true := by
  intro v hv
  simp only [cell4, List.mem_cons, List.not_mem_nil, or_false] at hv
  rcases hv with rfl | rfl | rfl | rfl <;> rfl
/-- a formula whose cells are kept by whatever leaves its blocks alone -/
theorem Tw.at_ {N : Nat} {w W : World} {g : Nat} {c : N4} {f : Fm} (h : Tw N w (some g) c f) (hb : w.grownBy W (some g)) : ∃ bs, f = .mk c.1 c.2.1 c.2.2.1 bs ∧ FitS W bs c.2.2.2.1 c.2.2.2.2.1 c.2.2.2.2.2 := by
  obtain ⟨gs, lo, hi, e, _, hF, hg⟩ := h
  exact ⟨gs, e, hF.fit W (Keeps.of_grown hb hF.top hg)⟩
theorem Tw.grown {N : Nat} {w W : World} {g : Nat} {c : N4} {f : Fm} (h : Tw N w (some g) c f) (hb : w.grownBy W (some g)) : Tw N W (some g) c f := by
  obtain ⟨gs, lo, hi, e, hN, hF, hg⟩ := h
  exact ⟨gs, lo, hi, e, hN, hF.keeps (Keeps.of_grown hb hF.top hg), hg⟩
/-- the list of the elements -/
theorem els_of {N : Nat} {w : World} {g : Nat} : ∀ (cs : List N4) (fs : List Fm), TwL N w (some g) cs fs → ∃ es : List (El N w g), es.map El.c = cs ∧ es.map El.f = fs
  | [], fs, h => by
    have := h.len
    have : fs = [] := List.eq_nil_of_length_eq_zero (by rw [← this]; rfl)
    subst this
    exact ⟨[], rfl, rfl⟩
  | c :: cs, [], h => by have := h.len; simp at this
  | c :: cs, f :: fs, h => by
    obtain ⟨es, h1, h2⟩ := els_of cs fs ⟨by have := h.len; simpa using this, fun i c f h1 h2 => h.each (i + 1) c f h1 h2⟩
    exact ⟨⟨c, f, h.each 0 c f rfl rfl⟩ :: es, by simp [h1], by simp [h2]⟩
theorem TwL.of_els {N : Nat} {w W : World} {g : Nat} (es : List (El N w g)) (hb : w.grownBy W (some g)) : TwL N W (some g) (es.map El.c) (es.map El.f) :=
  ⟨by simp, fun i c f h1 h2 => by
    rw [List.getElem?_map] at h1 h2
    rcases he : es[i]? with _ | e
    · rw [he] at h1; cases h1
    · rw [he] at h1 h2
      simp only [Option.map_some, Option.some.injEq] at h1 h2
      rw [← h1, ← h2]
      exact e.ok.grown hb⟩
theorem sortWorldK_grownBy2 {α : Type} [Inhabited α] (enc : α → List Value) (k : Nat) (w : World) (blk off n : Nat) (d : Array α) (os : Array Obj) : w.grownBy (sortWorldK enc k w blk off n d os) (some blk) := by
  refine ⟨rfl, rfl, rfl, ?_, fun j hj hne => ?_⟩
  · simp only [sortWorldK, grow, putRowK, putRow, mapBlock, Sort.ahead, Array.size_append, Array.size_modify]
    omega
  · have hne' : blk ≠ j := fun e => hne (by rw [e])
    have hs : j < (putRowK enc k (Sort.ahead w n) blk off d).heap.size := by simpa [putRowK, putRow, mapBlock, Sort.ahead] using hj
    simp only [sortWorldK, grow]
    rw [Array.getElem?_append_left hs]
    simp only [putRowK, putRow, mapBlock, Sort.ahead, Array.getElem?_modify]
    rw [if_neg hne']
theorem rw_sorted {N : Nat} {t : TypeId} {w w0 : World} {g cap : Nat} {cs : List N4} (h : Rw t w g cap cs) (d : Array (El N w0 g)) (hd : d.size = cs.length) (n : Nat) (os : Array Obj) : Rw t (sortWorldK encE 4 w g 0 n d os) g cap (d.toList.map El.c) := by
  obtain ⟨cur, h1, h2, h3, h4, h5⟩ := h
  have hl := (Array.getElem?_eq_some_iff.1 h1).1
  have hs : g < (putRowK encE 4 (Sort.ahead w n) g 0 d).heap.size := by simpa [putRowK, putRow, mapBlock, Sort.ahead] using hl
  refine ⟨putCells id 0 (flatK encE 4 d) cur, ?_, by simpa [hd] using h2, h3, by simpa [putCells] using h4, fun i c m u hi hm hu => ?_⟩
  · simp only [sortWorldK, grow]
    rw [Array.getElem?_append_left hs]
    simp only [putRowK, putRow, mapBlock, Sort.ahead, Array.getElem?_modify, if_true, h1]
    rfl
  · rw [List.getElem?_map] at hi
    rcases he : d.toList[i]? with _ | e
    · rw [he] at hi; cases hi
    · rw [he] at hi
      simp only [Option.map_some, Option.some.injEq] at hi
      have hid : i < d.size := by have := (List.getElem?_eq_some_iff.1 he).1; simpa using this
      have hde : d[i]! = e := by
        rw [getElem!_pos d i hid]
        have := (List.getElem?_eq_some_iff.1 he).2
        simpa using this
      have hc : i * 4 + m < cur.size := by omega
      simp only [putCells, Array.getElem?_mapIdx, Array.getElem?_eq_getElem hc, Option.map_some]
      rw [if_pos ⟨Nat.zero_le _, by rw [size_flatK]; omega⟩, Nat.sub_zero, id, get_flatK _ _ _ _ (by omega), show (i * 4 + m) / 4 = i by omega, show (i * 4 + m) % 4 = m by omega, hde]
      have : (encE e)[m]? = some u := by unfold encE; rw [hi]; exact hu
      rw [List.getElem!_eq_getElem?_getD, this]
      rfl
theorem holds_of_rw {N : Nat} {t : TypeId} {w w0 : World} {g cap : Nat} {cs : List N4} (h : Rw t w g cap cs) (es : List (El N w0 g)) (he : es.map El.c = cs) : HoldsK encE 4 w g 0 es.toArray := by
  intro j hj
  rw [size_flatK] at hj
  have hi : j / 4 < es.length := by simp at hj; omega
  have hc : cs[j / 4]? = some (es[j / 4]'hi).c := by rw [← he, List.getElem?_map, List.getElem?_eq_getElem hi]; rfl
  have hd : es.toArray[j / 4]! = es[j / 4]'hi := by
    rw [getElem!_pos _ _ (by simpa using hi)]
    simp
  rw [get_flatK _ _ _ _ hj, Nat.zero_add, hd]
  refine ⟨?_, h.frozen _⟩
  have hm : j % 4 < (cell4 (es[j / 4]'hi).c).length := by simp [cell4]; omega
  have h2 := h.cell (m := j % 4) hc (by omega) (List.getElem?_eq_getElem hm)
  rw [show j / 4 * 4 + j % 4 = j by omega] at h2
  rw [h2, List.getElem!_eq_getElem?_getD]
  unfold encE
  rw [List.getElem?_eq_getElem hm]
  rfl
end Gim
namespace Go.Proofs.Ytmdanfeilgeoaaa
open Go.RowKit Gim Go.Sort Go.Lib
theorem rw_of_row4 {w : World} {B n cap : Nat} {g : Nat} {cs : List N4} (h : Row4 w B (.slice (some ⟨g, 0, none⟩) n cap) cs) : n = cs.length ∧ B ≤ g ∧ Rw 26 w g cap cs := by
  rcases h.2 with ⟨h1, _⟩ | ⟨g', cap', cur, h1, h2, h3, h4, h5, h6, h7⟩
  · cases h1
  · simp only [Value.slice.injEq, Option.some.injEq, Addr.mk.injEq, and_true] at h1
    obtain ⟨rfl, rfl, rfl⟩ := h1
    refine ⟨rfl, h2, cur, h3, h4, h5, h6, fun i c m u hi hm hu => ?_⟩
    have k := (cells4_get hi m hm).trans hu
    rw [← h7, List.getElem?_take] at k
    split at k
    · simpa using k
    · cases k
theorem row4_of_rw {w : World} {B cap : Nat} {g : Nat} {cs : List N4} (hB : B ≤ g) (h : Rw 26 w g cap cs) : Row4 w B (.slice (some ⟨g, 0, none⟩) cs.length cap) cs := by
  obtain ⟨cur, h1, h2, h3, h4, h5⟩ := h
  refine ⟨cells4_length cs, .inr ⟨g, cap, cur, rfl, hB, h1, h2, h3, h4, ?_⟩⟩
  apply List.ext_getElem?
  intro j
  rw [List.getElem?_take]
  split
  · rename_i hj
    have hi : j / 4 < cs.length := by omega
    have hc := List.getElem?_eq_getElem hi
    have hm : j % 4 < (cell4 (cs[j / 4]'hi)).length := by simp [cell4]; omega
    have k1 := h5 (j / 4) _ (j % 4) _ hc (by omega) (List.getElem?_eq_getElem hm)
    have k2 := cells4_get hc (j % 4) (by omega)
    rw [show j / 4 * 4 + j % 4 = j by omega] at k1 k2
    rw [k2, List.getElem?_eq_getElem hm]
    simpa using k1
  · rename_i hj
    rw [List.getElem?_eq_none (by rw [cells4_length]; omega)]
theorem sortE_calls (N g cap : Nat) (cs : List N4) (fs : List Fm) (w : World) (hr : Rw 26 w g cap cs) (ht : TwL N w (some g) cs fs) (hs : cs.length < 4611686018427387904) :
    Calls Try.prog 47 #[.slice (some ⟨g, 0, none⟩) cs.length cap, .func (.func 46) #[] #[]] w fun e w' =>
      ∃ cs' fs', e = .returned (.tuple #[]) ∧ cs'.length = cs.length ∧ w.grownBy w' (some g) ∧ Rw 26 w' g cap cs' ∧ TwL N w' (some g) cs' fs' ∧ fs'.Perm fs ∧ fs'.Pairwise fun x y => ordF x y ≤ 0 := by
  obtain ⟨es, rfl, rfl⟩ := els_of cs fs ht
  have hcmp : CmpLays Try.prog 46 #[] (encE (N := N) (w := w) (g := g)) 4 ordE g 0 es.toArray.size w := by
    intro m os dk _ x y
    have hb : w.grownBy (sortWorldK encE 4 w g 0 m dk os) (some g) := sortWorldK_grownBy2 _ _ _ _ _ _ _ _
    obtain ⟨bs1, e1, F1⟩ := x.ok.at_ hb
    obtain ⟨bs2, e2, F2⟩ := y.ok.at_ hb
    have hC := ord_calls x.c.1 x.c.2.1 x.c.2.2.1 bs1 _ _ _ y.c.1 y.c.2.1 y.c.2.2.1 bs2 _ _ _ _ F1 F2
    rw [← e1, ← e2] at hC
    exact hC
  have hcon := AnyQ.slices_SortFunc laysSortF 4 Try.isAgg26 Try.sizeOf26 (encE (N := N) (w := w) (g := g)) (fun _ => rfl) (fun x => cell4_one x.c) ordE ordE_swo 46 #[] g 0 cap es.toArray w
    (enters_of Try.func46 (by kernel_rfl) rfl) hcmp (holds_of_rw hr es rfl) hr.lt (by simpa using hs)
  simp only [List.size_toArray] at hcon
  simp only [List.length_map]
  refine Calls.mono hcon ?_
  rintro e w' ⟨rfl, d', n, os, hp, hso, rfl⟩
  have hb : w.grownBy (sortWorldK encE 4 w g 0 n d' os) (some g) := sortWorldK_grownBy2 _ _ _ _ _ _ _ _
  have hsz : d'.size = es.length := by simpa using hp.1
  have hperm : d'.toList.Perm es := by
    have h2 := hp.2.2
    have e1 : d'.extract 0 es.length = d' := by rw [← hsz]; exact Array.extract_size
    have e2 : es.toArray.extract 0 es.length = es.toArray := by
      simp
    rw [e1, e2] at h2
    exact h2
  refine ⟨d'.toList.map El.c, d'.toList.map El.f, rfl, by simpa using hsz, hb, rw_sorted hr d' (by simpa using hsz) n os, TwL.of_els _ hb, hperm.map _, ?_⟩
  rw [List.pairwise_iff_getElem]
  intro i j hi hj hij
  simp only [List.length_map, Array.length_toList] at hi hj
  have h3 := hso i j (Nat.zero_le _) hij (by omega)
  rw [getElem!_pos d' i hi, getElem!_pos d' j hj] at h3
  have h4 : ¬ ordF d'[j].f d'[i].f < 0 := of_decide_eq_false h3
  have h5 := ordF_neg d'[i].f d'[j].f
  simp only [List.getElem_map, Array.getElem_toList]
  omega
theorem isAll2_calls (B : Nat) (op v x : Int) (bs : List Fm) (a : Option Addr) (n c : Nat) (t : Int) (w : World) (hB : w.heap[B]? = some (.cells #[.int .i64 0, .int .i64 t, .int .i64 0, .slice none 0 0] 26)) (hF : FitS w bs a n c) :
    Calls Try.prog 51 #[.agg #[.int .i64 op, .int .i64 v, .int .i64 x, .slice a n c], .pointer (some ⟨B, 0, none⟩)] w fun e w' => e = .returned (.bool (decide (ordF (.mk op v x bs) (cst t) = 0))) ∧ Grows w w' := by
  have hlt := (Array.getElem?_eq_some_iff.1 hB).1
  have hg1 : Grows w (w.alloc (.cells #[.int .i64 op, .int .i64 v, .int .i64 x, .slice a n c] 26)) := (Grows.refl w).alloc _
  have hc2 := (heap_alloc_old w (.cells #[.int .i64 op, .int .i64 v, .int .i64 x, .slice a n c] 26) hlt).trans hB
  have hC := ord_calls op v x bs a n c 0 t 0 [] none 0 0 _ (hF.below hg1.below) ⟨rfl, Nat.le_refl _, Nat.zero_le _, fun j hj => absurd hj (Nat.not_lt_zero _)⟩
  obtain ⟨r, hr⟩ : ∃ r, ordF (.mk op v x bs) (cst t) = r := ⟨_, rfl⟩
  have hr2 : ordF (.mk op v x bs) (.mk 0 t 0 []) = r := hr
  rw [hr2] at hC
  rw [hr]
  clear hr hr2
  obtain ⟨W1, hW1⟩ : ∃ W1, w.alloc (.cells #[.int .i64 op, .int .i64 v, .int .i64 x, .slice a n c] 26) = W1 := ⟨_, rfl⟩
  have c0 : W1.cell? ⟨B, 0, none⟩ = some (.int .i64 0) := by rw [← hW1]; simp only [World.cell?, hc2]; rfl
  have c1 : W1.cell? ⟨B, 1, none⟩ = some (.int .i64 t) := by rw [← hW1]; simp only [World.cell?, hc2]; rfl
  have c2 : W1.cell? ⟨B, 2, none⟩ = some (.int .i64 0) := by rw [← hW1]; simp only [World.cell?, hc2]; rfl
  have c3 : W1.cell? ⟨B, 3, none⟩ = some (.slice none 0 0) := by rw [← hW1]; simp only [World.cell?, hc2]; rfl
  have x0 := heap_alloc_new w (.cells #[.int .i64 op, .int .i64 v, .int .i64 x, .slice a n c] 26)
  rw [hW1] at hC hg1 x0
  have y0 : W1.cell? ⟨w.heap.size, 0, none⟩ = some (.int .i64 op) := by simp [World.cell?, x0]
  have y1 : W1.cell? ⟨w.heap.size, 1, none⟩ = some (.int .i64 v) := by simp [World.cell?, x0]
  have y2 : W1.cell? ⟨w.heap.size, 2, none⟩ = some (.int .i64 x) := by simp [World.cell?, x0]
  have y3 : W1.cell? ⟨w.heap.size, 3, none⟩ = some (.slice a n c) := by simp [World.cell?, x0]
  have HG1 := Lib.hid hg1
  clear hc2 hF hB x0 hg1
  go_enter Try.func51, Try.ntmps51
  go_upto_region 1 with fail
  try rw [hW1]
  clear hW1
  obtain ⟨R, hR⟩ : ∃ R, w.heap.size = R := ⟨_, rfl⟩
  rw [hR] at y0 y1 y2 y3 ⊢
  clear hR
  go_wp2_with fail
  refine hC.mono ?_
  rintro e w1 ⟨rfl, hg⟩
  have HG := Lib.hid (HG1.out.trans hg)
  clear hg hC
  go_wp2_with fail
  go_ret
  exact ⟨by simp [Bool.beq_eq_decide_eq], HG.out⟩
theorem same2_calls (op v x : Int) (bs : List Fm) (a : Option Addr) (n c : Nat) (op2 v2 x2 : Int) (bs2 : List Fm) (a2 : Option Addr) (n2 c2 : Nat) (w : World) (hF : FitS w bs a n c) (hF2 : FitS w bs2 a2 n2 c2) :
    Calls Try.prog 49 #[.agg #[.int .i64 op, .int .i64 v, .int .i64 x, .slice a n c], .agg #[.int .i64 op2, .int .i64 v2, .int .i64 x2, .slice a2 n2 c2]] w fun e w' => e = .returned (.bool (decide (ordF (.mk op v x bs) (.mk op2 v2 x2 bs2) = 0))) ∧ Grows w w' := by
  have hg1 : Grows w ((w.alloc (.cells #[.int .i64 op, .int .i64 v, .int .i64 x, .slice a n c] 26)).alloc (.cells #[.int .i64 op2, .int .i64 v2, .int .i64 x2, .slice a2 n2 c2] 26)) := ((Grows.refl w).alloc _).alloc _
  have hC := ord_calls op v x bs a n c op2 v2 x2 bs2 a2 n2 c2 _ (hF.below hg1.below) (hF2.below hg1.below)
  obtain ⟨r, hr⟩ : ∃ r, ordF (.mk op v x bs) (.mk op2 v2 x2 bs2) = r := ⟨_, rfl⟩
  rw [hr] at hC ⊢
  clear hr hF hF2
  have HG1 := Lib.hid hg1
  clear hg1
  go_enter Try.func49, Try.ntmps49
  go_wp2_with fail
  refine hC.mono ?_
  rintro e w1 ⟨rfl, hg⟩
  have HG := Lib.hid (HG1.out.trans hg)
  clear hg hC
  go_wp2_with fail
  go_ret
  exact ⟨by simp [Bool.beq_eq_decide_eq], HG.out⟩
theorem containsE_calls (N g cap B : Nat) (t : Int) (cs : List N4) (fs : List Fm) (w : World) (hr : Rw 26 w g cap cs) (ht : TwL N w (some g) cs fs) (hB : w.heap[B]? = some (.cells #[.int .i64 0, .int .i64 t, .int .i64 0, .slice none 0 0] 26)) :
    Calls Try.prog 50 #[.slice (some ⟨g, 0, none⟩) cs.length cap, .func (.func 51) #[] #[.pointer (some ⟨B, 0, none⟩)]] w fun e w' => e = .returned (.bool (fs.any fun p => decide (ordF p (cst t) = 0))) ∧ Below w.heap.size w w' := by
  obtain ⟨es, rfl, rfl⟩ := els_of cs fs ht
  have hcap : es.length ≤ cap ∧ cap ≤ maxLen := by
    obtain ⟨cur, _, h2, h3, _⟩ := hr
    exact ⟨by simpa using h2, h3⟩
  have hP : PredBelow Try.prog 51 #[.pointer (some ⟨B, 0, none⟩)] (fun x : El N w g => .agg (encE x).toArray) (fun x => decide (ordF x.f (cst t) = 0)) w := fun W x hb => by
    obtain ⟨bs, lo, hi, e, _, hF, _⟩ := x.ok
    have hF2 := hF.fit W (Keeps.of_below hb hF.top)
    have hC := isAll2_calls B x.c.1 x.c.2.1 x.c.2.2.1 bs _ _ _ t W ((hb.block B (Array.getElem?_eq_some_iff.1 hB).1).trans hB) hF2
    rw [← e] at hC
    exact hC.mono fun _ _ ⟨he, hg⟩ => ⟨he, hb.trans (hg.below.mono hb.size)⟩
  have hK := AnyQ.slices_ContainsFunc laysContF 4 Try.isAgg26 Try.sizeOf26 (encE (N := N) (w := w) (g := g)) (fun _ => rfl) (fun x => decide (ordF x.f (cst t) = 0)) 51 #[.pointer (some ⟨B, 0, none⟩)] (enters_of Try.func51 (by kernel_rfl) rfl) g 0 es.length cap es w hP (Nat.le_refl _) (by unfold maxLen at hcap; omega) hr.lt
    (fun j hj i v hi => by
      have hc : (es.map El.c)[j]? = some es[j].c := by rw [List.getElem?_map, List.getElem?_eq_getElem hj]; rfl
      rw [getElem!_pos es j hj] at hi
      have hi4 : i < 4 := by
        have := (List.getElem?_eq_some_iff.1 hi).1
        simpa [encE, cell4] using this
      rw [Nat.zero_add]
      exact hr.cell hc hi4 hi)
  rw [List.take_length] at hK
  simp only [List.length_map, List.any_map]
  exact hK
theorem contains_none (fv : Value) (w : World) :
    Calls Try.prog 50 #[.slice none 0 0, fv] w fun e w' => e = .returned (.bool false) ∧ w' = w := by
  have hI : Calls Try.prog 62 #[.slice none 0 0, fv] w fun e w' => e = .returned (.int .i64 (-1)) ∧ w' = w := by
    go_enter Try.func62, Try.ntmps62
    go_wp2_with fail
    refine wp_loop_rounds 1 ?_
    rw [rounds_succ]
    go_wp2_with fail
    go_ret
    exact ⟨rfl, rfl⟩
  go_enter Try.func50, Try.ntmps50
  go_wp2_with fail
  refine hI.mono ?_
  rintro e w1 ⟨rfl, rfl⟩
  go_wp2_with fail
  go_ret
  exact ⟨rfl, rfl⟩
theorem sort_none (fv : Value) (w : World) :
    Calls Try.prog 47 #[.slice none 0 0, fv] w fun e w' => e = .returned (.tuple #[]) ∧ w' = w :=
  AnyF.slices_SortFunc_none laysSortF none 0 fv w
end Go.Proofs.Ytmdanfeilgeoaaa
