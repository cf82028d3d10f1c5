/- slices.CompactFunc of formulas of any depth: the walk. -/
import Derived.Test.YtmdanfeilgeoaaaKCompact
namespace Gim
open Go Go.RowKit Go.Sort Go.Proofs Go.Lib
theorem Grows.grown {a b : World} (h : Grows a b) (g : Option Nat) : a.grownBy b g := ⟨h.below.os, h.below.tape, h.below.output, h.below.size, fun j hj _ => h.below.block j hj⟩
theorem setCells_row {t : TypeId} {g : Nat} : ∀ (zs : List Value) (o : Nat) (w : World) (cur : Array Value), w.heap[g]? = some (.cells cur t (0, 0)) → (∃ cur' : Array Value, (w.setCells g o zs).heap[g]? = some (.cells cur' t (0, 0)) ∧ cur'.size = cur.size ∧ ∀ i, i < o → cur'[i]? = cur[i]?) ∧ w.grownBy (w.setCells g o zs) (some g)
  | [], o, w, cur, h => ⟨⟨cur, h, rfl, fun _ _ => rfl⟩, ⟨rfl, rfl, rfl, Nat.le_refl _, fun _ _ _ => rfl⟩⟩
  | v :: r, o, w, cur, h => by
    obtain ⟨⟨cur', k1, k2, k3⟩, k4⟩ := setCells_row r (o + 1) (w.setCell ⟨g, o, none⟩ v) _ (Go.Joins.block_setCell h (i := o) v)
    refine ⟨⟨cur', k1, by simpa using k2, fun i hi => ?_⟩, World.grownBy.trans (grownBy_setAt _ _ _ _) k4⟩
    rw [k3 i (by omega), Array.getElem?_setIfInBounds, if_neg (by omega)]
theorem Rw.cleared {t : TypeId} {w : World} {g cap : Nat} {xs : List N4} (h : Rw t w g cap xs) (K : Nat) (zs : List Value) : Rw t (w.setCells g (K * 4) zs) g cap (xs.take K) := by
  obtain ⟨cur, h1, h2, h3, h4, h5⟩ := h
  obtain ⟨⟨cur', k1, k2, k3⟩, _⟩ := setCells_row zs (K * 4) w cur h1
  refine ⟨cur', k1, by rw [List.length_take]; omega, h3, by rw [k2, h4], fun i c m u hi hm hu => ?_⟩
  rw [List.getElem?_take] at hi
  split at hi
  · rw [k3 _ (by omega)]
    exact h5 i c m u hi hm hu
  · cases hi
theorem Rw.some_cell {t : TypeId} {w : World} {g cap : Nat} {xs : List N4} (h : Rw t w g cap xs) (j : Nat) (hj : j < xs.length * 4) : (w.cell? ⟨g, j, none⟩).isSome = true := by
  obtain ⟨cur, h1, h2, h3, h4, h5⟩ := h
  simp only [World.cell?, h1]
  rw [Array.getElem?_eq_getElem (by omega)]
  rfl
theorem take_set_next {α : Type} {xs : List α} {K : Nat} {c : α} (h : K < xs.length) : (xs.set K c).take (K + 1) = xs.take K ++ [c] := by
  rw [List.take_add_one, List.getElem?_set_self h, List.take_set, List.set_eq_of_length_le (by rw [List.length_take]; omega)]
  rfl
def d0 : N4 := (0, 0, 0, (none, 0, 0))
theorem range_getD {α : Type} (l : List α) (d : α) : (List.range l.length).map (fun i => l.getD i d) = l := by
  apply List.ext_getElem
  · simp
  · intro i h1 h2
    simp [h2]
theorem take_all_sel {cs : List N4} {fs : List Fm} (hl : cs.length = fs.length) (h : ∀ i, i < cs.length → keepB fs i = true) : (sel fs cs.length).map (fun i => cs.getD i d0) = cs ∧ (sel fs cs.length).map (fun i => fs.getD i (cst 0)) = fs := by
  rw [sel_all fs _ h]
  exact ⟨range_getD cs d0, by rw [hl]; exact range_getD fs (cst 0)⟩
/-- the kept ones, with their formulas -/
theorem TwL.sel {N : Nat} {w W : World} {g : Nat} {cs : List N4} {fs : List Fm} (h : TwL N w (some g) cs fs) (hb : w.grownBy W (some g)) (t : Nat) (ht : t ≤ cs.length) : TwL N W (some g) ((Gim.sel fs t).map fun i => cs.getD i d0) ((Gim.sel fs t).map fun i => fs.getD i (cst 0)) :=
  ⟨by simp, fun i c f h1 h2 => by
    rw [List.getElem?_map] at h1 h2
    rcases he : (Gim.sel fs t)[i]? with _ | e
    · rw [he] at h1; cases h1
    · rw [he] at h1 h2
      simp only [Option.map_some, Option.some.injEq] at h1 h2
      have hm := List.mem_of_getElem? he
      have het : e < t := List.mem_range.1 (List.mem_filter.1 hm).1
      have e1 : cs[e]? = some c := by
        rw [List.getElem?_eq_getElem (by omega), ← h1, List.getD_eq_getElem?_getD, List.getElem?_eq_getElem (by omega)]
        rfl
      have hl := h.len
      have e2 : fs[e]? = some f := by
        rw [List.getElem?_eq_getElem (by omega), ← h2, List.getD_eq_getElem?_getD, List.getElem?_eq_getElem (by omega)]
        rfl
      exact (h.each e c f e1 e2).grown hb⟩
end Gim
namespace Gim
open Go Go.RowKit Go.Sort Go.Proofs Go.Lib
theorem range_take {α : Type} (l : List α) (d : α) (p : Nat) (hp : p ≤ l.length) : (List.range p).map (fun i => l.getD i d) = l.take p := by
  apply List.ext_getElem
  · simp [hp]
  · intro i h1 h2
    simp at h1 h2
    rw [List.getElem_take, List.getElem_map, List.getElem_range, List.getD_eq_getElem?_getD, List.getElem?_eq_getElem (by omega)]
    rfl
theorem Rw.four_at {t : TypeId} {w : World} {g cap : Nat} {xs : List N4} (h : Rw t w g cap xs) {p j : Nat} {c : N4} (hi : xs[p + j]? = some c) :
    w.cell? ⟨g, p * 4 + j * 4, none⟩ = some (.int .i64 c.1) ∧ w.cell? ⟨g, p * 4 + j * 4 + 1, none⟩ = some (.int .i64 c.2.1) ∧ w.cell? ⟨g, p * 4 + j * 4 + 2, none⟩ = some (.int .i64 c.2.2.1) ∧ w.cell? ⟨g, p * 4 + j * 4 + 3, none⟩ = some (.slice c.2.2.2.1 c.2.2.2.2.1 c.2.2.2.2.2) := by
  have := h.four hi
  rw [Nat.add_mul] at this
  exact this
end Gim
namespace Go.Proofs.Ytmdanfeilgeoaaa
open Go.RowKit Gim Go.Sort Go.Lib
set_option maxRecDepth 100000 in
set_option maxHeartbeats 8000000 in
theorem compactE_calls (N g cap : Nat) (cs : List N4) (fs : List Fm) (w : World) (hr : Rw 26 w g cap cs) (ht : TwL N w (some g) cs fs) (hs : fs.Pairwise fun x y => ordF x y ≤ 0) :
    Calls Try.prog 48 #[.slice (some ⟨g, 0, none⟩) cs.length cap, .func (.func 49) #[] #[]] w fun e w' =>
      ∃ cs' fs', e = .returned (.slice (some ⟨g, 0, none⟩) cs'.length cap) ∧ w.grownBy w' (some g) ∧ Rw 26 w' g cap cs' ∧ TwL N w' (some g) cs' fs' ∧ Up fs' ∧ ∀ f, f ∈ fs' ↔ f ∈ fs := by
  have hcap : cs.length ≤ cap ∧ cap ≤ maxLen := by
    obtain ⟨cur, _, h2, h3, _⟩ := hr
    exact ⟨h2, h3⟩
  have hg := hr.lt
  have hlen := ht.len
  have hSU := sel_up hs cs.length (by omega)
  have hfin : (∀ f, f ∈ fs.take cs.length ↔ f ∈ fs) := fun f => by rw [hlen, List.take_length]
  have eg : ∀ args w, (callFunc 49 args).run Try.prog w = .ok (.enter 49 args) w := enters_of Try.func49 (by kernel_rfl) rfl
  have mixed := laysSortF.mixed
  have HSU := Lib.hid hSU
  have HFIN := Lib.hid hfin
  have HTA := Lib.hid (take_all_sel (cs := cs) (fs := fs) hlen)
  have HR := Lib.hid hr
  have HT := Lib.hid ht
  have HLEN := Lib.hid hlen
  obtain ⟨n, hn⟩ : ∃ n, Hid (cs.length = n) := ⟨_, Lib.hid rfl⟩
  obtain ⟨hc1, hc2⟩ := hcap
  have hnb : n ≤ 9223372036854775807 := by unfold maxLen at hc2; have := hn.out; omega
  have hcb : cap ≤ 9223372036854775807 := by unfold maxLen at hc2; omega
  have hnc : n ≤ cap := by have := hn.out; omega
  rw [show cs.length = n from hn.out]
  clear hr ht hlen hSU hfin hs hc1 hc2
  by_cases hn2 : n < 2
  · have hn2' : (n : Int) < 2 := by omega
    go_enter Try.func48, Try.ntmps48
    go_wp2_with fail
    go_ret
    have h1 := HTA.out (fun i hi => by
      have : i = 0 := by have := hn.out; omega
      subst this
      rfl)
    have h2 := HSU.out.1
    have h3 := HSU.out.2.1
    rw [h1.2] at h2 h3
    exact ⟨cs, fs, by rw [hn.out]; rfl, ⟨rfl, rfl, rfl, Nat.le_refl _, fun _ _ _ => rfl⟩, HR.out, HT.out, h2, fun f => (h3 f).trans (HFIN.out f)⟩
  have hn2' : ¬ (n : Int) < 2 := by omega
  go_enter Try.func48, Try.ntmps48
  go_wp2_with fail
  go_loopw [5] (fun kk wr => ∃ p : Nat, kk = .int .i64 (p : Int) ∧ 1 ≤ p ∧ p ≤ n ∧ Grows w wr ∧ Hid (∀ i, i < p → keepB fs i = true)) (fun kk _ => n - (RowKit.intOf kk).toNat)
  case atStart =>
    refine ⟨1, rfl, Nat.le_refl _, by omega, Grows.refl _, Lib.hid fun i hi => ?_⟩
    obtain rfl : i = 0 := by omega
    rfl
  case round =>
    obtain ⟨p, rfl, hp1, hpn, hgr, HM⟩ := hrel
    by_cases hqn : p < n
    · have hqn' : (p : Int) < n := by omega
      obtain ⟨q, hq⟩ : ∃ q, Hid (p = q + 1) := ⟨p - 1, Lib.hid (by omega)⟩
      have hqn2 : (q : Int) < n := by have := hq.out; omega
      have hq1 : p < cs.length := by have := hn.out; omega
      have hq0 : q < cs.length := by have := hq.out; omega
      have hi1 : cs[p]? = some cs[p] := List.getElem?_eq_getElem _
      have hi0 : cs[q]? = some cs[q] := List.getElem?_eq_getElem _
      have hf1 : fs[p]? = some (fs[p]'(by have := HLEN.out; omega)) := List.getElem?_eq_getElem _
      have hf0 : fs[q]? = some (fs[q]'(by have := HLEN.out; omega)) := List.getElem?_eq_getElem _
      obtain ⟨c1, hc1⟩ : ∃ c, cs[p] = c := ⟨_, rfl⟩
      obtain ⟨c0, hc0⟩ : ∃ c, cs[q] = c := ⟨_, rfl⟩
      rw [hc1] at hi1
      rw [hc0] at hi0
      have hkb : keepB fs p = !decide (ordF (fs[p]'(by have := HLEN.out; omega)) (fs[q]'(by have := HLEN.out; omega)) = 0) := by
        have h1 : fs[q + 1]? = some (fs[p]'(by have := HLEN.out; omega)) := by rw [← hq.out]; exact hf1
        have := keepB_of h1 hf0
        rw [← hq.out] at this
        exact this
      have hGR := fun n os => hgr.trans (⟨n, os, rfl⟩ : Grows wr (grow (wr.drewN n) os))
      have k1 := fun n os => same_at HT.out (Grows.grown (hGR n os) (some g)) hi1 hi0 hf1 hf0
      have q1 := fun n os => (HR.out.below (hGR n os).below).four hi1
      have q0 := fun n os => (HR.out.below (hGR n os).below).four hi0
      obtain ⟨b, hb⟩ : ∃ b, decide (ordF (fs[p]'(by have := HLEN.out; omega)) (fs[q]'(by have := HLEN.out; omega)) = 0) = b := ⟨_, rfl⟩
      rw [hb] at hkb k1
      have HKB := Lib.hid hkb
      obtain ⟨x1, x2, x3, xa, xn, xc⟩ := c1
      obtain ⟨y1, y2, y3, ya, yn, yc⟩ := c0
      dsimp only at k1 q1 q0
      have HI1 := Lib.hid hi1
      clear hb hkb hi1 hi0 hf1 hf0 hc1 hc0 hq1 hq0
      have hw1 : wrap64 ((p : Int) - 1) = q := by have := hq.out; unfold wrap64; omega
      have hw2 : IntKind.i64.wrap ((p : Int) - 1) = q := by have := hq.out; simp [IntKind.wrap, IntKind.bits, IntKind.signed]; omega
      go_upto_region 6 with fail
      go_quiet_grown (first | (go_at_fn 49; refine Calls.grown_of (k1 _ _)))
      obtain ⟨W1, hW1⟩ : ∃ W1, W1 = grow (wr.drewN nq) osq := ⟨_, rfl⟩
      have hg1 : Grows w W1 := by rw [hW1]; exact hGR nq osq
      rw [← hW1]
      have HG1 := Lib.hid hg1
      clear hW1 q1 q0 k1 hGR hg1 hgr
      cases b
      · go_wp2_with fail
        go_roundw
        case rel =>
          refine ⟨p + 1, by go_num, by omega, by omega, HG1.out, Lib.hid fun i hi => ?_⟩
          by_cases hip : i < p
          · exact HM.out i hip
          · obtain rfl : i = p := by omega
            exact HKB.out
        case measure => simp [RowKit.intOf]; omega
      · have hRW1 := HR.out.below HG1.out.below
        have hGB1 := Grows.grown HG1.out (some g)
        have HSP := Lib.hid (show sel fs (p + 1) = List.range p by rw [sel_next, HKB.out, sel_all fs p HM.out]; simp)
        have HRW1 := Lib.hid hRW1
        have HGB1 := Lib.hid hGB1
        obtain ⟨r, hr⟩ : ∃ r, Hid (r = n - p) := ⟨_, Lib.hid rfl⟩
        have hsl : n - p = r := hr.out.symm
        obtain ⟨r2, hr2⟩ : ∃ r, Hid (r = cap - p) := ⟨_, Lib.hid rfl⟩
        have hsl2 : cap - p = r2 := hr2.out.symm
        have hpc : p ≤ cap := by omega
        clear hRW1 hGB1
        clear hw1 hw2
        go_upto_region 8 with fail
        go_wp2_with fail
        go_loopw [5, 7] (fun kk jj wi => ∃ (K j : Nat) (xs : List N4), kk = .int .i64 (K : Int) ∧ jj = .int .i64 (j : Int) ∧ 1 ≤ j ∧ j ≤ r ∧ K + 1 ≤ p + j ∧ Hid (xs.length = n ∧ Rw 26 wi g cap xs ∧ w.grownBy wi (some g) ∧ (sel fs (p + j)).map (fun i => cs.getD i d0) = xs.take K ∧ ∀ i, p + j ≤ i + 1 → xs[i]? = cs[i]?)) (fun _ jj _ => r - (RowKit.intOf jj).toNat)
        case atStart =>
          refine ⟨p, 1, cs, rfl, rfl, Nat.le_refl _, by omega, Nat.le_refl _, Lib.hid ⟨hn.out, HRW1.out, HGB1.out, ?_, fun _ _ => rfl⟩⟩
          rw [HSP.out]
          exact range_take cs d0 p (by have := hn.out; omega)
        case round =>
          obtain ⟨K, j, xs, rfl, rfl, hj1, hjr, hK, HX⟩ := hrel
          by_cases hjr2 : j < r
          · have hjr' : (j : Int) < r := by omega
            obtain ⟨m, hm⟩ : ∃ m, Hid (j = m + 1) := ⟨j - 1, Lib.hid (by omega)⟩
            have hmr' : (m : Int) < r := by have := hm.out; omega
            have hpj : p + j < cs.length := by have := hn.out; omega
            have hpm : p + m < cs.length := by have := hm.out; omega
            have hKn : K < n := by omega
            have hKn' : (K : Int) < n := by omega
            obtain ⟨hx1, hx2, hx3, hx4, hx5⟩ := HX.out
            have hi1 : cs[p + j]? = some cs[p + j] := List.getElem?_eq_getElem _
            have hi0 : cs[p + m]? = some cs[p + m] := List.getElem?_eq_getElem _
            have hf1 : fs[p + j]? = some (fs[p + j]'(by have := HLEN.out; omega)) := List.getElem?_eq_getElem _
            have hf0 : fs[p + m]? = some (fs[p + m]'(by have := HLEN.out; omega)) := List.getElem?_eq_getElem _
            obtain ⟨c1, hc1⟩ : ∃ c, cs[p + j] = c := ⟨_, rfl⟩
            obtain ⟨c0, hc0⟩ : ∃ c, cs[p + m] = c := ⟨_, rfl⟩
            rw [hc1] at hi1
            rw [hc0] at hi0
            have hkb : keepB fs (p + j) = !decide (ordF (fs[p + j]'(by have := HLEN.out; omega)) (fs[p + m]'(by have := HLEN.out; omega)) = 0) := by
              have e : p + j = p + m + 1 := by have := hm.out; omega
              have h1 : fs[p + m + 1]? = some (fs[p + j]'(by have := HLEN.out; omega)) := by rw [← e]; exact hf1
              have := keepB_of h1 hf0
              rw [← e] at this
              exact this
            have hGR : ∀ n os, Grows wr (grow (wr.drewN n) os) := fun n os => ⟨n, os, rfl⟩
            have hGG := fun n os => World.grownBy.trans hx3 (Grows.grown (hGR n os) (some g))
            have k1 := fun n os => same_at HT.out (hGG n os) hi1 hi0 hf1 hf0
            have y1' := (hx5 (p + j) (by omega)).trans hi1
            have y0' := (hx5 (p + m) (by have := hm.out; omega)).trans hi0
            have q1 := fun n os => (hx2.below (hGR n os).below).four_at y1'
            have q0 := fun n os => (hx2.below (hGR n os).below).four_at y0'
            obtain ⟨b, hb⟩ : ∃ b, decide (ordF (fs[p + j]'(by have := HLEN.out; omega)) (fs[p + m]'(by have := HLEN.out; omega)) = 0) = b := ⟨_, rfl⟩
            rw [hb] at hkb k1
            have HKB2 := Lib.hid hkb
            obtain ⟨z1, z2, z3, za, zn, zc⟩ := c1
            obtain ⟨v1, v2, v3, va, vn, vc⟩ := c0
            dsimp only at k1 q1 q0
            have HI2 := Lib.hid hi1
            clear hb hkb hi1 hi0 hf1 hf0 hc1 hc0 hpj hpm y1' y0' hx1 hx2 hx3 hx4 hx5
            have hw3 : IntKind.i64.wrap ((j : Int) - 1) = m := by have := hm.out; simp [IntKind.wrap, IntKind.bits, IntKind.signed]; omega
            go_upto_region 11 with fail
            go_quiet_grown (first | (go_at_fn 49; refine Calls.grown_of (k1 _ _)))
            obtain ⟨W2, hW2⟩ : ∃ W2, W2 = grow (wr.drewN nq) osq := ⟨_, rfl⟩
            have hg2 : Grows wr W2 := by rw [hW2]; exact hGR nq osq
            rw [← hW2]
            obtain ⟨hx1, hx2, hx3, hx4, hx5⟩ := HX.out
            have hy2 := hx2.below hg2.below
            have hy3 := World.grownBy.trans hx3 (Grows.grown hg2 (some g))
            have HY := Lib.hid (And.intro hx1 (And.intro hy2 (And.intro hy3 (And.intro hx4 hx5))))
            clear hW2 q1 q0 k1 hGR hGG hg2 hx2 hx3 hx4 hy3 hw3
            cases b
            · have hxk : xs[K]? = some xs[K] := List.getElem?_eq_getElem (by omega)
              obtain ⟨cK, hcK⟩ : ∃ c, xs[K] = c := ⟨_, rfl⟩
              rw [hcK] at hxk
              obtain ⟨e0, e1, e2, e3⟩ := hy2.four hxk
              have f0 := hy2.frozen (K * 4)
              have f1 := hy2.frozen (K * 4 + 1)
              have f2 := hy2.frozen (K * 4 + 2)
              have f3 := hy2.frozen (K * 4 + 3)
              obtain ⟨o0, o1, o2, o3⟩ := hy2.four_at ((hx5 (p + j) (by omega)).trans HI2.out)
              dsimp only at o0 o1 o2 o3
              have HS4 := Lib.hid (hy2.set4 (i := K) (by omega) (z1, z2, z3, za, zn, zc))
              clear hy2 hx1 hx5 hxk hcK
              go_upto_region 13 with fail
              obtain ⟨W3, hW3⟩ : ∃ W3, Hid (W3 = (((W2.setCell ⟨g, K * 4, none⟩ (.int .i64 z1)).setCell ⟨g, K * 4 + 1, none⟩ (.int .i64 z2)).setCell ⟨g, K * 4 + 2, none⟩ (.int .i64 z3)).setCell ⟨g, K * 4 + 3, none⟩ (.slice za zn zc)) := ⟨_, Lib.hid rfl⟩
              rw [← hW3.out]
              clear e0 e1 e2 e3 f0 f1 f2 f3 o0 o1 o2 o3
              go_wp2_with fail
              go_roundw
              case rel =>
                obtain ⟨hx1, hx2, hx3, hx4, hx5⟩ := HY.out
                refine ⟨K + 1, j + 1, xs.set K (z1, z2, z3, za, zn, zc), by go_num, by go_num, by omega, by omega, by omega, Lib.hid ⟨by rw [List.length_set]; exact hx1, ?_, ?_, ?_, fun i hi => ?_⟩⟩
                · rw [hW3.out]
                  exact HS4.out
                · rw [hW3.out]
                  exact World.grownBy.trans hx3 (set4_grownBy _ _ _ _ _ _ _)
                · rw [take_set_next (by omega), ← hx4, ← Nat.add_assoc, sel_next, HKB2.out]
                  simp only [Bool.not_false, if_true, List.map_append, List.map_cons, List.map_nil]
                  rw [List.getD_eq_getElem?_getD, HI2.out]
                  rfl
                · rw [List.getElem?_set_ne (by omega)]
                  exact hx5 i (by omega)
              case measure => simp [RowKit.intOf]; omega
            · clear hy2 hx1 hx5
              go_wp2_with fail
              go_roundw
              case rel =>
                obtain ⟨hx1, hx2, hx3, hx4, hx5⟩ := HY.out
                refine ⟨K, j + 1, xs, by go_num, by go_num, by omega, by omega, by omega, Lib.hid ⟨hx1, hx2, hx3, ?_, fun i hi => hx5 i (by omega)⟩⟩
                rw [← hx4, ← Nat.add_assoc, sel_next, HKB2.out]
                simp
              case measure => simp [RowKit.intOf]; omega
          · obtain rfl : j = r := by omega
            have hpr : p + j = n := by omega
            have hKn : K < n := by omega
            obtain ⟨hx1, hx2, hx3, hx4, hx5⟩ := HX.out
            rw [hpr] at hx4
            obtain ⟨s1, hs1⟩ : ∃ s, n - K = s := ⟨_, rfl⟩
            obtain ⟨s2, hs2⟩ : ∃ s, cap - K = s := ⟨_, rfl⟩
            have hs2b : s2 ≤ 9223372036854775807 := by omega
            have hKc : K ≤ cap := by omega
            have hKn2 : K ≤ n := by omega
            have hcc : ∀ o, o < s1 * 4 → (wr.cell? ⟨g, K * 4 + o, none⟩).isSome = true := fun o ho => hx2.some_cell (K * 4 + o) (by rw [hx1]; omega)
            have hff : ∀ o, o < s1 * 4 → wr.frozen? ⟨g, K * 4 + o, none⟩ = false := fun o _ => hx2.frozen _
            have hclr := fun ty => run_clear_forms wr g (K * 4) s1 s2 ty (by omega) hcc hff
            obtain ⟨zs, hzs⟩ : ∃ zs, (Builtin.zeroCells (Value.agg #[.int .i64 0, .int .i64 0, .int .i64 0, .slice none 0 0]).cells s1).toList = zs := ⟨_, rfl⟩
            rw [hzs] at hclr
            obtain ⟨W3, hW3⟩ : ∃ W3, Hid (W3 = wr.setCells g (K * 4) zs) := ⟨_, Lib.hid rfl⟩
            rw [← hW3.out] at hclr
            have HRW3 := Lib.hid (show Rw 26 W3 g cap (xs.take K) by rw [hW3.out]; exact hx2.cleared K zs)
            have HG3 := Lib.hid (show w.grownBy W3 (some g) by
              rw [hW3.out]
              obtain ⟨cur, hb, _⟩ := hx2
              exact World.grownBy.trans hx3 (setCells_row zs (K * 4) wr cur hb).2)
            have HX1 := Lib.hid hx1
            have HX4 := Lib.hid hx4
            clear hx1 hx2 hx3 hx4 hx5 hcc hff hzs hsl hsl2
            go_wp2_with fail
            go_ret
            have hu := HSU.out.1
            have hm := HSU.out.2.1
            have hTS := TwL.sel HT.out HG3.out cs.length (Nat.le_refl _)
            rw [hn.out] at hu hm hTS
            rw [HX4.out] at hTS
            refine ⟨xs.take K, _, ?_, HG3.out, HRW3.out, hTS, hu, fun f => (hm f).trans ?_⟩
            · rw [List.length_take, HX1.out, Nat.min_eq_left hKn2]; rfl
            · rw [← hn.out]
              exact HFIN.out f
    · obtain rfl : p = n := by omega
      have h1 := HTA.out (fun i hi => HM.out i (by have := hn.out; omega))
      have h2 := HSU.out.1
      have h3 := HSU.out.2.1
      rw [h1.2] at h2 h3
      have HU := Lib.hid h2
      have HME := Lib.hid h3
      have HGR := Lib.hid hgr
      clear h1 h2 h3 hgr
      go_wp2_with fail
      go_ret
      exact ⟨cs, fs, by rw [hn.out]; rfl, Grows.grown HGR.out _, HR.out.below HGR.out.below, ⟨HLEN.out, fun i c f a b => (HT.out.each i c f a b).grown (Grows.grown HGR.out _)⟩, HU.out, fun f => (HME.out f).trans (HFIN.out f)⟩
end Go.Proofs.Ytmdanfeilgeoaaa
