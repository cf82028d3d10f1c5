/- HopesRefuses: append(append([]api.Event{}, taken...), e): laws of the two appends. -/
import Derived.Test.YtkhejkfjhddobaaGreatDoorRightWalkM
import Derived.Test.YtkhejkfjhddobaaGreatDoorHoOpens3M
import Derived.Test.YtkhejkfjhddobaaGreatDoorExprNetM
import Derived.Test.YtkhejkfjhddobaaGreatDoorLightM
import Derived.Test.YtkhejkfjhddobaaGreatDoorHoAwk
set_option maxRecDepth 100000
set_option maxHeartbeats 16000000
set_option linter.unusedSimpArgs false
namespace Gim
open Go Go.RowKit
theorem yJx {P : Program} (w : World) {ops : Array Oper} {o : Oper} {a : Act} {K : Act → World → Prop} {Q : Exit → Act → World → Prop} {E : Prop} (hgd : o.guard = none) (s x : Operand) (ts t : TypeId)
  (ho : o.op = .call { callee := .builtin .append, args := #[s, x], argTypes := #[ts, ts] }) (z : Value) (k bytes : Nat)
  (hinf : (P.info? t).map (fun i => (i.zero, i.size, i.bytes)) = some (some z, k, bytes)) (hu : P.underlying ts = some (.slice t)) (hz : z.cells.size = k) (hk : 0 < k) (hby : bytes ≤ 120)
  (B g n cap : Nat) (l : List Value) (hs : a.eval s = .slice (some ⟨g, 0, none⟩) n cap) (hrow : w.ownsRow B t k (.slice (some ⟨g, 0, none⟩) n cap) n l) (xa : Option Addr) (m c : Nat) (news : List Value) (hl : news.length = m * k) (h1 : ∀ u ∈ news, u.oneCell' = true)
  (hx : a.eval x = .slice xa m c) (hnews : (xa = none ∧ m = 0 ∧ c = 0) ∨ ∃ b, xa = some ⟨b, 0, none⟩ ∧ ∀ j u, news[j]? = some u → w.cell? ⟨b, j, none⟩ = some u) (n' : Nat) (l' : List Value) (hn' : n + m = n') (hl' : l ++ news = l') (hlen : n' < 1099511627776) (hB : B ≤ w.heap.size)
  (hK : ∀ g' cap' w', w'.ownsRow B t k (.slice (some ⟨g', 0, none⟩) n' cap') n' l' → w.grownBy w' (some g) → K (a.put o.dst (.slice (some ⟨g', 0, none⟩) n' cap')) w') :
  if Region.wanted o (yielded ops a.tmps) = true then Oper.wp P o a w K Q else E := by
 subst hn' hl'; have hw : Region.wanted o (yielded ops a.tmps) = true := by simp [Region.wanted, hgd]
 rw [if_pos hw]; obtain ⟨i0, hi, hz0, hz1, hz2⟩ := info_parts hinf; rcases hnews with ⟨rfl, rfl, rfl⟩ | ⟨b, rfl, hc⟩
 ·have hn : news = [] := List.eq_nil_of_length_eq_zero (by simpa using hl); subst hn; unfold Oper.wp execOp; simp only [ho, resolve, invoke, builtin, Sem.run_bind, Sem.run_pure, Result.andThen_ok, List.map_toArray, List.map_cons, List.map_nil, hs, hx]; have hle : n ≤ cap := by
   rcases hrow.2 with ⟨h, _⟩ | ⟨g2, c2, cur, e, _, _, h, _⟩
   ·cases h
   ·injection e with _ _ e; omega
  have hr : (Builtin.append_ #[ts, ts] o.type #[.slice (some ⟨g, 0, none⟩) n cap, .slice none 0 0]).run P w = .ok (.slice (some ⟨g, 0, none⟩) n cap) w := by simp [Builtin.append_, run_underlying hu, Go.sizeOf, typeInfo, hi, Builtin.lenOf, Builtin.firstCells, loadCells, storeCells, hle]
  rw [hr]; exact hK g cap w (by simpa using hrow) ⟨rfl, rfl, rfl, jr _, fun _ _ _ => rfl⟩
 ·obtain ⟨v', w', hrun, h2, h3, h4, h5⟩ := run_append_own_at (P := P) w B ts o.type t i0 z k bytes hu hi hz0 hz1 hz2 hz hk _ n l hrow ⟨b, 0, none⟩ m c news hl (fun j u h => by
   have := hc j u h; unfold Addr.add; split <;> simp_all) h1 (by unfold maxLen; omega) (by have : (n + m) * bytes ≤ 1099511627776 * 120 := Nat.mul_le_mul (by omega) hby; omega) hB
  unfold Oper.wp execOp; simp only [ho, resolve, invoke, builtin, Sem.run_bind, Sem.run_pure, Result.andThen_ok, List.map_toArray, List.map_cons, List.map_nil, hs, hx, hrun]; rcases h2.2 with ⟨h, _⟩ | ⟨g', cap', cur, rfl, _⟩
  ·rw [h4] at h; cases h.1
  ·exact hK g' cap' w' h2 h3
theorem yIq {w : World} {B g : Nat} {t : TypeId} {k : Nat} (hB : B ≤ g) (h : w.heap[g]? = some (.cells #[] t)) : w.ownsRow B t k (.slice (some ⟨g, 0, none⟩) 0 0) 0 [] :=
 ⟨by simp, .inr ⟨g, 0, #[], rfl, hB, h, jr _, jz _, by simp, by simp⟩⟩
theorem yJd {w W W2 : World} {g : Nat} (hb : Below w.heap.size w W) (hg : w.heap.size ≤ g) (h : W.grownBy W2 (some g)) : Below w.heap.size w W2 :=
 hb.trans ⟨h.os, h.tape, h.output, h.size, fun k hk => h.block k (jt hk hb.size) (by intro e; injection e with e; omega)⟩
theorem yIU {w : World} {c : List Value} {t : TypeId} : ∀ j u, c[j]? = some u → (w.alloc (.cells c.toArray t)).cell? ⟨w.heap.size, j, none⟩ = some u := fun j u h => by have : (w.alloc (.cells c.toArray t)).heap[w.heap.size]? = some (.cells c.toArray t) := jw _ _; unfold World.cell?; simp only; rw [this]; simpa using h
theorem yRv {w W W2 : World} {c : List Value} {t : TypeId} {o : Obj} {g : Nat} (h : W.grownBy W2 (some g)) (hh : W.heap = ((w.alloc (.cells c.toArray t)).alloc o).heap) (hg : g = w.heap.size + 1) : ∀ j u, c[j]? = some u → W2.cell? ⟨w.heap.size, j, none⟩ = some u := fun j u hj => by have h1 : W2.heap[w.heap.size]? = (w.alloc (.cells c.toArray t)).heap[w.heap.size]? := (h.block w.heap.size (by rw [hh]; simp; omega) (by intro e; injection e with e; omega)).trans (by rw [hh]; exact heap_alloc_old _ _ (by simp)); exact (World.cell?_of_block (a := ⟨w.heap.size, j, none⟩) h1).trans (yIU j u hj)
theorem yQu {w W W2 : World} {c : List Value} {t : TypeId} {o : Obj} {g : Nat} (h : W.grownBy W2 (some g)) (hh : W.heap = ((w.alloc o).alloc (.cells c.toArray t)).heap) (hg : g = w.heap.size) : ∀ j u, c[j]? = some u → W2.cell? ⟨w.heap.size + 1, j, none⟩ = some u := fun j u hj => by have h1 : W2.heap[(w.alloc o).heap.size]? = ((w.alloc o).alloc (.cells c.toArray t)).heap[(w.alloc o).heap.size]? := (h.block _ (by rw [hh]; simp) (by intro e; injection e with e; simp at e; omega)).trans (by rw [hh]); have := (World.cell?_of_block (a := ⟨(w.alloc o).heap.size, j, none⟩) h1).trans (yIU j u hj); rwa [World.size_alloc] at this
theorem yPT {w : World} {o1 o2 : Obj} : ((w.alloc o1).alloc o2).heap[w.heap.size + 1]? = some o2 := by have := jw (w.alloc o1) o2; rwa [World.size_alloc] at this
end Gim
namespace Go.Proofs.YtkhejkfjhddobaaGreatDoor
open Go.RowKit Gim
abbrev EV := EvD × (Option Addr × Nat × Nat)
def cE (x : EV) : List Value := [.int .i64 x.1.kd, .int .i64 x.1.num, .int .i64 x.1.dep, .string x.1.nm, .slice x.2.1 x.2.2.1 x.2.2.2, .string x.1.tx, .int .i64 x.1.fr, .int .i64 x.1.tu]
theorem yR4 (x : EV) : (cE x).length = 8 := rfl
theorem yRj (x : EV) : ∀ u ∈ cE x, u.oneCell' = true := by
 intro u hu; simp only [cE, List.mem_cons, List.not_mem_nil, or_false] at hu; rcases hu with rfl | rfl | rfl | rfl | rfl | rfl | rfl | rfl <;> rfl
theorem yR7 (l : List EV) : ∀ u ∈ l.flatMap cE, u.oneCell' = true := fun u hu => by obtain ⟨x, _, h⟩ := List.mem_flatMap.1 hu; exact yRj x u h
theorem ySv (l : List EV) : (l.flatMap cE).length = l.length * 8 := by
 induction l with
 | nil => rfl
 | cons x l ih => rw [List.flatMap_cons, jp, ih, yR4, List.length_cons]; omega
structure TkM (W W0 : World) (K : Nat → Prop) (l : List EV) (a : Option Addr) (cap : Nat) : Prop where
 le : l.length ≤ cap
 cap_le : cap ≤ maxLen
 fit : ∀ x ∈ l, yAO W0 x.1.ats x.2.1 x.2.2.1 x.2.2.2
 at_ : (a = none ∧ l = [] ∧ cap = 0) ∨ ∃ g, a = some ⟨g, 0, none⟩ ∧ K g ∧ g < W.heap.size ∧ ∀ j u, (l.flatMap cE)[j]? = some u → W.cell? ⟨g, j, none⟩ = some u
theorem TkM.two {W W0 : World} {K : Nat → Prop} {l : List EV} {a : Option Addr} {cap : Nat} (h : TkM W W0 K l a cap) : yDl W W0 (l.map (·.1)) a l.length cap := by
 refine ⟨by rw [List.length_map], h.le, h.cap_le, fun j hj => ?_⟩; rcases h.at_ with ⟨_, rfl, _⟩ | ⟨g, rfl, _, hg, hc⟩
 ·exact absurd hj (Nat.not_lt_zero _)
 ·refine ⟨g, 0, rfl, fun i x hx => ?_⟩; rw [List.getElem?_map] at hx; obtain ⟨y, hy, rfl⟩ := Option.map_eq_some_iff.1 hx; have c : ∀ k u, k < 8 → (cE y)[k]? = some u → W.cell? ⟨g, 0 + i * 8 + k, none⟩ = some u := fun k u hk hu => by rw [Nat.zero_add]; exact hc _ _ ((yBI cE 8 yR4 hy k hk).trans hu)
  exact ⟨hg, c 0 _ (by decide) rfl, c 1 _ (by decide) rfl, c 2 _ (by decide) rfl, c 3 _ (by decide) rfl, ⟨_, _, _, c 4 _ (by decide) rfl, h.fit y (List.mem_of_getElem? hy)⟩, c 5 _ (by decide) rfl, c 6 _ (by decide) rfl, c 7 _ (by decide) rfl⟩
theorem TkM.keep {W W' W0 : World} {K : Nat → Prop} {l : List EV} {a : Option Addr} {cap : Nat} (h : TkM W W0 K l a cap) (hs : ∀ b, K b → b < W'.heap.size) (hk : ∀ b, K b → b < W.heap.size → W'.heap[b]? = W.heap[b]?) : TkM W' W0 K l a cap := by refine ⟨h.le, h.cap_le, h.fit, h.at_.imp id ?_⟩; rintro ⟨g, e, k, hg, hc⟩; exact ⟨g, e, k, hs g k, fun j u hu => (World.cell?_of_block (a := ⟨g, j, none⟩) (hk g k hg)).trans (hc j u hu)⟩
theorem TkM.mono {W W0 : World} {K K' : Nat → Prop} {l : List EV} {a : Option Addr} {cap : Nat} (h : TkM W W0 K l a cap) (hk : ∀ b, K b → K' b) : TkM W W0 K' l a cap :=
 ⟨h.le, h.cap_le, h.fit, h.at_.imp id fun ⟨g, e, k, r⟩ => ⟨g, e, hk g k, r⟩⟩
theorem yQP {W W0 : World} {B T g n cap : Nat} {K : Nat → Prop} {l : List EV} (h : W.ownsRow B T 8 (.slice (some ⟨g, 0, none⟩) n cap) n (l.flatMap cE)) (hn : l.length = n) (hf : ∀ x ∈ l, yAO W0 x.1.ats x.2.1 x.2.2.1 x.2.2.2) (hk : K g) : TkM W W0 K l (some ⟨g, 0, none⟩) cap := by
 have hl := World.ownsRow.lt h g rfl; rcases h.2 with ⟨e, _⟩ | ⟨g', cap', cur, e, _, hg, h1, h2, _⟩
 ·cases e
 ·injection e with e1 e2 e3; refine ⟨by omega, by omega, hf, .inr ⟨g, rfl, hk, hl.2, fun j u hu => ?_⟩⟩; have := World.ownsRow.cells h (g := g) rfl j u hu; unfold Addr.add at this; split at this <;> simp_all
theorem yBn.lt {n0 : Nat} {w0 wK : World} {K : Nat → Prop} {wr : World} {H : Nat} {nd : yAc} {es : List EvD} {i : Nat} {s : CkS} {fs : List FrS} {ex : Option (List Int)} (h : yBn n0 w0 wK K wr H nd es i s fs ex) {b : Nat} (hb : K b) : b < wr.heap.size := by obtain ⟨_, _, hk⟩ := h.ho; exact (hk b hb).2.1
theorem yBn.ext {n0 : Nat} {w0 wK : World} {K : Nat → Prop} {wr : World} {H : Nat} {nd : yAc} {es es' : List EvD} {i : Nat} {s : CkS} {fs : List FrS} {ex : Option (List Int)} (h : yBn n0 w0 wK K wr H nd es i s fs ex) (he : es'.take i = es.take i) : yBn n0 w0 wK K wr H nd es' i s fs ex := by
 obtain ⟨hbg, hho, hlen, hhb, hlow, hrun, hexr⟩ := h; have e1 : yAg es' i = yAg es i := by rw [← yDS es' i i (jr _), he, yDS es i i (jr _)]
 have e2 : yEd es' i = yEd es i := by rw [← yFo es' i, he, yFo es i]
 refine ⟨by rw [he]; exact hbg, hho, hlen, hhb, hlow, ⟨by rw [e1]; exact hrun.ok, by rw [e1]; exact hrun.num, by rw [e1]; exact hrun.os, by rw [e1]; exact hrun.root, by rw [e1]; exact hrun.chs, by rw [e1]; exact hrun.frs⟩, ?_⟩; unfold ExR at hexr ⊢; rw [e1, e2]; exact hexr
theorem yBn.os_le {n0 : Nat} {w0 wK : World} {K : Nat → Prop} {wr : World} {H : Nat} {nd : yAc} {es : List EvD} {i : Nat} {s : CkS} {fs : List FrS} {ex : Option (List Int)} (h : yBn n0 w0 wK K wr H nd es i s fs ex) : s.os.length ≤ i := by have hsz1 : s.os.length ≤ 0 + (es.take i).length := (yFV _ _ _ h.beg).1; rw [List.length_take] at hsz1; omega
theorem yBn.entries {n0 : Nat} {w0 wK : World} {K : Nat → Prop} {wr : World} {H : Nat} {nd : yAc} {es : List EvD} {i : Nat} {s : CkS} {fs : List FrS} {ex : Option (List Int)} (h : yBn n0 w0 wK K wr H nd es i s fs ex) (hn : i ≤ 4000) (hr : nd.rows.length + nd.preds.length ≤ 1099511627776) :
  Calls Tryz.prog 16 #[.pointer (some ⟨H, 0, none⟩)] wr fun e w' => e = .returned (.int .i64 ((fs.length * (nd.rows.length + nd.preds.length) : Nat) : Int)) ∧ Below wr.heap.size wr w' ∧ yBn n0 w0 wK K w' H nd es i s fs ex := by have h' := h; have ho := h.os_le; obtain ⟨hbg, ⟨tg, hx, hkp⟩, hlen, hhb, hlow, hrun, hexr⟩ := h; obtain ⟨Kc, vF, vX, vK, ps, vO, h1, _⟩ := hx; refine (yJs wr h1 (by omega) hr).mono ?_; rintro e w' ⟨rfl, hb⟩; exact ⟨rfl, hb, h'.below hb⟩
theorem yQp {T : List EvD} {s : CkS} {e : EvD} (h : yA6 ck0 T = some s) : yIt (T ++ [e]) = yAI s e := by unfold yIt; rw [yEj, h]; show (if yAI s e then some (stp s e) else none).isSome = yAI s e; split <;> simp_all
theorem yPX {T : List EvD} {s : CkS} {e : EvD} (h : yA6 ck0 T = some s) (hn : yAI s e = true) : yA6 ck0 (T ++ [e]) = some (stp s e) := by rw [yEj, h]; show (if yAI s e then some (stp s e) else none) = some (stp s e); rw [if_pos hn]
theorem yBn.refuse {n0 : Nat} {w0 wK : World} {K : Nat → Prop} {wr : World} {H : Nat} {nd : yAc} {es : List EvD} {i : Nat} {s : CkS} {fs : List FrS} {ex : Option (List Int)} (h : yBn n0 w0 wK K wr H nd es i s fs ex) (hT : yBd w0) (h0 : w0.heap.size = n0) (hi : i ≤ 4000) {e : EvD} (hn : yAI s e = false) (hz : yEg e)
  (aa : Option Addr) (an ac : Nat) (hA : yAO w0 e.ats aa an ac) :
  Calls Tryz.prog 13 #[.pointer (some ⟨H, 0, none⟩), .agg #[.int .i64 e.kd, .int .i64 e.num, .int .i64 e.dep, .string e.nm, .slice aa an ac, .string e.tx, .int .i64 e.fr, .int .i64 e.tu]] wr fun r w' => r = .returned (.int .i64 6) ∧ yBn n0 w0 wK K w' H nd es i s fs ex := by
 have h' := h; have ho := h.os_le; have hlow' : Below w0.heap.size w0 wr := by rw [h0]; exact h.low
 obtain ⟨tg, hx, _⟩ := h.ho; refine (ySO wr hx (hT.below hlow') e hn hz (by omega) aa an ac (hA.below hlow')).mono ?_; rintro r w' ⟨rfl, hb⟩; exact ⟨rfl, h'.below hb⟩
theorem yFE {es : List EvD} {ea : Option Addr} {en ec : Nat} {sts : List Gim.St} {pa : Option Addr} {pn pc : Nat} (w : World) (hE : yC4 w es ea en ec) (hF : yAH w sts pa pn pc) (hT : yBd w) (hz : ∀ x ∈ es, yEg x) (hB : ∀ e ∈ es, e.tx.size ≤ 1048576) (hw : wTL sts ≤ 1048576) (hen : en ≤ 1099511627775) :
  Calls Tryz.prog 5 #[.slice ea en ec, .agg #[.slice pa pn pc]] w fun e w' => e = .returned (.bool true) ∧ Below w.heap.size w w' := by
 obtain ⟨W1, hW1⟩ := je (w.alloc (.cells #[.slice pa pn pc] 25)); have b1 : Below w.heap.size w W1 := by rw [← hW1]; exact (jf _ _).alloc (jr _) _
 have hX1 : W1.heap[w.heap.size]? = some (.cells #[.slice pa pn pc] 25) := by rw [← hW1]; exact jw _ _
 have hXs : w.heap.size < W1.heap.size := jl hX1; have y0 := jc hX1 0 rfl; have hT1 := hT.below b1; have hF1 := hF.below b1; have hE1 := hE.below b1; have HW1 := jh hW1; have HBW : Hid (∀ W', Below W1.heap.size W1 W' → Below w.heap.size w W') := jh fun W' h => b1.trans (h.mono b1.size)
 have HT1 := jh hT1; have HF1 := jh hF1; have HE1 := jh hE1; have HZ := jh hz; have HBX := jh hB; have HWS := jh hw; clear hW1 hT1 hF1 hE1 b1 hX1 hE hF hT hz hB; go_enter Tryz.func5, Tryz.ntmps5; go_upto_region 1 with fail; rw [HW1.out]; go_wp2_with fail; refine (yLh W1 HT1.out).mono ?_; rintro e w3 ⟨rfl, hb3⟩; have z1 := (hb3.cell (p := ⟨w.heap.size, 0, none⟩) hXs).trans y0; have HB4 := jh hb3; clear y0 hb3; by_cases h4 : en ≤ 40
 ·have f1 : (40 < en) = False := eq_false (by omega); have HLI := jh (yMp sts pa pn pc w3 (HF1.out.below HB4.out)); go_wp2_with fail; refine HLI.out.mono ?_; rintro e w5 ⟨⟨li, rfl⟩, hb5⟩; have z3 := (hb5.cell (p := ⟨w.heap.size, 0, none⟩) (jt hXs HB4.out.size)).trans z1; have HB5 := jh (HB4.out.trans (hb5.mono HB4.out.size)); clear z1 hb5 HLI; cases li with
  | false =>
   go_wp2_with fail; go_ret; exact ⟨rfl, HBW.out _ HB5.out⟩
  | true =>
   have HCK := jh (yDi sts pa pn pc w5 (HF1.out.below HB5.out) (by have := HWS.out; omega) (HT1.out.below HB5.out)); go_wp2_with fail; refine HCK.out.mono ?_; rintro e w6 ⟨rfl, hb6⟩; have z4 := (hb6.cell (p := ⟨w.heap.size, 0, none⟩) (jt hXs HB5.out.size)).trans z3; have HB6 := jh (HB5.out.trans (hb6.mono HB5.out.size)); clear z3 hb6 HCK; cases hOK : okP sts with
   | false =>
    go_wp2_with fail; go_ret; exact ⟨rfl, HBW.out _ HB6.out⟩
   | true =>
    have HOK := jh hOK; have hg : yBk sts = true := by have h := hOK; unfold okP gdP at h; simp only [jb] at h; exact h.1.2
    have hszp := ju (yQO sts) HWS.out; have hlim := yEP hszp (show wTL sts ≤ 1099511627775 by have := HWS.out; omega); have HNF : Hid (yAD (comp sts)) := jh (yRo hOK hlim); have hsum := hlim.sum; have HWX : Hid (∀ k, k < (comp sts).preds.length → wX (xN (comp sts) k) ≤ 1048576) := jh fun k hk => ju (ySF hg hk) HWS.out
    have HSTC := jh (yMm sts pa pn pc w6 (HF1.out.below HB6.out) (HT1.out.below HB6.out) hOK hszp (by have := HWS.out; omega)); clear hOK hg hszp hlim; go_wp2_with fail; refine HSTC.out.mono ?_; rintro e w7 ⟨W0, H, tg, ra, rc, pa', pc', la, lc, rfl, hb0, hFX, hok, hX, hlow⟩; obtain ⟨nr, hnr⟩ := je ((comp sts).rows.length); obtain ⟨np, hnp⟩ := je ((comp sts).preds.length); obtain ⟨mn, hmn⟩ := je ((comp sts).main : Int); rw [hnp] at hFX; rw [hnr, hnp, hmn]; obtain ⟨nd, hnd⟩ := je (comp sts); rw [hnd] at hnp hFX hok hX HNF HWX hsum; have hR0 := yBn.start [] HNF.out hX hlow; have HSUM := jh hsum; have HB0 := jh (HB6.out.trans (hb0.mono HB6.out.size)); have HXS := jh (yS2 hnp HWX.out); have HFX := jh hFX; have HOKN := jh hok; have HNP := jh hnp; obtain ⟨NB, hNB⟩ := je (w7.heap.size); obtain ⟨w8, hw8⟩ := je (w7.alloc (.cells #[.int .i64 mn, .slice ra nr rc, .slice pa' np pc'] 36)); have hX8 : w8.heap[NB]? = some (.cells #[.int .i64 mn, .slice ra nr rc, .slice pa' np pc'] 36) := by rw [← hw8, ← hNB]; exact jw _ _
    have hb8 : Below w7.heap.size w7 w8 := by rw [← hw8]; exact (jf _ _).alloc (jr _) _
    have hN8 : NB < w8.heap.size := jl hX8; have HR8 := jh (hR0.more hb8 (K' := fun b => b = NB) fun b hb => .inr ⟨by rw [hb, hNB]; exact jr _, by rw [hb]; exact hN8⟩); have HX8 := jh hX8; have HW8 := jh hw8; have hlen6 : es.length ≤ 40 := by rw [HE1.out.len]; exact h4
    have HLEN := jh hlen6; clear hX8 hw8 hb8 hR0 hX hlow hb0 hFX hok hnr hnp hmn hnd z4 hlen6 hsum; go_upto_region 6 with fail; rw [HW8.out]; clear hNB; go_wp2_with fail; go_loopw [9, 10] (fun v9 v10 wr => ∃ (i : Nat) (l : List EV) (a : Option Addr) (cap : Nat) (s : CkS) (fs : List FrS) (ex : Option (List Int)) (wK : World) (K : Nat → Prop), v10 = .int .i64 i ∧ i ≤ en ∧ v9 = .slice a l.length cap ∧ l.length ≤ i ∧ (∀ x ∈ l, yEg x.1 ∧ x.1.tx.size ≤ 1048576) ∧ TkM wr W0 K l a cap ∧ K NB ∧ wr.heap[NB]? = some (.cells #[.int .i64 mn, .slice ra nr rc, .slice pa' np pc'] 36) ∧ yBn W0.heap.size W0 wK K wr H nd (l.map (·.1)) l.length s fs ex) (fun _ v10 _ => en - (intOf v10).toNat)
    case atStart => exact ⟨0, [], none, 0, ck0, _, _, w8, (fun b => b = NB), rfl, jz _, rfl, jr _, (fun x hx => by cases hx), ⟨jr _, jz _, (fun x hx => by cases hx), .inl ⟨rfl, rfl, rfl⟩⟩, rfl, HX8.out, HR8.out⟩
    case round =>
     obtain ⟨i, l, a, cap, s, fs, ex, wK, K, rfl, hi, rfl, hli, hls, hTk, hKN, hXN, hR⟩ := hrel; by_cases hin : i < en
     ·have hin' : (i : Int) < en := by omega
      have hE7 := HE1.out.below HB0.out; obtain ⟨e, he⟩ : ∃ e, es[i]? = some e := ⟨_, jk (by rw [hE7.len]; exact hin)⟩
      obtain ⟨b, o, rfl, hfit⟩ := hE7.fit i hin; have hF := hfit i e he; have hz := HZ.out e (List.mem_of_getElem? he); have htx := HBX.out e (List.mem_of_getElem? he); obtain ⟨aa, an, ac, hc4, hA⟩ := hF.c4; have hli40 : l.length < 40 := by have := HLEN.out; rw [hE7.len] at this; omega
      have hlow := hR.low; have hlen2 : (l.map (·.1)).length = l.length := List.length_map ..; have hbg : yA6 ck0 (l.map (·.1)) = some s := by have := hR.beg; rwa [jm (by rw [hlen2]; exact jr _)] at this
      have HTA : Hid (∀ W, Below wr.heap.size wr W → (a = none ∧ l.length = 0 ∧ cap = 0) ∨ ∃ g, a = some ⟨g, 0, none⟩ ∧ ∀ j u, (l.flatMap cE)[j]? = some u → W.cell? ⟨g, j, none⟩ = some u) := jh fun W hW => by
       rcases hTk.at_ with ⟨h1, h2, h3⟩ | ⟨g, h1, _, h3, h4⟩
       ·exact .inl ⟨h1, by rw [h2]; rfl, h3⟩
       ·exact .inr ⟨g, h1, fun j u hu => (hW.cell (p := ⟨g, j, none⟩) h3).trans (h4 j u hu)⟩
      obtain ⟨x, hx⟩ : ∃ x : EV, x = (e, aa, an, ac) := ⟨_, rfl⟩
      have hx1 : x.1 = e := by rw [hx]
      have hxA : yAO W0 x.1.ats x.2.1 x.2.2.1 x.2.2.2 := by rw [hx]; exact hA
      have hCX : cE x = [.int .i64 e.kd, .int .i64 e.num, .int .i64 e.dep, .string e.nm, .slice aa an ac, .string e.tx, .int .i64 e.fr, .int .i64 e.tu] := by rw [hx]; rfl
      have hXA : #[.int .i64 e.kd, .int .i64 e.num, .int .i64 e.dep, .string e.nm, .slice aa an ac, .string e.tx, .int .i64 e.fr, .int .i64 e.tu] = (cE x).toArray := by rw [hCX]
      have hmap : (l ++ [x]).map (·.1) = l.map (·.1) ++ [e] := by rw [List.map_append, List.map_cons, hx1]; rfl
      have hll : (l ++ [x]).length = l.length + 1 := by rw [jp]; rfl
      obtain ⟨es', hes'⟩ := je ((l ++ [x]).map (·.1)); have hes2 : es' = l.map (·.1) ++ [e] := by rw [← hes', hmap]
      have hel' : es'.length = l.length + 1 := by rw [hes2, jp, hlen2]; rfl
      have hBEG : yIt es' = yAI s e := by rw [hes2]; exact yQp hbg
      have htk : es'.take l.length = (l.map (·.1)).take l.length := by rw [hes2, List.take_append_of_le_length (by rw [hlen2]; exact jr _)]
      have het : es'[l.length]? = some e := by rw [hes2, List.getElem?_append_right (by rw [hlen2]; exact jr _), hlen2, Nat.sub_self]; rfl
      have hallz : ∀ y ∈ es', yEg y := by
       rw [← hes']; intro y hy; obtain ⟨q, hq, rfl⟩ := List.mem_map.1 hy; rcases List.mem_append.1 hq with hq | hq
       ·exact (hls q hq).1
       ·rw [List.mem_singleton.1 hq, hx1]; exact hz
      have HALLZ := jh hallz; have HES := jh hes'; have HNXT := jh hBEG; have HTKE := jh htk; have HET := jh het; have HEL := jh hel'; have HLL := jh hll; have hls2 : ∀ q ∈ l ++ [x], yEg q.1 ∧ q.1.tx.size ≤ 1048576 := fun q hq => by
       rcases List.mem_append.1 hq with hq | hq
       ·exact hls q hq
       ·rw [List.mem_singleton.1 hq, hx1]; exact ⟨hz, htx⟩
      have HLS2 := jh hls2; have HFA : Hid (∀ q ∈ l ++ [x], yAO W0 q.1.ats q.2.1 q.2.2.1 q.2.2.2) := jh fun q hq => by
       rcases List.mem_append.1 hq with hq | hq
       ·exact hTk.fit q hq
       ·rw [List.mem_singleton.1 hq]; exact hxA
      have HSN : Hid (yAI s e = true → yA6 ck0 es' = some (stp s e)) := jh fun h => by rw [hes2]; exact yPX hbg h
      have HZE := jh hz; have HAE := jh hA; have HA6 : Hid (0 < an → ∀ b o, aa = some ⟨b, o, none⟩ → b < W0.heap.size) := jh fun h0 b2 o2 hb2 => by
       obtain ⟨b3, o3, e3, l3, _⟩ := hA.fit 0 h0; rw [hb2] at e3; injection e3 with e3
       injection e3 with e3 _; omega
      have HTK := jh hTk; have HKN := jh hKN; have HRR := jh hR; have HCX := jh hCX; have HXA := jh hXA; have HLS := jh hls; have HFLA : Hid (l.flatMap cE ++ cE x = (l ++ [x]).flatMap cE) := jh (by simp); obtain ⟨hbl, c0, c1, c2, c3, _, c5, c6, c7⟩ := hF; have hbs : b < wr.heap.size := jt hbl hlow.size; have HCL : Hid (∀ W, Below wr.heap.size wr W → W.cell? ⟨b, o + i * 8, none⟩ = some (.int .i64 e.kd) ∧ W.cell? ⟨b, o + i * 8 + 1, none⟩ = some (.int .i64 e.num) ∧ W.cell? ⟨b, o + i * 8 + 2, none⟩ = some (.int .i64 e.dep) ∧ W.cell? ⟨b, o + i * 8 + 3, none⟩ = some (.string e.nm) ∧ W.cell? ⟨b, o + i * 8 + 4, none⟩ = some (.slice aa an ac) ∧ W.cell? ⟨b, o + i * 8 + 5, none⟩ = some (.string e.tx) ∧ W.cell? ⟨b, o + i * 8 + 6, none⟩ = some (.int .i64 e.fr) ∧ W.cell? ⟨b, o + i * 8 + 7, none⟩ = some (.int .i64 e.tu)) := jh fun W h => by
       have hc : ∀ j, W.cell? ⟨b, j, none⟩ = W0.cell? ⟨b, j, none⟩ := fun j => (h.cell (p := ⟨b, j, none⟩) hbs).trans (hlow.cell (p := ⟨b, j, none⟩) hbl)
       exact ⟨(hc _).trans c0, (hc _).trans c1, (hc _).trans c2, (hc _).trans c3, (hc _).trans hc4, (hc _).trans c5, (hc _).trans c6, (hc _).trans c7⟩
      obtain ⟨y0, y1, y2, y3, y4, y5, y6, y7⟩ := HCL.out wr (jf _ _); have f9 : IntKind.i64.wrap ((i : Int) + 1) = (i : Int) + 1 := IntWalk.i64_in _ (by have := hE7.le; have := hE7.cap_le; unfold maxLen at this; omega); have HL40 : Hid (l.length + 1 < 1099511627776) := jh (by omega); have HLQ := jh hli40; clear hE7 he hfit hz htx hc4 hA hlow hlen2 hbg hx hx1 hxA hCX hXA hmap hll hes' hes2 hel' hBEG htk het hallz hls hls2 hTk hKN hR c0 c1 c2 c3 c5 c6 c7 hbl hli40; go_upto_region 12 with fail
      go_cut [11] from 47 to 55 (fun v11 wx => Below wr.heap.size wr wx ∧ ∃ g cap', v11 = .slice (some ⟨g, 0, none⟩) (l.length + 1) cap' ∧ wx.ownsRow wr.heap.size 45 8 v11 (l.length + 1) ((l ++ [x]).flatMap cE))
      case first =>
       go_region_law (first
        | (refine yJx _ (by rfl) (.tmp 47) (.tmp 48) 22 45 (by rfl) _ 8 96 yKM Tryz.underlying22 (by rfl) (by decide) (by decide) wr.heap.size _ 0 _ [] (by rfl) (by first | exact yIq (by simp) (jw _ _) | exact yIq (by simp) ((heap_alloc_old _ _ (by simp)).trans (jw _ _)) | exact yIq (Nat.le_succ _) yPT) _ l.length _ (l.flatMap cE) (ySv l) (yR7 l) (by rfl) (HTA.out _ (by repeat (first | exact jf _ _ | refine Below.drew ?_ | refine Below.alloc ?_ (by first | exact jr _ | (simp only [World.size_alloc, World.size_drew]; omega)) _))) l.length _ (Nat.zero_add _) rfl (Nat.lt_of_succ_lt HL40.out) (by first | exact Nat.le_succ _ | (simp only [World.size_alloc, World.size_drew]; omega)) ?_; intro g1 cap1 w2 own1 grow1; have hb2 : Below wr.heap.size wr w2 := yJd (by repeat (first | exact jf _ _ | refine Below.drew ?_ | refine Below.alloc ?_ (by first | exact jr _ | (simp only [World.size_alloc, World.size_drew]; omega)) _)) (by simp) grow1; obtain ⟨j0, j1, j2, j3, j4, j5, j6, j7⟩ := HCL.out w2 hb2; have HOW1 := jh own1; have HB2 := jh hb2; (first | have HD2 : Hid (∀ j u, (cE x)[j]? = some u → w2.cell? ⟨wr.heap.size, j, none⟩ = some u) := jh (by rw [HCX.out]; exact yRv grow1 rfl rfl) | have HD2 : Hid (∀ j u, (cE x)[j]? = some u → w2.cell? ⟨wr.heap.size + 1, j, none⟩ = some u) := jh (by rw [HCX.out]; exact yQu grow1 rfl rfl) | skip); clear own1 grow1 hb2)
        | (refine yJx _ (by rfl) (.tmp 49) (.tmp 54) 22 45 (by rfl) _ 8 96 yKM Tryz.underlying22 (by rfl) (by decide) (by decide) wr.heap.size _ l.length _ (l.flatMap cE) (by rfl) (by first | exact HOW1.out | exact World.ownsRow.alloc HOW1.out _) _ 1 _ (cE x) rfl (yRj x) (by rfl) (.inr ⟨_, by rfl, by first | exact HD2.out | (rw [HXA.out]; exact yIU)⟩) (l.length + 1) _ rfl HFLA.out HL40.out (by have := HB2.out.size; simp; omega) ?_; intro g2 cap2 w3 own2 grow2; have hb3 : Below wr.heap.size wr w3 := yJd (by first | exact HB2.out | exact HB2.out.alloc HB2.out.size _) (World.ownsRow.lt HOW1.out _ rfl).1 grow2; have HOW2 := jh own2; have HB3 := jh hb3; clear own2 grow2 hb3))
       all_goals
        go_wp2_with fail; go_meet
        case rel => exact ⟨HB3.out, _, _, rfl, HOW2.out⟩
      case rest =>
       obtain ⟨hbC, g, cap2, rfl, hrow⟩ := hcut; have hgl := World.ownsRow.lt hrow g rfl; have hTW : TkM wc W0 (fun b => K b ∨ b = g) (l ++ [x]) (some ⟨g, 0, none⟩) cap2 := yQP hrow HLL.out HFA.out (.inr rfl); have hR1 : yBn W0.heap.size W0 wc (fun b => K b ∨ b = g) wc H nd (l.map (·.1)) l.length s fs ex := HRR.out.more hbC fun b2 hb2 => by
        rcases hb2 with hb2 | rfl
        ·exact .inl hb2
        ·exact .inr ⟨hgl.1, hgl.2⟩
       have hTL : TkM wc W0 (fun b => K b ∨ b = g) l a cap := (HTK.out.keep (fun b2 h2 => jt (HRR.out.lt h2) hbC.size) fun b2 _ h2 => hbC.block b2 h2).mono fun b2 h2 => .inl h2
       have hXC : wc.heap[NB]? = some (.cells #[.int .i64 mn, .slice ra nr rc, .slice pa' np pc'] 36) := (hbC.block NB (jl hXN)).trans hXN; have hFE : yC4 wc es' (some ⟨g, 0, none⟩) (l.length + 1) cap2 := by have := hTW.two; rw [HES.out, HLL.out] at this; exact this.now hR1.low
       obtain ⟨ok, hok⟩ := je (yAI s e); have HBG : Hid (Calls Tryz.prog 8 #[.slice (some ⟨g, 0, none⟩) (l.length + 1) cap2] wc fun r w' => (∃ d y, r = .returned (.tuple #[.bool ok, d, y])) ∧ Below wc.heap.size wc w') := jh ((yHr wc hFE HALLZ.out (by have := HL40.out; omega)).mono fun r w' h => by obtain ⟨⟨d, y, h1, _⟩, h2⟩ := h; rw [HNXT.out, hok] at h1; exact ⟨⟨d, y, h1⟩, h2⟩); obtain ⟨N, hN⟩ := je (((fs.length * (nd.rows.length + nd.preds.length) : Nat) : Int) : Int); have HEN : Hid (∀ W, yBn W0.heap.size W0 wc (fun b => K b ∨ b = g) W H nd (l.map (·.1)) l.length s fs ex → Calls Tryz.prog 16 #[.pointer (some ⟨H, 0, none⟩)] W fun r w' => r = .returned (.int .i64 N) ∧ Below W.heap.size W w' ∧ yBn W0.heap.size W0 wc (fun b => K b ∨ b = g) w' H nd (l.map (·.1)) l.length s fs ex) := jh fun W h => by have := h.entries (by have := HLQ.out; omega) (by have := HSUM.out; omega); rw [hN] at this; exact this
       have HXC := jh hXC; have HR1 := jh hR1; have HTL := jh hTL; have HTW := jh hTW; have HBC := jh hbC; have HOK := jh hok; clear hXC hR1 hTL hTW hbC hN hFE hgl hrow; go_wp2_with fail; refine HBG.out.mono ?_; rintro r5 w5 ⟨⟨d5, x5, rfl⟩, hb5⟩; have HR5 := jh (HR1.out.below hb5); have HB5 := jh (HBC.out.trans (hb5.mono HBC.out.size)); clear hb5; go_wp2_with fail; refine (HEN.out w5 HR5.out).mono ?_; rintro r6 w6 ⟨rfl, hb6, hR6⟩; have HR6 := jh hR6; obtain ⟨j0, j1, j2, j3, j4, j5, j6, j7⟩ := HCL.out w6 (HB5.out.trans (hb6.mono HB5.out.size)); clear hb6 hR6; cases ok with
       | false =>
        have HRF : Hid (∀ W, yBn W0.heap.size W0 wc (fun b => K b ∨ b = g) W H nd (l.map (·.1)) l.length s fs ex → Calls Tryz.prog 13 #[.pointer (some ⟨H, 0, none⟩), .agg #[.int .i64 e.kd, .int .i64 e.num, .int .i64 e.dep, .string e.nm, .slice aa an ac, .string e.tx, .int .i64 e.fr, .int .i64 e.tu]] W fun r w' => r = .returned (.int .i64 6) ∧ yBn W0.heap.size W0 wc (fun b => K b ∨ b = g) w' H nd (l.map (·.1)) l.length s fs ex) := jh fun W h => h.refuse (HT1.out.below HB0.out) rfl (by have := HLQ.out; omega) HOK.out HZE.out aa an ac HAE.out
        clear hok; go_wp2_with fail; refine (HRF.out w6 HR6.out).mono ?_; rintro r7 w7' ⟨rfl, hR7⟩; have HR7 := jh hR7; clear hR7; go_wp2_with fail; refine (HEN.out w7' HR7.out).mono ?_; rintro r8 w8' ⟨rfl, _, hR8⟩; have HR8' := jh hR8; clear hR8; go_wp2_with fail; go_roundw
        case rel => exact ⟨i + 1, l, a, cap, s, fs, ex, wc, _, by go_num, hin, rfl, by omega, HLS.out, HTL.out.keep (fun b2 h2 => HR8'.out.lt h2) fun b2 h2 _ => HR8'.out.kp h2, .inl HKN.out, (HR8'.out.kp (.inl HKN.out)).trans HXC.out, HR8'.out⟩
        case measure => simp [intOf]; omega
       | true =>
        have HTT : Hid (∀ W, yBn W0.heap.size W0 wc (fun b => K b ∨ b = g) W H nd (l.map (·.1)) l.length s fs ex → Calls Tryz.prog 13 #[.pointer (some ⟨H, 0, none⟩), .agg #[.int .i64 e.kd, .int .i64 e.num, .int .i64 e.dep, .string e.nm, .slice aa an ac, .string e.tx, .int .i64 e.fr, .int .i64 e.tu]] W fun r w' => r = .returned (.int .i64 0) ∧ yBn W0.heap.size W0 wc (fun b => K b ∨ b = g) w' H nd es' (l.length + 1) (stp s e) (yAA nd (stp s e).dn fs e).1 (yAA nd (stp s e).dn fs e).2) := jh fun W h => (h.ext HTKE.out).take HOKN.out HNF.out (HT1.out.below HB0.out) rfl HET.out (HSN.out HOK.out) HZE.out (by rw [HEL.out]; have := HLQ.out; omega) aa an ac HAE.out HA6.out
        clear hok; go_wp2_with fail; refine (HTT.out w6 HR6.out).mono ?_; rintro r7 w7' ⟨rfl, hR7⟩; have HR7 := jh hR7; clear hR7; go_wp2_with fail; go_roundw
        case rel => exact ⟨i + 1, l ++ [x], some ⟨g, 0, none⟩, cap2, stp s e, _, _, wc, _, by go_num, hin, by rw [HLL.out], by rw [HLL.out]; omega, HLS2.out, HTW.out.keep (fun b2 h2 => HR7.out.lt h2) fun b2 h2 _ => HR7.out.kp h2, .inl HKN.out, (HR7.out.kp (.inl HKN.out)).trans HXC.out, by rw [HES.out, HLL.out]; exact HR7.out⟩
        case measure => simp [intOf]; omega
     ·obtain rfl : i = en := by omega
      have hRT : Hid (Calls Tryz.prog 12 #[.pointer (some ⟨H, 0, none⟩), .agg #[.int .i64 mn, .slice ra nr rc, .slice pa' np pc'], .slice la np lc, .slice a l.length cap] wr fun r w' => r = .returned (.bool true) ∧ yBn W0.heap.size W0 wK K w' H nd (l.map (·.1)) l.length s fs ex) := jh (hR.right2 HOKN.out HNF.out rfl (by rw [List.length_map]; exact jr _) (by rw [List.length_map]; have := HLEN.out; rw [HE1.out.len] at this; omega) (fun e he => by
       obtain ⟨q, hq, rfl⟩ := List.mem_map.1 he; exact (hls q hq).2) (fun e he => by obtain ⟨q, hq, rfl⟩ := List.mem_map.1 he; exact (hls q hq).1) (by rw [jm (by rw [List.length_map]; exact jr _)]; exact hTk.two) HFX.out HNP.out HXS.out (.int .i64 mn) ra nr rc pa' pc')
      have x0 := jc hXN 0 rfl; have x1 := jc hXN 1 rfl; have x2 := jc hXN 2 rfl; clear hR hTk hls hXN; go_wp2_with fail; refine hRT.out.mono ?_; rintro e w9 ⟨rfl, hR9⟩; have HR9 := jh hR9; clear hR9; go_wp2_with fail; go_ret; exact ⟨rfl, HBW.out _ (HB0.out.trans (HR9.out.low.mono HB0.out.size))⟩
 ·have f1 : 40 < en := by omega
  have f2 : (40 : Int) < (en : Int) := by omega
  go_wp2_with fail; go_ret; exact ⟨rfl, HBW.out _ HB4.out⟩
end Go.Proofs.YtkhejkfjhddobaaGreatDoor
