/- HopesApart: a world cut off at a size. -/
import Derived.Test.YtkhejkfjhddobaaGreatDoorRightWalkM
import Derived.Test.YtkhejkfjhddobaaGreatDoorExprNetM
import Derived.Test.YtkhejkfjhddobaaGreatDoorLightM
import Derived.Test.YtkhejkfjhddobaaGreatDoorHoAwk
set_option maxRecDepth 100000
set_option maxHeartbeats 16000000
set_option linter.unusedSimpArgs false
namespace Gim
open Go Go.RowKit
def yT2 (W : World) (n : Nat) : World := { W with heap := W.heap.extract 0 n }
theorem yTO {W : World} {n : Nat} (h : n ≤ W.heap.size) : (yT2 W n).heap.size = n := by show (W.heap.extract 0 n).size = n; rw [Array.size_extract]; omega
theorem yTM {W : World} {n b : Nat} (hb : b < n) : (yT2 W n).heap[b]? = W.heap[b]? := by
 show (W.heap.extract 0 n)[b]? = W.heap[b]?; by_cases h : b < W.heap.size
 ·rw [Array.getElem?_eq_getElem (by rw [Array.size_extract]; omega), Array.getElem?_eq_getElem h, Array.getElem_extract]; simp
 ·rw [Array.getElem?_eq_none (by rw [Array.size_extract]; omega), Array.getElem?_eq_none (by omega)]
theorem yTW {W : World} {n : Nat} (h : n ≤ W.heap.size) : Below n (yT2 W n) W :=
 ⟨rfl, rfl, rfl, by rw [yTO h]; exact h, fun _ hk => (yTM hk).symm⟩
theorem yTR {w W : World} {n : Nat} (hb : Below w.heap.size w W) (hn : w.heap.size ≤ n) (h : n ≤ W.heap.size) : Below w.heap.size w (yT2 W n) :=
 ⟨hb.os, hb.tape, hb.output, by rw [yTO h]; exact hn, fun k hk => (yTM (jt hk hn)).trans (hb.block k hk)⟩
theorem yTU {P : Program} (w : World) {ops : Array Oper} {rest : List Oper} {o : Oper} {a : Act} {Q : Exit → Act → World → Prop} (hgd : o.guard = none) (s x : Operand) (ts t : TypeId)
  (ho : o.op = .call { callee := .builtin .append, args := #[s, x], argTypes := #[ts, ts] }) (z : Value) (k bytes : Nat)
  (hinf : (P.info? t).map (fun i => (i.zero, i.size, i.bytes)) = some (some z, k, bytes)) (hu : P.underlying ts = some (.slice t)) (hz : z.cells.size = k) (hk : 0 < k) (hby : bytes ≤ 120)
  (B g n cap : Nat) (l : List Value) (hs : a.eval s = .slice (some ⟨g, 0, none⟩) n cap) (hrow : w.ownsRow B t k (.slice (some ⟨g, 0, none⟩) n cap) n l) (xa : Option Addr) (m c : Nat) (news : List Value) (hl : news.length = m * k) (h1 : ∀ u ∈ news, u.oneCell' = true)
  (hx : a.eval x = .slice xa m c) (hnews : (xa = none ∧ m = 0) ∨ ∃ ad, xa = some ad ∧ ∀ j u, news[j]? = some u → w.cell? (ad.add j) = some u) (n' : Nat) (l' : List Value) (hn' : n + m = n') (hl' : l ++ news = l') (hlen : n' ≤ 1099511627776) (hB : B ≤ w.heap.size)
  (hK : ∀ g' cap' w', w'.ownsRow B t k (.slice (some ⟨g', 0, none⟩) n' cap') n' l' → w.grownBy w' (some g) → wpList P ops Q rest (a.put o.dst (.slice (some ⟨g', 0, none⟩) n' cap')) w') :
  wpList P ops Q (o :: rest) a w := by
 subst hn' hl'; obtain ⟨i0, hi, hz0, hz1, hz2⟩ := info_parts hinf; refine wpList_plain hgd fun K hKK => ?_
 rcases hnews with ⟨rfl, rfl⟩ | ⟨ad, rfl, hc⟩
 ·have hn : news = [] := List.eq_nil_of_length_eq_zero (by simpa using hl); subst hn; unfold Oper.wp execOp; simp only [ho, resolve, invoke, builtin, Sem.run_bind, Sem.run_pure, Result.andThen_ok, List.map_toArray, List.map_cons, List.map_nil, hs, hx]; have hle : n ≤ cap := by
   rcases hrow.2 with ⟨h, _⟩ | ⟨g2, c2, cur, e, _, _, h, _⟩
   ·cases h
   ·injection e with _ _ e; omega
  have hr : (Builtin.append_ #[ts, ts] o.type #[.slice (some ⟨g, 0, none⟩) n cap, .slice none 0 c]).run P w = .ok (.slice (some ⟨g, 0, none⟩) n cap) w := by simp [Builtin.append_, run_underlying hu, Go.sizeOf, typeInfo, hi, Builtin.lenOf, Builtin.firstCells, loadCells, storeCells, hle]
  rw [hr]; exact hKK _ _ (hK g cap w (by simpa using hrow) ⟨rfl, rfl, rfl, jr _, fun _ _ _ => rfl⟩)
 ·obtain ⟨v', w', hrun, h2, h3, h4, h5⟩ := run_append_own_at (P := P) w B ts o.type t i0 z k bytes hu hi hz0 hz1 hz2 hz hk _ n l hrow ad m c news hl hc h1 (by unfold maxLen; omega) (by have : (n + m) * bytes ≤ 1099511627776 * 120 := Nat.mul_le_mul (by omega) hby; omega) hB; unfold Oper.wp execOp; simp only [ho, resolve, invoke, builtin, Sem.run_bind, Sem.run_pure, Result.andThen_ok, List.map_toArray, List.map_cons, List.map_nil, hs, hx, hrun]; rcases h2.2 with ⟨h, _⟩ | ⟨g', cap', cur, rfl, _⟩
  ·rw [h4] at h; cases h.1
  ·exact hKK _ _ (hK g' cap' w' h2 h3)
theorem yTT {n : Nat} {w w1 w2 : World} {p : Nat → Prop} (hb : Below n w w1) (hf : Fr p w1 w2) (hp : ∀ b, p b → n ≤ b) (hn : n ≤ w1.heap.size) : Below n w w2 :=
 ⟨hf.os.trans hb.os, hf.tape.trans hb.tape, hf.output.trans hb.output, ju hb.size hf.size, fun k hk => (hf.block k (jt hk hn) fun e => by have := hp k e; omega).trans (hb.block k hk)⟩
def cAt (l : List (ByteArray × ByteArray)) : List Value := l.flatMap fun x => [.string x.1, .string x.2]
theorem yTY (l : List (ByteArray × ByteArray)) : (cAt l).length = l.length * 2 := by
 unfold cAt
 induction l with
 | nil => rfl
 | cons x l ih => rw [List.flatMap_cons, jp, ih, List.length_cons]; simp; omega
theorem yT3 (l : List (ByteArray × ByteArray)) : ∀ u ∈ cAt l, u.oneCell' = true := fun u hu => by
 obtain ⟨x, _, h⟩ := List.mem_flatMap.1 hu; simp only [List.mem_cons, List.not_mem_nil, or_false] at h; rcases h with rfl | rfl <;> rfl
end Gim
namespace Go.Proofs.YtkhejkfjhddobaaGreatDoor
open Go.RowKit Gim
theorem yBn.written {n0 : Nat} {w0 wK : World} {K : Nat → Prop} {wr w' : World} {H : Nat} {nd : yAc} {es : List EvD} {i : Nat} {s : CkS} {fs : List FrS} {ex : Option (List Int)} (h : yBn n0 w0 wK K wr H nd es i s fs ex) {p : Nat → Prop} (hf : Fr p wr w') (hp : ∀ b, p b → K b ∧ n0 ≤ b) : yBn n0 w0 w' K w' H nd es i s fs ex := by
 obtain ⟨hbg, ⟨tg, hx, hkp⟩, hlen, hhb, hlow, hrun, hexr⟩ := h; have hlo := hx.low; refine ⟨hbg, ⟨_, hx.off hf fun b _ hb => (hkp b (hp b hb).1).1, fun b hb => ?_⟩, hlen, hhb, ?_, hrun, hexr⟩
 ·obtain ⟨h1, h2, _⟩ := hkp b hb; exact ⟨by rw [yAl h2]; exact h1, jt h2 hf.size, rfl⟩
 ·exact hlow.trans ⟨hf.os, hf.tape, hf.output, hf.size, fun b hb => hf.block b (jt hb hlo.1) fun e => by have := (hp b e).2; omega⟩
theorem yT1 (b o j : Nat) : (⟨b, o, none⟩ : Addr).add j = ⟨b, o + j, none⟩ := by unfold Addr.add; split <;> simp_all
theorem yTX {W : World} {ats : List (ByteArray × ByteArray)} {aa : Option Addr} {an ac : Nat} (h : yAO W ats aa an ac) : (aa = none ∧ an = 0) ∨ ∃ ad, aa = some ad ∧ ∀ j u, (cAt ats)[j]? = some u → W.cell? (ad.add j) = some u := by
 by_cases h0 : 0 < an
 ·obtain ⟨b, o, e, _, hc⟩ := h.fit 0 h0; refine .inr ⟨_, e, fun j u hu => ?_⟩; have hj : j < ats.length * 2 := by rw [← yTY]; exact (ji.1 hu).1
  have hi : j / 2 < ats.length := by omega
  have hx := jk hi; have hk := yBI (fun x : ByteArray × ByteArray => [Value.string x.1, .string x.2]) 2 (fun _ => rfl) hx (j % 2) (by omega); rw [show j / 2 * 2 + j % 2 = j by omega] at hk; obtain ⟨q1, q2⟩ := hc _ _ hx; unfold cAt at hu; rw [hk] at hu; rw [yT1]; rcases (show j % 2 = 0 ∨ j % 2 = 1 by omega) with e2 | e2 <;> rw [e2] at hu
  ·injection hu with hu; subst hu; rw [show o + j = o + j / 2 * 2 by omega]; exact q1
  ·injection hu with hu; subst hu; rw [show o + j = o + j / 2 * 2 + 1 by omega]; exact q2
 ·have hz : ats = [] := List.eq_nil_of_length_eq_zero (by rw [h.len]; omega); cases aa with
  | none => exact .inl ⟨rfl, by omega⟩
  | some ad => exact .inr ⟨ad, rfl, fun j u hu => by rw [hz] at hu; simp [cAt] at hu⟩
theorem yTZ {W : World} {B T : Nat} {ats : List (ByteArray × ByteArray)} {g an cap : Nat} (h : W.ownsRow B T 2 (.slice (some ⟨g, 0, none⟩) an cap) an (cAt ats)) (hl : ats.length = an) : yAO W ats (some ⟨g, 0, none⟩) an cap := by
 have hlt := World.ownsRow.lt h g rfl; rcases h.2 with ⟨e, _⟩ | ⟨g', cap', cur, e, _, hg, h1, h2, _⟩
 ·cases e
 ·injection e with e1 e2 e3; refine ⟨hl, by omega, by omega, fun j hj => ⟨g, 0, rfl, hlt.2, fun i x hx => ?_⟩⟩; have c : ∀ k u, k < 2 → ([Value.string x.1, .string x.2])[k]? = some u → W.cell? ⟨g, 0 + i * 2 + k, none⟩ = some u := fun k u hk hu => by rw [Nat.zero_add]; exact yAq h ((yBI (fun x : ByteArray × ByteArray => [Value.string x.1, .string x.2]) 2 (fun _ => rfl) hx k hk).trans hu)
  exact ⟨c 0 _ (by decide) rfl, c 1 _ (by decide) rfl⟩
theorem yT0 : (Tryz.prog.info? 61).map (fun i => (i.zero, i.size, i.bytes)) = some (some (.agg #[.string ByteArray.empty, .string ByteArray.empty]), 2, 32) := by kernel_rfl
end Go.Proofs.YtkhejkfjhddobaaGreatDoor
namespace Gim
open Go Go.RowKit
theorem yIq {w : World} {B g : Nat} {t : TypeId} {k : Nat} (hB : B ≤ g) (h : w.heap[g]? = some (.cells #[] t)) : w.ownsRow B t k (.slice (some ⟨g, 0, none⟩) 0 0) 0 [] :=
 ⟨by simp, .inr ⟨g, 0, #[], rfl, hB, h, jr _, jz _, by simp, by simp⟩⟩
theorem yJd {w W W2 : World} {g : Nat} (hb : Below w.heap.size w W) (hg : w.heap.size ≤ g) (h : W.grownBy W2 (some g)) : Below w.heap.size w W2 :=
 hb.trans ⟨h.os, h.tape, h.output, h.size, fun k hk => h.block k (jt hk hb.size) (by intro e; injection e with e; omega)⟩
end Gim
namespace Go.Proofs.YtkhejkfjhddobaaGreatDoor
open Go.RowKit Gim
theorem yTP {es : List EvD} {ea : Option Addr} {en ec : Nat} {sts : List Gim.St} {pa : Option Addr} {pn pc : Nat} (w : World) (hE : yC4 w es ea en ec) (hF : yAH w sts pa pn pc) (hT : yBd w) (hz : ∀ x ∈ es, yEg x) (hB : ∀ e ∈ es, e.tx.size ≤ 1048576) (hw : wTL sts ≤ 1048576) (hen : en ≤ 1099511627775) :
  Calls Tryz.prog 4 #[.slice ea en ec, .agg #[.slice pa pn pc]] w fun e w' => e = .returned (.bool true) ∧ Below w.heap.size w w' := by
 obtain ⟨W1, hW1⟩ := je (w.alloc (.cells #[.slice pa pn pc] 25)); have b1 : Below w.heap.size w W1 := by rw [← hW1]; exact (jf _ _).alloc (jr _) _
 have hX1 : W1.heap[w.heap.size]? = some (.cells #[.slice pa pn pc] 25) := by rw [← hW1]; exact jw _ _
 have hXs : w.heap.size < W1.heap.size := jl hX1; have y0 := jc hX1 0 rfl; have hT1 := hT.below b1; have hF1 := hF.below b1; have hE1 := hE.below b1; have HW1 := jh hW1; have HY0 := jh y0; have HBW : Hid (∀ W', Below W1.heap.size W1 W' → Below w.heap.size w W') := jh fun W' h => b1.trans (h.mono b1.size)
 have HT1 := jh hT1; have HF1 := jh hF1; have HE1 := jh hE1; have HZ := jh hz; have HBX := jh hB; have HWS := jh hw; clear hW1 hT1 hF1 hE1 b1 hX1 hE hF hT hz hB; go_enter Tryz.func4, Tryz.ntmps4; go_upto_region 1 with fail; rw [HW1.out]; go_wp2_with fail; refine (yLh W1 HT1.out).mono ?_; rintro e w3 ⟨rfl, hb3⟩; have z1 := (hb3.cell (p := ⟨w.heap.size, 0, none⟩) hXs).trans y0; have HB3 := jh hb3; have hE3 := HE1.out.below hb3; clear y0 hb3; go_wp2_with fail; refine (yHr w3 hE3 HZ.out hen).mono ?_; rintro e w4 ⟨⟨d, x, rfl, _⟩, hb4⟩; have z2 := (hb4.cell (p := ⟨w.heap.size, 0, none⟩) (jt hXs HB3.out.size)).trans z1; have HB4 := jh (HB3.out.trans (hb4.mono HB3.out.size)); clear z1 hb4 hE3; cases hBG : yIt es with
 | false =>
  go_wp2_with fail; go_ret; exact ⟨rfl, HBW.out _ HB4.out⟩
 | true =>
  have HBG := jh hBG; clear hBG; by_cases h4 : en ≤ 40
  ·have f1 : (40 < en) = False := eq_false (by omega); have HLI := jh (yMp sts pa pn pc w4 (HF1.out.below HB4.out)); go_wp2_with fail; refine HLI.out.mono ?_; rintro e w5 ⟨⟨li, rfl⟩, hb5⟩; have z3 := (hb5.cell (p := ⟨w.heap.size, 0, none⟩) (jt hXs HB4.out.size)).trans z2; have HB5 := jh (HB4.out.trans (hb5.mono HB4.out.size)); clear z2 hb5 HLI; cases li with
   | false =>
    go_wp2_with fail; go_ret; exact ⟨rfl, HBW.out _ HB5.out⟩
   | true =>
    have HCK := jh (yDi sts pa pn pc w5 (HF1.out.below HB5.out) (by have := HWS.out; omega) (HT1.out.below HB5.out)); go_wp2_with fail; refine HCK.out.mono ?_; rintro e w6 ⟨rfl, hb6⟩; have z4 := (hb6.cell (p := ⟨w.heap.size, 0, none⟩) (jt hXs HB5.out.size)).trans z3; have HB6 := jh (HB5.out.trans (hb6.mono HB5.out.size)); clear z3 hb6 HCK; cases hOK : okP sts with
    | false =>
     go_wp2_with fail; go_ret; exact ⟨rfl, HBW.out _ HB6.out⟩
    | true =>
     have HOK := jh hOK; have hg : yBk sts = true := by have h := hOK; unfold okP gdP at h; simp only [jb] at h; exact h.1.2
     have hszp := ju (yQO sts) HWS.out; have HNF : Hid (yAD (comp sts)) := jh (yRo hOK (yEP hszp (by have := HWS.out; omega))); have HWX : Hid (∀ k, k < (comp sts).preds.length → wX (xN (comp sts) k) ≤ 1048576) := jh fun k hk => ju (ySF hg hk) HWS.out
     have HSTC := jh (yMm sts pa pn pc w6 (HF1.out.below HB6.out) (HT1.out.below HB6.out) hOK hszp (by have := HWS.out; omega)); have HSZ := jh hszp; clear hOK hg hszp; go_wp2_with fail; refine HSTC.out.mono ?_; rintro e w7 ⟨W0, H, tg, ra, rc, pa', pc', la, lc, rfl, hb0, hFX, hok, hX, hlow⟩; obtain ⟨nr, hnr⟩ := je ((comp sts).rows.length); obtain ⟨np, hnp⟩ := je ((comp sts).preds.length); obtain ⟨mn, hmn⟩ := je ((comp sts).main : Int); rw [hnp] at hFX; have HNR := jh hnr; have HNP0 := jh hnp; have HMN := jh hmn; rw [hnr, hnp, hmn]; obtain ⟨nd, hnd⟩ := je (comp sts); have HND := jh hnd; rw [hnd] at hnp hFX hok hX HNF HWX; have HRH := jh (yBn.start [] HNF.out hX hlow); have HB0 := jh (HB6.out.trans (hb0.mono HB6.out.size)); have HB7 := jh (HB0.out.trans (hlow.mono HB0.out.size)); have HL0 := jh hlow; have HXS := jh (yS2 hnp HWX.out); have HFX := jh hFX; have HOKN := jh hok; have HNP := jh hnp; obtain ⟨NB, hNB⟩ := je (w7.heap.size); have HNB := jh hNB; obtain ⟨w8, hw8⟩ := je (w7.alloc (.cells #[.int .i64 mn, .slice ra nr rc, .slice pa' np pc'] 36)); have hX8 : w8.heap[NB]? = some (.cells #[.int .i64 mn, .slice ra nr rc, .slice pa' np pc'] 36) := by rw [← hw8, ← hNB]; exact jw _ _
     have hb8 : Below w7.heap.size w7 w8 := by rw [← hw8]; exact (jf _ _).alloc (jr _) _
     have hN8 : NB < w8.heap.size := jl hX8; have HN8 := jh hN8; have HX8 := jh hX8; have HW8 := jh hw8; have HB78 := jh hb8; have HB8 := jh (HB7.out.trans (hb8.mono HB7.out.size)); have HY : Hid (∀ W, Below W1.heap.size W1 W → W.cell? ⟨w.heap.size, 0, none⟩ = some (.slice pa pn pc)) := jh fun W h => (h.cell (p := ⟨w.heap.size, 0, none⟩) hXs).trans HY0.out
     have y8 := HY.out w8 HB8.out; have HCQ := jh (yTS sts pa pn pc w8 (HF1.out.below HB8.out) (HT1.out.below HB8.out) (by have := HWS.out; omega) HSZ.out HOK.out); have hlen6 : es.length ≤ 40 := by rw [HE1.out.len]; exact h4
     have HLEN := jh hlen6; clear hX8 hw8 hb8 hX hlow hb0 hFX hok hnr hnp hmn hnd z4 hlen6 hN8; go_upto_region 7 with fail; rw [HW8.out]; clear hNB; go_wp2_with fail; refine HCQ.out.mono ?_; rintro e w9 ⟨hb9, vr, vp, rfl, hNA, tgm, cr, cp, hSP, hlr, hlp⟩; obtain ⟨ra2, rc2, pa2, pc2, rfl, rfl, hR2, hP2⟩ := hNA w9 fun _ _ _ => rfl
     have hm2 : ((sts.length : Nat) : Int) = mn := HMN.out; rw [hm2, HNR.out, HNP0.out]; rw [HNR.out] at hlr hR2; rw [HNP0.out] at hlp hP2; rw [HNR.out, HNP0.out] at hSP; have hRle := hR2.le; have hRcl := hR2.cap_le; have hPle := hP2.le; have hPcl := hP2.cap_le; have HR2 := jh hR2; have HP2 := jh hP2; obtain ⟨lo, hlo⟩ := je (w8.heap.size); obtain ⟨hi, hhi⟩ := je (w9.heap.size); have HLO := jh hlo; have HHI := jh hhi; obtain ⟨tgc, htc⟩ : ∃ tgc : Nat → Nat, tgc = fun b => if b < w9.heap.size then tgm b else 0 := ⟨_, rfl⟩
     have hsp9 : SpM lo w9 tgc (.slice ra2 nr rc2) (.slice pa2 np pc2) cr cp := by rw [htc, ← hlo]; exact hSP.cut
     have HTG : Hid (∀ b, tgc b ≠ 0 → b < hi) := jh fun b hb => Nat.lt_of_not_le fun h => hb (by rw [htc]; simp only []; rw [if_neg (by omega)])
     obtain ⟨w10, hw10⟩ := je (w9.alloc (.cells #[.int .i64 mn, .slice ra2 nr rc2, .slice pa2 np pc2] 36)); have hX10 : w10.heap[hi]? = some (.cells #[.int .i64 mn, .slice ra2 nr rc2, .slice pa2 np pc2] 36) := by rw [← hw10, ← hhi]; exact jw _ _
     have hb10 : Below w9.heap.size w9 w10 := by rw [← hw10]; exact (jf _ _).alloc (jr _) _
     have hs10 : hi < w10.heap.size := jl hX10; have HX10 := jh hX10; have HW10 := jh hw10; have HS10 := jh hs10; have HB9 := jh (HB8.out.trans (hb9.mono HB8.out.size)); have HB10 := jh (HB9.out.trans (hb10.mono HB9.out.size)); have HNBLO : Hid (NB < lo) := jh (by rw [← hlo]; exact HN8.out); have HLH : Hid (lo ≤ hi) := jh (by rw [← hlo, ← hhi]; exact hb9.size); have HWLO : Hid (w7.heap.size ≤ lo ∧ W1.heap.size ≤ lo) := jh ⟨by rw [← hlo]; exact HB78.out.size, by rw [← hlo]; exact HB8.out.size⟩; have HBL : Hid (Below lo w8 w10) := jh (by rw [← hlo]; exact hb9.trans (hb10.mono hb9.size)); have HSP : Hid (SpM lo w10 tgc (.slice ra2 nr rc2) (.slice pa2 np pc2) cr cp) := jh (hsp9.same fun b _ hb => hb10.block b hb); have HNW := jh (yHl sts w10 HOK.out HSZ.out (by have := HWS.out; omega) (HT1.out.below HB10.out) ra2 rc2 pa2 pc2 (by rw [HNR.out]; exact HR2.out.below hb10) (by rw [HNP0.out]; exact HP2.out.below hb10)); have HLR := jh hlr; have HLP := jh hlp; clear hb9 hNA hSP hlr hlp hR2 hP2 hlo hhi htc hsp9 hw10 hX10 hb10 hs10 hm2 y8 HCQ HY; rw [HNR.out, HNP0.out, HMN.out] at HNW; go_upto_region 8 with fail; rw [HHI.out, HW10.out]; have x10 := HX10.out; have g0 := jc x10 0 rfl; have g1 := jc x10 1 rfl; have g2 := jc x10 2 rfl; clear x10; go_wp2_with fail; refine HNW.out.mono ?_; rintro e w11 ⟨hb11, _, H2, tg2, rfl, hX2⟩; have HB11 := jh (HB10.out.trans (hb11.mono HB10.out.size)); have hX11 := (hb11.block hi HS10.out).trans HX10.out; have HX11 := jh hX11; have HX2 := jh hX2; have HS11 := jh hb11.size; have HSP11 : Hid (SpM lo w11 tgc (.slice ra2 nr rc2) (.slice pa2 np pc2) cr cp) := jh (HSP.out.same fun b _ hb => hb11.block b hb); have HB78X : Hid (w8.heap.size ≤ w10.heap.size) := jh HBL.out.size; have HXN11 : Hid (w11.heap[NB]? = some (.cells #[.int .i64 mn, .slice ra nr rc, .slice pa' np pc'] 36)) := jh ((hb11.block NB (jt HNBLO.out (ju HLH.out (Nat.le_of_lt HS10.out)))).trans ((HBL.out.block NB HNBLO.out).trans HX8.out)); have HBL11 := jh (HBL.out.trans (hb11.mono (ju HLH.out (Nat.le_of_lt HS10.out)))); have x11a := jc hX11 1 rfl; clear hb11 hX11 hX2 HNW g0 g1 g2; go_wp2_with fail; clear x11a; go_loopw [16] (fun v wr => ∃ (i : Nat) (cr' : List NR), v = .int .i64 i ∧ i ≤ nr ∧ cr'.length = nr ∧ SpM lo wr tgc (.slice ra2 nr rc2) (.slice pa2 np pc2) cr' cp ∧ Fr (fun b => lo ≤ b ∧ b < hi) w11 wr ∧ wr.heap.size = w11.heap.size) (fun v _ => nr - (intOf v).toNat)
     case atStart => exact ⟨0, cr, rfl, jz _, HLR.out, HSP11.out, Fr.refl _ _, rfl⟩
     case round =>
      revert hrel; revert wr; intro wo hrel; obtain ⟨i, cr', rfl, hi', hl, hsp, hfr, hsz⟩ := hrel; have hX := (hfr.block hi (jt HS10.out HS11.out) (by omega)).trans HX11.out; have x1 := jc hX 1 rfl; by_cases hin : i < nr
      ·have hin' : (i : Int) < nr := by omega
       obtain ⟨g, cap, c, e1, hc, _⟩ := hsp.rowAt (k := i) (by rw [hl]; exact hin); injection e1 with e1
       subst e1; obtain ⟨al, nl, cl, hcv, hcl, hclm, hblk⟩ := hsp.rowL hc; have hnl : nl ≤ 9223372036854775807 := by unfold maxLen at hclm; omega
       have f9 : IntKind.i64.wrap ((i : Int) + 1) = (i : Int) + 1 := IntWalk.i64_in _ (by unfold maxLen at hRcl; omega); have HC := jh hc; have HCV := jh hcv; have HBLK := jh hblk; have HL := jh hl; have HSPi := jh hsp; have HFRi := jh hfr; have HSZi := jh hsz; clear hsp hfr hsz hc hcv hblk hl hX; go_wp2_with fail; clear x1; go_loopw [17] (fun v wr => ∃ k : Nat, v = .int .i64 k ∧ k ≤ nl ∧ SpM lo wr tgc (.slice (some ⟨g, 0, none⟩) nr rc2) (.slice pa2 np pc2) cr' cp ∧ Fr (fun b => lo ≤ b ∧ b < hi) w11 wr ∧ wr.heap.size = w11.heap.size) (fun v _ => nl - (intOf v).toNat)
       case atStart => exact ⟨0, rfl, jz _, HSPi.out, HFRi.out, HSZi.out⟩
       case round =>
        obtain ⟨k, rfl, hk', hsp, hfr, hsz⟩ := hrel; have hX := (hfr.block hi (jt HS10.out HS11.out) (by omega)).trans HX11.out; have x1 := jc hX 1 rfl; obtain ⟨tg1, hg1, hg2, hz, hcell⟩ := hsp.rowC HC.out rfl; have hgh : g < hi := HTG.out g (by rw [tg1]; decide); have c0 := hcell 0 (by decide); have c1 := hcell 1 (by decide); have c2 := hcell 2 (by decide); have c3 := hcell 3 (by decide); have u3 : wr.cell? ⟨g, i * 4 + 3, none⟩ = some (.slice al nl cl) := by rw [c3, ← HCV.out]; rfl
        have u0 : wr.cell? ⟨g, i * 4, none⟩ = some (.int .i64 c.ax) := c0; have u1 : wr.cell? ⟨g, i * 4 + 1, none⟩ = some (.int .i64 c.ts) := c1; have u2 : wr.cell? ⟨g, i * 4 + 2, none⟩ = some (.string c.nm) := c2; have z0 := hz (i * 4); have z1 := hz (i * 4 + 1); have z2 := hz (i * 4 + 2); have z3 := hz (i * 4 + 3); have HSPk := jh hsp; have HFRk := jh hfr; have HSZk := jh hsz; by_cases hkn : k < nl
        ·have hkn' : (k : Int) < nl := by omega
         obtain ⟨g2, rfl⟩ := HBLK.out k hkn; obtain ⟨tg2', hg3, hg4, hz4, z', hc4⟩ := hsp.rowN HC.out HCV.out hkn; have hgh2 : g2 < hi := HTG.out g2 (by rw [tg2']; omega); have f8 : IntKind.i64.wrap ((k : Int) + 1) = (k : Int) + 1 := IntWalk.i64_in _ (by omega); have HNXT : Hid (SpM lo (wr.setCell ⟨g2, k, none⟩ (.int .i64 (-9))) tgc (.slice (some ⟨g, 0, none⟩) nr rc2) (.slice pa2 np pc2) cr' cp) := jh (HSPk.out.setList HC.out HCV.out k (-9)); have HNF2 : Hid (Fr (fun b => lo ≤ b ∧ b < hi) w11 (wr.setCell ⟨g2, k, none⟩ (.int .i64 (-9)))) := jh (HFRk.out.set g2 k _ ⟨hg3, hgh2⟩); clear hsp hfr hsz hcell c0 c1 c2 c3 hz tg1 tg2' hX; go_wp2_with fail; go_roundw
         case rel => exact ⟨k + 1, by go_num, hkn, HNXT.out, HNF2.out, by rw [jv]; exact HSZk.out⟩
         case measure => simp [intOf]; omega
        ·obtain rfl : k = nl := by omega
         have HNXT := jh (HSPk.out.setRow HC.out (by rw [HL.out]) 9 0 ⟨#[115, 112, 111, 105, 108, 116]⟩); have HNF2 := jh ((((HFRk.out.set g (i * 4) (.int .i64 9) ⟨hg1, hgh⟩).set g (i * 4 + 1) (.int .i64 0) ⟨hg1, hgh⟩).set g (i * 4 + 2) (.string ⟨#[115, 112, 111, 105, 108, 116]⟩) ⟨hg1, hgh⟩).set g (i * 4 + 3) (.slice none 0 0) ⟨hg1, hgh⟩); clear hsp hfr hsz hcell c0 c1 c2 c3 hz tg1 hX; go_wp2_with fail; go_roundw
         case rel => exact ⟨i + 1, _, by go_num, hin, by rw [List.length_set]; exact HL.out, HNXT.out, HNF2.out, by simp only [jv]; exact HSZk.out⟩
         case measure => simp [intOf]; omega
      ·obtain rfl : i = nr := by omega
       have HSPi := jh hsp; have HFRi := jh hfr; have HSZi := jh hsz; have x2 := jc hX 2 rfl; clear hsp hfr hsz hX; go_wp2_with fail; clear x1 x2; go_loopw [18] (fun v wr => ∃ (q : Nat) (cp' : List NP), v = .int .i64 q ∧ q ≤ np ∧ cp'.length = np ∧ SpM lo wr tgc (.slice ra2 i rc2) (.slice pa2 np pc2) cr' cp' ∧ Fr (fun b => lo ≤ b ∧ b < hi) w11 wr ∧ wr.heap.size = w11.heap.size) (fun v _ => np - (intOf v).toNat)
       case atStart => exact ⟨0, cp, rfl, jz _, HLP.out, HSPi.out, HFRi.out, HSZi.out⟩
       case round =>
        revert hrel; revert wr; intro wq hrel; obtain ⟨q, cp', rfl, hq', hl3, hsp, hfr, hsz⟩ := hrel; have hX := (hfr.block hi (jt HS10.out HS11.out) (by omega)).trans HX11.out; have x2 := jc hX 2 rfl; by_cases hqn : q < np
        ·have hqn' : (q : Int) < np := by omega
         obtain ⟨g, cap, c, e1, hc, _⟩ := hsp.predAt (k := q) (by rw [hl3]; exact hqn); injection e1 with e1
         subst e1; obtain ⟨al, nl, cl, hcv, hcl, hclm, hblk⟩ := hsp.predL hc; have hnl : nl ≤ 9223372036854775807 := by unfold maxLen at hclm; omega
         have f9 : IntKind.i64.wrap ((q : Int) + 1) = (q : Int) + 1 := IntWalk.i64_in _ (by unfold maxLen at hPcl; omega); have HC := jh hc; have HCV := jh hcv; have HBLK := jh hblk; have HL := jh hl3; have HSPq := jh hsp; have HFRq := jh hfr; have HSZq := jh hsz; obtain ⟨tgA, hgA1, hgA2, _, hcellA⟩ := hsp.predC hc rfl; have v1 : wq.cell? ⟨g, q * 8 + 1, none⟩ = some (.slice al nl cl) := by rw [hcellA 1 (by decide), ← hcv]; rfl
         clear hsp hfr hsz hc hcv hblk hl3 hX hcellA tgA hgA1 hgA2; go_wp2_with fail; clear x2 v1; go_loopw [19] (fun v wr => ∃ k : Nat, v = .int .i64 k ∧ k ≤ nl ∧ SpM lo wr tgc (.slice ra2 i rc2) (.slice (some ⟨g, 0, none⟩) np pc2) cr' cp' ∧ Fr (fun b => lo ≤ b ∧ b < hi) w11 wr ∧ wr.heap.size = w11.heap.size) (fun v _ => nl - (intOf v).toNat)
         case atStart => exact ⟨0, rfl, jz _, HSPq.out, HFRq.out, HSZq.out⟩
         case round =>
          obtain ⟨k, rfl, hk', hsp, hfr, hsz⟩ := hrel; have hX := (hfr.block hi (jt HS10.out HS11.out) (by omega)).trans HX11.out; have x2 := jc hX 2 rfl; obtain ⟨tg1, hg1, hg2, hz, hcell⟩ := hsp.predC HC.out rfl; have hgh : g < hi := HTG.out g (by rw [tg1]; decide); have u1 : wr.cell? ⟨g, q * 8 + 1, none⟩ = some (.slice al nl cl) := by rw [hcell 1 (by decide), ← HCV.out]; rfl
          have u0 : wr.cell? ⟨g, q * 8, none⟩ = some (.int .i64 c.op) := hcell 0 (by decide); have u2 : wr.cell? ⟨g, q * 8 + 2, none⟩ = some (.int .i64 c.first) := hcell 2 (by decide); have u3 : wr.cell? ⟨g, q * 8 + 3, none⟩ = some (.int .i64 c.count) := hcell 3 (by decide); have u4 : wr.cell? ⟨g, q * 8 + 4, none⟩ = some (.string c.attr) := hcell 4 (by decide); have u5 : wr.cell? ⟨g, q * 8 + 5, none⟩ = some (.int .i64 c.cmp) := hcell 5 (by decide); have u6 : wr.cell? ⟨g, q * 8 + 6, none⟩ = some (.string c.txt) := hcell 6 (by decide); have u7 : wr.cell? ⟨g, q * 8 + 7, none⟩ = some (.int .i64 c.num) := hcell 7 (by decide); have z0 := hz (q * 8); have z1 := hz (q * 8 + 1); have z2 := hz (q * 8 + 2); have z3 := hz (q * 8 + 3); have z4 := hz (q * 8 + 4); have z5 := hz (q * 8 + 5); have z6 := hz (q * 8 + 6); have z7 := hz (q * 8 + 7); have HSPk := jh hsp; have HFRk := jh hfr; have HSZk := jh hsz; by_cases hkn : k < nl
          ·have hkn' : (k : Int) < nl := by omega
           obtain ⟨g2, rfl⟩ := HBLK.out k hkn; obtain ⟨tg2', hg3, hg4, hz4, z', hc4⟩ := hsp.predN HC.out HCV.out hkn; have hgh2 : g2 < hi := HTG.out g2 (by rw [tg2']; omega); have f8 : IntKind.i64.wrap ((k : Int) + 1) = (k : Int) + 1 := IntWalk.i64_in _ (by omega); have HNXT := jh (HSPk.out.setArg HC.out HCV.out k (-9)); have HNF2 : Hid (Fr (fun b => lo ≤ b ∧ b < hi) w11 (wr.setCell ⟨g2, k, none⟩ (.int .i64 (-9)))) := jh (HFRk.out.set g2 k _ ⟨hg3, hgh2⟩); clear hsp hfr hsz hcell hz tg1 tg2' hX; go_wp2_with fail; go_roundw
           case rel => exact ⟨k + 1, by go_num, hkn, HNXT.out, HNF2.out, by rw [jv]; exact HSZk.out⟩
           case measure => simp [intOf]; omega
          ·obtain rfl : k = nl := by omega
           have HNXT := jh (HSPk.out.setPred HC.out (by rw [HL.out]) 9 0 0 0 0 ByteArray.empty ByteArray.empty); have HNF2 := jh ((((((((HFRk.out.set g (q * 8) (.int .i64 9) ⟨hg1, hgh⟩).set g (q * 8 + 1) (.slice none 0 0) ⟨hg1, hgh⟩).set g (q * 8 + 2) (.int .i64 0) ⟨hg1, hgh⟩).set g (q * 8 + 3) (.int .i64 0) ⟨hg1, hgh⟩).set g (q * 8 + 4) (.string ByteArray.empty) ⟨hg1, hgh⟩).set g (q * 8 + 5) (.int .i64 0) ⟨hg1, hgh⟩).set g (q * 8 + 6) (.string ByteArray.empty) ⟨hg1, hgh⟩).set g (q * 8 + 7) (.int .i64 0) ⟨hg1, hgh⟩); clear hsp hfr hsz hcell hz tg1 hX; go_wp2_with fail; go_roundw
           case rel => exact ⟨q + 1, _, by go_num, hqn, by rw [List.length_set]; exact HL.out, HNXT.out, HNF2.out, by simp only [jv]; exact HSZk.out⟩
           case measure => simp [intOf]; omega
        ·obtain rfl : q = np := by omega
         obtain ⟨N, hN⟩ := je (w10.heap.size); have hNs : N ≤ wq.heap.size := by rw [hsz, ← hN]; exact HS11.out
         have hloN : lo ≤ N := by rw [← hN]; exact ju HLH.out (Nat.le_of_lt HS10.out)
         have hB1 : Below W1.heap.size W1 wq := yTT HB11.out hfr (fun b hb => ju HWLO.out.2 hb.1) HB11.out.size; have hB7a : Below w7.heap.size w7 w11 := HB78.out.trans (HBL11.out.mono HWLO.out.1); have hB7 : Below w7.heap.size w7 wq := yTT hB7a hfr (fun b hb => ju HWLO.out.1 hb.1) hB7a.size; have hXN := (hfr.block NB (jt HN8.out (ju HB78X.out HS11.out)) (by have := HNBLO.out; omega)).trans HXN11.out; obtain ⟨WZ, hWZ⟩ := je (yT2 wq N); have hzs : WZ.heap.size = N := by rw [← hWZ]; exact yTO hNs
         have hbz : Below WZ.heap.size WZ wq := by rw [hzs, ← hWZ]; exact yTW hNs
         have hbw1 : Below W1.heap.size W1 WZ := by rw [← hWZ]; exact yTR hB1 (ju HWLO.out.2 hloN) hNs
         have hbw7 : Below w7.heap.size w7 WZ := by rw [← hWZ]; exact yTR hB7 (ju HWLO.out.1 hloN) hNs
         have hXZ : WZ.heap[NB]? = some (.cells #[.int .i64 mn, .slice ra i rc, .slice pa' q pc'] 36) := by rw [← hWZ, yTM (by have := HNBLO.out; omega)]; exact hXN
         have hR0 : yBn WZ.heap.size WZ wq (fun _ => False) wq H2 nd es 0 ck0 [yAr nd 0 ByteArray.empty []] none := yBn.start es HNF.out (by rw [hzs, ← hN]; have h := HX2.out; rw [HND.out] at h; exact h.off hfr fun b _ hb => h.low.2 b (by have := HS10.out; omega)) hbz; have HRS := jh hR0; have HEZ := jh (HE1.out.below hbw1); have HTZ := jh (HT1.out.below hbw1); have HFZ := jh (HFX.out.below ((HL0.out.trans (hbw7.mono HL0.out.size)))); have HBZ := jh hbz; have HB1Z := jh hbw1; have HB7Z := jh hbw7; have HXZ := jh hXZ; have HNZ : Hid (NB < WZ.heap.size) := jh (by rw [hzs]; have := HNBLO.out; omega); clear hsp hfr hsz hX hN hNs hloN hB1 hB7a hB7 hXN hWZ hzs hbz hbw1 hbw7 hXZ hR0; go_wp2_with fail; clear x2; go_loopw [20] (fun v wr => ∃ (j : Nat) (s : CkS) (fs : List FrS) (ex : Option (List Int)) (wK : World), v = .int .i64 j ∧ j ≤ en ∧ yBn WZ.heap.size WZ wK (fun _ => False) wr H2 nd es j s fs ex) (fun v _ => en - (intOf v).toNat)
         case atStart => exact ⟨0, ck0, _, _, _, rfl, jz _, HRS.out⟩
         case round =>
          revert hrel; revert wr; intro we hrel; obtain ⟨j, s, fs, ex, wK, rfl, hj, hR⟩ := hrel; by_cases hjn : j < en
          ·have hjn' : (j : Int) < en := by omega
           have hE := HEZ.out; obtain ⟨e, he⟩ : ∃ e, es[j]? = some e := ⟨_, jk (by rw [hE.len]; exact hjn)⟩
           obtain ⟨b, o, rfl, hfit⟩ := hE.fit j hjn; have hF := hfit j e he; have hz := HZ.out e (List.mem_of_getElem? he); obtain ⟨sE, hall⟩ : ∃ sE, yA6 ck0 es = some sE := Option.isSome_iff_exists.1 HBG.out
           obtain ⟨fs', hfs'⟩ := je ((yAA nd (stp s e).dn fs e).1); obtain ⟨ex', hex'⟩ := je ((yAA nd (stp s e).dn fs e).2); obtain ⟨s', hs'⟩ := je (stp s e); obtain ⟨aa, an, ac, hc4, hA⟩ := hF.c4; have hlow := hR.low; have hAe := hA.below hlow; have hale := hA.len; have hacm := hA.cap_le; have hacl := hA.le; obtain ⟨hbl, c0, c1, c2, c3, _, c5, c6, c7⟩ := hF; have hbs : b < we.heap.size := jt hbl hlow.size; have hc : ∀ x, we.cell? ⟨b, x, none⟩ = WZ.cell? ⟨b, x, none⟩ := fun x => hlow.cell (p := ⟨b, x, none⟩) hbl
           have y0 := (hc _).trans c0; have y1 := (hc _).trans c1; have y2 := (hc _).trans c2; have y3 := (hc _).trans c3; have y4 := (hc _).trans hc4; have y5 := (hc _).trans c5; have y6 := (hc _).trans c6; have y7 := (hc _).trans c7; have hecle := hE.le; have heccl := hE.cap_le; have hie : j + 1 ≤ ec := by omega
           have hie' : (j : Int) + 1 ≤ ec := by omega
           have hi0 : (0 : Int) ≤ (j : Int) + 1 := by omega
           have hecm : ec ≤ 9223372036854775807 := by unfold maxLen at heccl; omega
           have f9 : IntKind.i64.wrap ((j : Int) + 1) = (j : Int) + 1 := IntWalk.i64_in _ (by omega); have HRR := jh hR; have HE40 : Hid (es.length ≤ 4000 ∧ j + 1 ≤ es.length) := jh ⟨by have := HLEN.out; omega, by rw [hE.len]; exact hjn⟩; have HNEWS : Hid (∀ W, Below we.heap.size we W → (aa = none ∧ an = 0) ∨ ∃ ad, aa = some ad ∧ ∀ x u, (cAt e.ats)[x]? = some u → W.cell? (ad.add x) = some u) := jh fun W h => yTX (hAe.below h)
           have HTK : Hid (∀ wD : World, ∀ ga capA BX : Nat, yBn WZ.heap.size WZ wD (fun b => b = BX ∨ b = ga) wD H2 nd es j s fs ex → yAO wD e.ats (some ⟨ga, 0, none⟩) an capA → Calls Tryz.prog 13 #[.pointer (some ⟨H2, 0, none⟩), .agg #[.int .i64 e.kd, .int .i64 e.num, .int .i64 e.dep, .string e.nm, .slice (some ⟨ga, 0, none⟩) an capA, .string e.tx, .int .i64 e.fr, .int .i64 e.tu]] wD fun r w' => r = .returned (.int .i64 0) ∧ yBn WZ.heap.size WZ wD (fun b => b = BX ∨ b = ga) w' H2 nd es (j + 1) s' fs' ex') := jh fun wD ga capA BX h hA => by
            have := h.takeK HOKN.out HNF.out HTZ.out rfl he hall hz (by have := HLEN.out; omega) (some ⟨ga, 0, none⟩) an capA hA (fun _ b2 o2 hb2 => by injection hb2 with hb2; injection hb2 with hb2; exact .inr (.inr hb2.symm)); rw [hfs', hex', hs'] at this; exact this
           have HRT : Hid (∀ (wK : World) (K : Nat → Prop) (W : World), yBn WZ.heap.size WZ wK K W H2 nd es (j + 1) s' fs' ex' → Calls Tryz.prog 12 #[.pointer (some ⟨H2, 0, none⟩), .agg #[.int .i64 mn, .slice ra i rc, .slice pa' q pc'], .slice la q lc, .slice (some ⟨b, o, none⟩) (j + 1) ec] W fun r w' => r = .returned (.bool true) ∧ yBn WZ.heap.size WZ wK K w' H2 nd es (j + 1) s' fs' ex') := jh fun wK K W h =>
            h.right HOKN.out HNF.out rfl (by rw [hE.len]; exact hjn) (by have := HLEN.out; omega) HBX.out HZ.out (yC4.take hE hjn) HFZ.out HNP.out HXS.out (.int .i64 mn) ra i rc pa' pc'
           have HAL : Hid ((cAt e.ats).length = an * 2 ∧ an ≤ 1099511627776) := jh ⟨by rw [yTY, hale], by have := hz.al; omega⟩; have HALE := jh hale; obtain ⟨BX, hBX⟩ := je (we.heap.size); obtain ⟨wB, hwB⟩ := je (we.alloc (.cells #[.int .i64 e.kd, .int .i64 e.num, .int .i64 e.dep, .string e.nm, .slice aa an ac, .string e.tx, .int .i64 e.fr, .int .i64 e.tu] 45)); have hXB : wB.heap[BX]? = some (.cells #[.int .i64 e.kd, .int .i64 e.num, .int .i64 e.dep, .string e.nm, .slice aa an ac, .string e.tx, .int .i64 e.fr, .int .i64 e.tu] 45) := by rw [← hwB, ← hBX]; exact jw _ _
           have hbB : Below we.heap.size we wB := by rw [← hwB]; exact (jf _ _).alloc (jr _) _
           have hsB : BX < wB.heap.size := jl hXB; have hbsB : b < wB.heap.size := jt hbs hbB.size; have hcB : ∀ x, wB.cell? ⟨b, x, none⟩ = we.cell? ⟨b, x, none⟩ := fun x => hbB.cell (p := ⟨b, x, none⟩) hbs
           have Y4 := (hcB _).trans y4; have HWB := jh hwB; have HXB := jh hXB; have HBB := jh hbB; have HSB := jh hsB; have HBX := jh hBX; clear hE he hfit hz hall hfs' hs' hex' hA hAe hale hacm hacl hlow hc hc4 c0 c1 c2 c3 c5 c6 c7 hR hwB hXB hbB hcB hsB hBX; go_upto_region 31 with fail; rw [HBX.out, HWB.out]; clear y0 y1 y2 y3 y4 y5 y6 y7; have n0 : (IntKind.i64.wrap 0) = 0 := rfl; go_upto_region 32 with (at_builtin; refine yTU _ rfl (.tmp 151) (.tmp 156) 43 61 rfl _ 2 32 yT0 Tryz.underlying43 rfl (by decide) (by decide) wB.heap.size _ 0 _ [] rfl (yIq (by simp) (jw _ _)) _ an _ (cAt e.ats) HAL.out.1 (yT3 _) rfl (HNEWS.out _ (HBB.out.alloc HBB.out.size _)) an (cAt e.ats) (Nat.zero_add _) rfl HAL.out.2 (by simp) ?_; intro ga capA w2 ownA growA; have hb2 : Below wB.heap.size wB w2 := yJd ((jf _ _).alloc (jr _) _) (jr _) growA; have hX2 := (hb2.block BX HSB.out).trans HXB.out; have x4 : w2.cell? ⟨BX, 4, none⟩ = some (.slice aa an ac) := (by simp [World.cell?, hX2]); have zx4 : w2.frozen? ⟨BX, 4, none⟩ = false := (by simp [World.frozen?, hX2]); have HOWN := jh ownA; have HB2 := jh hb2; have HX2B := jh hX2; clear ownA growA hb2 hX2); obtain ⟨wD, hwD⟩ := je (w2.setCell ⟨BX, 4, none⟩ (.slice (some ⟨ga, 0, none⟩) an capA)); rw [hwD]; have hga := (World.ownsRow.lt HOWN.out ga rfl)
           have hne : ga ≠ BX := by have := HSB.out; omega
           have hXD : wD.heap[BX]? = some (.cells #[.int .i64 e.kd, .int .i64 e.num, .int .i64 e.dep, .string e.nm, .slice (some ⟨ga, 0, none⟩) an capA, .string e.tx, .int .i64 e.fr, .int .i64 e.tu] 45) := by rw [← hwD]; exact yAu HX2B.out _
           have hoD : wD.ownsRow wB.heap.size 61 2 (.slice (some ⟨ga, 0, none⟩) an capA) an (cAt e.ats) := yAa HOWN.out fun g hg => by injection hg with hg; rw [← hwD]; exact js _ _ _ g (by rw [← hg]; exact hne)
           have hbD : Below we.heap.size we wD := by rw [← hwD]; exact (HBB.out.trans (HB2.out.mono HBB.out.size)).setCell (p := ⟨BX, 4, none⟩) (by rw [HBX.out]; exact jr _) _
           have hsD : w2.heap.size = wD.heap.size := by rw [← hwD, jv]
           have hRD : yBn WZ.heap.size WZ wD (fun b => b = BX ∨ b = ga) wD H2 nd es j s fs ex := HRR.out.more hbD fun b2 hb2 => by
            rcases hb2 with rfl | rfl
            ·exact .inr ⟨by rw [HBX.out]; exact jr _, by rw [← hsD]; exact jt HSB.out HB2.out.size⟩
            ·exact .inr ⟨ju HBB.out.size hga.1, by rw [← hsD]; exact hga.2⟩
           have HTD := jh (HTK.out wD ga capA BX hRD (yTZ hoD HALE.out)); have q0 := jc hXD 0 rfl; have q1 := jc hXD 1 rfl; have q2 := jc hXD 2 rfl; have q3 := jc hXD 3 rfl; have q4 := jc hXD 4 rfl; have q5 := jc hXD 5 rfl; have q6 := jc hXD 6 rfl; have q7 := jc hXD 7 rfl; have HXD := jh hXD; have HOD := jh hoD; have HGA : Hid (WZ.heap.size ≤ ga ∧ ga ≠ BX) := jh ⟨ju HRR.out.low.size (ju HBB.out.size hga.1), hne⟩; clear hwD hXD hoD hbD hsD hRD hga hne x4 zx4 Y4; go_wp2_with fail; refine HTD.out.mono ?_; rintro r w4 ⟨rfl, hR4⟩; have hX4 := (hR4.kp (b := BX) (.inl rfl)).trans HXD.out; have hO4 : w4.ownsRow wB.heap.size 61 2 (.slice (some ⟨ga, 0, none⟩) an capA) an (cAt e.ats) := yAa HOD.out fun g hg => by injection hg with hg; exact hR4.kp (.inr hg.symm)
           have HR4 := jh hR4; have HX4 := jh hX4; have HO4 := jh hO4; have x4 := jc hX4 4 rfl; clear q0 q1 q2 q3 q4 q5 q6 q7 HTD hR4 hX4 hO4; go_wp2_with fail; clear x4; go_loopw [22] (fun v wr => ∃ (k : Nat) (l' : List Value) (wK : World), v = .int .i64 k ∧ k ≤ an ∧ wr.ownsRow wB.heap.size 61 2 (.slice (some ⟨ga, 0, none⟩) an capA) an l' ∧ wr.heap[BX]? = some (.cells #[.int .i64 e.kd, .int .i64 e.num, .int .i64 e.dep, .string e.nm, .slice (some ⟨ga, 0, none⟩) an capA, .string e.tx, .int .i64 e.fr, .int .i64 e.tu] 45) ∧ yBn WZ.heap.size WZ wK (fun b => b = BX ∨ b = ga) wr H2 nd es (j + 1) s' fs' ex') (fun v _ => an - (intOf v).toNat)
           case atStart => exact ⟨0, _, _, rfl, jz _, HO4.out, HX4.out, HR4.out⟩
           case round =>
            obtain ⟨k, l', wK2, rfl, hk, hO, hX, hR⟩ := hrel; have x4 := jc hX 4 rfl; have HO := jh hO; have HX := jh hX; have HR := jh hR; by_cases hkn : k < an
            ·have hkn' : (k : Int) < an := by omega
             have z0 := yTL hO rfl (k * 2); have z1 := yTL hO rfl (k * 2 + 1); have hl' : l'.length = an * 2 := hO.1; obtain ⟨e0, d0⟩ : ∃ u, wr.cell? ⟨ga, k * 2, none⟩ = some u := ⟨_, yAq hO (jk (show k * 2 < l'.length by omega))⟩
             obtain ⟨e1, d1⟩ : ∃ u, wr.cell? ⟨ga, k * 2 + 1, none⟩ = some u := ⟨_, yAq hO (jk (show k * 2 + 1 < l'.length by omega))⟩
             have f8 : IntKind.i64.wrap ((k : Int) + 1) = (k : Int) + 1 := IntWalk.i64_in _ (by have := HAL.out.2; omega); have HN1 := jh (yEL (yEL hO (k * 2) (.string ⟨#[115, 112, 111, 105, 108, 116]⟩)) (k * 2 + 1) (.string ByteArray.empty)); have HN2 := jh (hR.written (((Fr.refl (fun b => b = ga) wr).set ga (k * 2) (.string ⟨#[115, 112, 111, 105, 108, 116]⟩) rfl).set ga (k * 2 + 1) (.string ByteArray.empty) rfl) fun b hb => ⟨.inr hb, by rw [hb]; exact HGA.out.1⟩); have HN3 : Hid (((wr.setCell ⟨ga, k * 2, none⟩ (.string ⟨#[115, 112, 111, 105, 108, 116]⟩)).setCell ⟨ga, k * 2 + 1, none⟩ (.string ByteArray.empty)).heap[BX]? = some (.cells #[.int .i64 e.kd, .int .i64 e.num, .int .i64 e.dep, .string e.nm, .slice (some ⟨ga, 0, none⟩) an capA, .string e.tx, .int .i64 e.fr, .int .i64 e.tu] 45)) := jh (by rw [js _ _ _ BX (Ne.symm HGA.out.2), js _ _ _ BX (Ne.symm HGA.out.2)]; exact hX); clear hO hX hR hl'; go_wp2_with fail; go_roundw
             case rel => exact ⟨k + 1, _, _, by go_num, hkn, HN1.out, HN3.out, HN2.out⟩
             case measure => simp [intOf]; omega
            ·obtain rfl : k = an := by omega
             have HNN : Hid (∀ (K : Nat → Prop) (wK W : World), yBn WZ.heap.size WZ wK K W H2 nd es (j + 1) s' fs' ex' → W.cell? ⟨NB, 0, none⟩ = some (.int .i64 mn) ∧ W.cell? ⟨NB, 1, none⟩ = some (.slice ra i rc) ∧ W.cell? ⟨NB, 2, none⟩ = some (.slice pa' q pc')) := jh fun K wK W h => by have hn := (h.low.block NB HNZ.out).trans HXZ.out; exact ⟨by simp [World.cell?, hn], by simp [World.cell?, hn], by simp [World.cell?, hn]⟩
             obtain ⟨m0, m1, m2⟩ := HNN.out _ _ _ hR; clear hO hX; rcases (show j % 2 = 0 ∨ j % 2 = 1 by omega) with hj2 | hj2
             ·have fr : (j : Int).tmod 2 = 0 := by rw [show (2 : Int) = ((2 : Nat) : Int) from rfl, ← Int.ofNat_tmod]; omega
              clear hR hj2; go_upto_region 38 with fail; go_region_held3 (fun W => W.cell? ⟨NB, 0, none⟩ = some (.int .i64 mn) ∧ W.cell? ⟨NB, 1, none⟩ = some (.slice ra i rc) ∧ W.cell? ⟨NB, 2, none⟩ = some (.slice pa' q pc')) (first | go_keep | exact ⟨by assumption, by assumption, by assumption⟩) ((go_at_call 12; refine (HRT.out _ _ _ (by first | exact HR.out | exact HR.out.below ((jf _ _).drew))).mono ?_; rintro r w6 ⟨rfl, hR6⟩; obtain ⟨k0, k1, k2⟩ := HNN.out _ _ _ hR6; have HR6 := jh hR6; clear hR6))
              all_goals
               go_wp2_with fail; go_roundw
               case rel => exact ⟨j + 1, _, _, _, _, by go_num, hjn, HR6.out.more (jf _ _) fun b hb => hb.elim⟩
               case measure => simp [intOf]; omega
             ·have fr : (j : Int).tmod 2 = 1 := by rw [show (2 : Int) = ((2 : Nat) : Int) from rfl, ← Int.ofNat_tmod]; omega
              clear hR hj2; go_upto_region 38 with fail; go_region
              all_goals
               go_wp2_with fail; go_roundw
               case rel => exact ⟨j + 1, _, _, _, _, by go_num, hjn, HR.out.more (by first | exact jf _ _ | exact (jf _ _).drew) fun b hb => hb.elim⟩
               case measure => simp [intOf]; omega
          ·obtain rfl : j = en := by omega
           have hn := (hR.low.block NB HNZ.out).trans HXZ.out; have m0 := jc hn 0 rfl; have m1 := jc hn 1 rfl; have m2 := jc hn 2 rfl; have HRG : Hid (Calls Tryz.prog 12 #[.pointer (some ⟨H2, 0, none⟩), .agg #[.int .i64 mn, .slice ra i rc, .slice pa' q pc'], .slice la q lc, .slice ea j ec] we fun r w' => r = .returned (.bool true) ∧ yBn WZ.heap.size WZ wK (fun _ => False) w' H2 nd es j s fs ex) := jh (hR.right HOKN.out HNF.out rfl (by rw [HE1.out.len]; exact jr _) (by have := HLEN.out; omega) HBX.out HZ.out (by have := yC4.take HEZ.out (jr j); exact this) HFZ.out HNP.out HXS.out (.int .i64 mn) ra i rc pa' pc'); have HKH : Hid (∀ W, yBn WZ.heap.size WZ wK (fun _ => False) W H2 nd es j s fs ex → W.cell? ⟨NB, 0, none⟩ = some (.int .i64 mn) ∧ W.cell? ⟨NB, 1, none⟩ = some (.slice ra i rc) ∧ W.cell? ⟨NB, 2, none⟩ = some (.slice pa' q pc') ∧ Below w7.heap.size w7 W) := jh fun W h => by have hn := (h.low.block NB HNZ.out).trans HXZ.out; exact ⟨by simp [World.cell?, hn], by simp [World.cell?, hn], by simp [World.cell?, hn], HB7Z.out.trans (h.low.mono HB7Z.out.size)⟩
           clear hR hn; go_wp2_with fail; refine HRG.out.mono ?_; rintro r w6 ⟨rfl, hR6⟩; obtain ⟨k0, k1, k2, hB76⟩ := HKH.out _ hR6; have HR6 := jh hR6; have HRF := jh ((HRH.out.below hB76).right (ea := none) (en := 0) (ec := 0) HOKN.out HNF.out rfl (jz _) (by simp) (fun e he => by cases he) (fun e he => by cases he) ⟨rfl, jr _, jz _, fun _ hj => absurd hj (Nat.not_lt_zero _)⟩ HFX.out HNP.out HXS.out (.int .i64 mn) ra i rc pa' pc'); clear hR6 hB76; go_wp2_with fail; refine HRF.out.mono ?_; rintro r w9' ⟨rfl, hR9⟩; have HR9 := jh hR9; clear hR9; go_wp2_with fail; go_ret; exact ⟨rfl, HBW.out _ (HB0.out.trans (HR9.out.low.mono HB0.out.size))⟩
  ·have f1 : 40 < en := by omega
   have f2 : (40 : Int) < (en : Int) := by omega
   go_wp2_with fail; go_ret; exact ⟨rfl, HBW.out _ HB4.out⟩
end Go.Proofs.YtkhejkfjhddobaaGreatDoor
