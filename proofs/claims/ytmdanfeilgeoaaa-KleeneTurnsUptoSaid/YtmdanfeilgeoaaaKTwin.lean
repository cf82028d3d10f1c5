/- gimletlaw14.twin: a formula once more, in memory of the call's own. -/
import Derived.Test.YtmdanfeilgeoaaaKTree2
import Derived.Test.YtmdanfeilgeoaaaKRow
import Derived.Maps.AppendAt
import Derived.Lib.SmallJoins
import Derived.Deep.CutRange
import Derived.Deep.CutBlock
namespace Gim
open Go Go.RowKit
/-- the blocks from lo to hi stay -/
def Keeps (lo hi : Nat) (W W2 : World) : Prop := W.heap.size ≤ W2.heap.size ∧ ∀ j, lo ≤ j → j < hi → W2.heap[j]? = W.heap[j]?
theorem Keeps.refl (lo hi : Nat) (W : World) : Keeps lo hi W W := ⟨Nat.le_refl _, fun _ _ _ => rfl⟩
theorem Keeps.trans {lo hi : Nat} {A B C : World} (h : Keeps lo hi A B) (k : Keeps lo hi B C) : Keeps lo hi A C := ⟨Nat.le_trans h.1 k.1, fun j h1 h2 => (k.2 j h1 h2).trans (h.2 j h1 h2)⟩
theorem Keeps.of_below {lo hi : Nat} {A B : World} (h : Below A.heap.size A B) (ht : hi ≤ A.heap.size) : Keeps lo hi A B := ⟨h.size, fun j _ h2 => h.block j (by omega)⟩
theorem Keeps.of_grown {lo hi : Nat} {A B : World} {g : Option Nat} (h : A.grownBy B g) (ht : hi ≤ A.heap.size) (hg : ∀ j, g = some j → j < lo ∨ hi ≤ j) : Keeps lo hi A B :=
  ⟨h.size, fun j h1 h2 => h.block j (by omega) (fun e => by have := hg j e.symm; omega)⟩
theorem Keeps.mono {lo hi lo2 hi2 : Nat} {A B : World} (h : Keeps lo hi A B) (h1 : lo ≤ lo2) (h2 : hi2 ≤ hi) : Keeps lo2 hi2 A B := ⟨h.1, fun j a b => h.2 j (by omega) (by omega)⟩
/-- the slice holds the formulas, in blocks from lo to hi alone -/
structure FitR (lo hi : Nat) (W : World) (gs : List Fm) (a : Option Addr) (n cap : Nat) : Prop where
  top : hi ≤ W.heap.size
  fit : ∀ W2, Keeps lo hi W W2 → FitS W2 gs a n cap
theorem FitR.keeps {lo hi : Nat} {W W2 : World} {gs : List Fm} {a : Option Addr} {n cap : Nat} (h : FitR lo hi W gs a n cap) (k : Keeps lo hi W W2) : FitR lo hi W2 gs a n cap := ⟨Nat.le_trans h.top k.1, fun W3 h3 => h.fit W3 (k.trans h3)⟩
theorem FitR.mono {lo hi lo2 hi2 : Nat} {W : World} {gs : List Fm} {a : Option Addr} {n cap : Nat} (h : FitR lo hi W gs a n cap) (h1 : lo2 ≤ lo) (h2 : hi ≤ hi2) (h3 : hi2 ≤ W.heap.size) : FitR lo2 hi2 W gs a n cap := ⟨h3, fun W2 k => h.fit W2 (k.mono h1 h2)⟩
theorem FitR.here {lo hi : Nat} {W : World} {gs : List Fm} {a : Option Addr} {n cap : Nat} (h : FitR lo hi W gs a n cap) : FitS W gs a n cap := h.fit W (Keeps.refl _ _ _)
/-- four cells stand for a formula whose parts lie in blocks from N on, none of them g -/
def Tw (N : Nat) (W : World) (g : Option Nat) (c : Int × Int × Int × (Option Addr × Nat × Nat)) (f : Fm) : Prop :=
  ∃ gs lo hi, f = .mk c.1 c.2.1 c.2.2.1 gs ∧ N ≤ lo ∧ FitR lo hi W gs c.2.2.2.1 c.2.2.2.2.1 c.2.2.2.2.2 ∧ ∀ j, g = some j → j < lo ∨ hi ≤ j
structure TwL (N : Nat) (W : World) (g : Option Nat) (cs : List (Int × Int × Int × (Option Addr × Nat × Nat))) (fs : List Fm) : Prop where
  len : cs.length = fs.length
  each : ∀ (i : Nat) (c : Int × Int × Int × (Option Addr × Nat × Nat)) (f : Fm), cs[i]? = some c → fs[i]? = some f → Tw N W g c f
theorem TwL.nil (N : Nat) (W : World) (g : Option Nat) : TwL N W g [] [] := ⟨rfl, fun i c f h => by simp at h⟩
theorem TwL.below {N : Nat} {W W2 : World} {g : Option Nat} {cs : List (Int × Int × Int × (Option Addr × Nat × Nat))} {fs : List Fm} (h : TwL N W g cs fs) (hb : Below W.heap.size W W2) : TwL N W2 g cs fs :=
  ⟨h.len, fun i c f h1 h2 => by
    obtain ⟨gs, lo, hi, e, hN, hF, hg⟩ := h.each i c f h1 h2
    exact ⟨gs, lo, hi, e, hN, hF.keeps (Keeps.of_below hb hF.top), hg⟩⟩
theorem TwL.grown {N : Nat} {W W2 : World} {g g2 : Option Nat} {cs : List (Int × Int × Int × (Option Addr × Nat × Nat))} {fs : List Fm} (h : TwL N W g cs fs) (hb : W.grownBy W2 g) (hg2 : g2 = g ∨ ∃ j, g2 = some j ∧ W.heap.size ≤ j) : TwL N W2 g2 cs fs :=
  ⟨h.len, fun i c f h1 h2 => by
    obtain ⟨gs, lo, hi, e, hN, hF, hg⟩ := h.each i c f h1 h2
    refine ⟨gs, lo, hi, e, hN, hF.keeps (Keeps.of_grown hb hF.top hg), fun j hj => ?_⟩
    rcases hg2 with rfl | ⟨j2, rfl, hj2⟩
    · exact hg j hj
    · have := Option.some.inj hj
      have := hF.top
      omega⟩
theorem TwL.snoc {N : Nat} {W : World} {g : Option Nat} {cs : List (Int × Int × Int × (Option Addr × Nat × Nat))} {fs : List Fm} {c : Int × Int × Int × (Option Addr × Nat × Nat)} {f : Fm} (h : TwL N W g cs fs) (k : Tw N W g c f) : TwL N W g (cs ++ [c]) (fs ++ [f]) :=
  ⟨by simp [h.len], fun i c2 f2 h1 h2 => by
    by_cases hi : i < cs.length
    · rw [List.getElem?_append_left hi] at h1
      rw [List.getElem?_append_left (by rw [← h.len]; exact hi)] at h2
      exact h.each i c2 f2 h1 h2
    · rw [List.getElem?_append_right (by omega)] at h1
      rw [List.getElem?_append_right (by rw [← h.len]; omega), ← h.len] at h2
      obtain ⟨m, hm⟩ : ∃ m, i - cs.length = m := ⟨_, rfl⟩
      rw [hm] at h1 h2
      cases m with
      | zero => simp at h1 h2; rw [← h1, ← h2]; exact k
      | succ m => simp at h1⟩
theorem fitL_of {W : World} {b : Nat} : ∀ (gs : List Fm) (o : Nat), (∀ (i : Nat) (f : Fm), gs[i]? = some f → FitA W f b (o + i * 4)) → FitL W gs b o
  | [], _, _ => by unfold FitL; trivial
  | f :: r, o, h => by
    unfold FitL
    refine ⟨by simpa using h 0 f rfl, fitL_of r (o + 4) fun i f2 hi => ?_⟩
    have := h (i + 1) f2 (by simpa using hi)
    rw [show o + 4 + i * 4 = o + (i + 1) * 4 by omega]
    exact this
theorem grownBy_setAt (w : World) (g o : Nat) (v : Value) : w.grownBy (w.setCell ⟨g, o, none⟩ v) (some g) := by
  refine ⟨rfl, rfl, rfl, by simp [World.setCell], fun j _ hne => ?_⟩
  have hne' : g ≠ j := fun e => hne (by rw [e])
  simp only [World.setCell, Array.getElem?_modify]
  rw [if_neg hne']
end Gim
namespace Go.Proofs.Ytmdanfeilgeoaaa
open Go.RowKit Gim Go.Sort
theorem fitR_of_row {W : World} {N : Nat} {v : Value} {cs : List N4} {gs : List Fm} (h : Row4 W N v cs) (k : TwL N W v.ownBlock cs gs) : ∃ a cap, v = .slice a gs.length cap ∧ FitR N W.heap.size W gs a gs.length cap := by
  rcases h.2 with ⟨rfl, h0⟩ | ⟨g, cap, cur, rfl, hb, hg, hn, hc, hs, ht⟩
  · have hl : gs.length = 0 := by rw [← k.len]; exact h0
    have hz : gs = [] := List.eq_nil_of_length_eq_zero hl
    subst hz
    exact ⟨none, 0, rfl, Nat.le_refl _, fun W2 _ => ⟨rfl, Nat.le_refl _, Nat.zero_le _, fun j hj => absurd hj (Nat.not_lt_zero _)⟩⟩
  · have hl := k.len
    refine ⟨some ⟨g, 0, none⟩, cap, by rw [hl], Nat.le_refl _, fun W2 hk => ⟨rfl, by rw [← hl]; exact hn, hc, fun j hj => ⟨g, 0, rfl, fitL_of gs 0 fun i f hi => ?_⟩⟩⟩
    have hgl := (Array.getElem?_eq_some_iff.1 hg).1
    have hgk := hk.2 g hb hgl
    have hic : i < cs.length := by rw [hl]; exact (List.getElem?_eq_some_iff.1 hi).1
    obtain ⟨c, hcc⟩ : ∃ c, cs[i]? = some c := ⟨_, List.getElem?_eq_getElem hic⟩
    obtain ⟨hs2, lo, hi2, e, hN, hF, _⟩ := k.each i c f hcc hi
    have hcell : ∀ m u, m < 4 → (cell4 c)[m]? = some u → W2.cell? ⟨g, 0 + i * 4 + m, none⟩ = some u := fun m u hm hu => by
      have h0 := World.ownsRow.cells (g := g) h rfl (i * 4 + m) u ((cells4_get hcc m hm).trans hu)
      rw [Addr.add_lit] at h0
      rw [show 0 + i * 4 + m = 0 + (i * 4 + m) by omega]
      unfold World.cell? at h0 ⊢
      rw [hgk]
      exact h0
    have hFS := hF.fit W2 (hk.mono hN hF.top)
    rw [e]
    unfold FitA
    exact ⟨Nat.lt_of_lt_of_le hgl hk.1, hcell 0 _ (by omega) rfl, hcell 1 _ (by omega) rfl, hcell 2 _ (by omega) rfl, _, _, _, hcell 3 _ (by omega) rfl, hFS.len, hFS.le, hFS.cap_le, hFS.fit⟩
/-- 'append(args, a)' of one formula; where the new slice lies -/
theorem append4_at (w : World) {ops : Array Oper} {rest : List Oper} {o : Oper} {a : Act} {Q : Exit → Act → World → Prop} (hg : o.guard = none) (s x : Operand)
    (ho : o.op = .call { callee := .builtin .append, args := #[s, x], argTypes := #[24, 24] }) (B : Nat)
    (v : Value) (cs : List N4) (hs : a.eval s = v) (hrow : Row4 w B v cs) (c : N4) (hx : a.eval x = .slice (some ⟨w.heap.size, 0, none⟩) 1 1)
    (hlen : cs.length < 1099511627776) (hB : B ≤ w.heap.size)
    (hK : ∀ v' w', Row4 w' B v' (cs ++ [c]) → w.grownBy w' v.ownBlock → (v'.ownBlock = v.ownBlock ∨ ∃ j, v'.ownBlock = some j ∧ w.heap.size ≤ j) → wpList Try.prog ops Q rest (a.put o.dst v') w') :
    wpList Try.prog ops Q (o :: rest) a (w.alloc (.cells (cell4 c).toArray 26)) := by
  obtain ⟨i0, hi, hz0, hz1, hz2⟩ := info_parts info_form
  refine wpList_append_own_at _ hg s x 24 ho B 26 i0 _ 4 48 Try.underlying24 hi hz0 hz1 hz2 rfl (by decide) v cs.length (cells4 cs) hs (World.ownsRow.alloc hrow _) ⟨w.heap.size, 0, none⟩ 1 1 (cell4 c) hx rfl (four_new _ _ _)
      (fun x hx => cells4_one [c] x (by simpa [cells4] using hx)) (by unfold maxLen; omega) (by omega) (by simp; omega) ?_
  intro v' w' h1 h2 _ h5
  refine hK v' w' ?_ ?_ ?_
  · unfold Row4
    rw [List.length_append, cells4_app, show cells4 [c] = cell4 c from by simp [cells4]]
    exact h1
  · have h3 := World.grownBy_alloc w (.cells (cell4 c).toArray 26) v.ownBlock
    exact ⟨h2.os.trans h3.os, h2.tape.trans h3.tape, h2.output.trans h3.output, Nat.le_trans h3.size h2.size,
      fun j hj hne => (h2.block j (Nat.lt_of_lt_of_le hj h3.size) hne).trans (h3.block j hj hne)⟩
  · rcases h5 with h5 | h5
    · exact .inl h5
    · exact .inr ⟨_, h5, by simp⟩
set_option maxRecDepth 100000 in
set_option maxHeartbeats 8000000 in
theorem twin_calls : ∀ (k : Nat) (op v x : Int) (gs : List Fm) (a : Option Addr) (n cap : Nat) (w : World), SizeOf.sizeOf (Fm.mk op v x gs) ≤ k → FitS w gs a n cap → szF (.mk op v x gs) ≤ 549755813888 →
    Calls Try.prog 10 #[.agg #[.int .i64 op, .int .i64 v, .int .i64 x, .slice a n cap]] w fun e w' => ∃ a' cap', e = .returned (.agg #[.int .i64 op, .int .i64 v, .int .i64 x, .slice a' n cap']) ∧ FitR w.heap.size w'.heap.size w' gs a' n cap' ∧ Below w.heap.size w w' := by
  intro k
  induction k with
  | zero => intro op v x gs a n cap w hk; exact absurd hk (by simp)
  | succ k ih =>
  intro op v x gs a n cap w hk hF hsz
  have hcm := hF.cap_le
  have hle := hF.le
  have hnb : n ≤ 9223372036854775807 := by unfold maxLen at hcm; omega
  have HL := Lib.hid hF.len
  have HK := Lib.hid hk
  have IH := Lib.hid ih
  have HSZ := Lib.hid (show szL gs ≤ 549755813888 by unfold szF at hsz; omega)
  have hbx : ((w.alloc (.cells #[.int .i64 op, .int .i64 v, .int .i64 x, .slice a n cap] 26)).alloc (.cells #[.int .i64 0, .int .i64 0, .int .i64 0, .slice none 0 0] 26)).heap[w.heap.size]? = some (.cells #[.int .i64 op, .int .i64 v, .int .i64 x, .slice a n cap] 26) := (heap_alloc_old _ _ (by simp)).trans (heap_alloc_new _ _)
  have hbr : ((w.alloc (.cells #[.int .i64 op, .int .i64 v, .int .i64 x, .slice a n cap] 26)).alloc (.cells #[.int .i64 0, .int .i64 0, .int .i64 0, .slice none 0 0] 26)).heap[w.heap.size + 1]? = some (.cells #[.int .i64 0, .int .i64 0, .int .i64 0, .slice none 0 0] 26) := by
    have := heap_alloc_new (w.alloc (.cells #[.int .i64 op, .int .i64 v, .int .i64 x, .slice a n cap] 26)) (.cells #[.int .i64 0, .int .i64 0, .int .i64 0, .slice none 0 0] 26)
    rw [World.size_alloc] at this
    exact this
  have hb0 : Below w.heap.size w ((w.alloc (.cells #[.int .i64 op, .int .i64 v, .int .i64 x, .slice a n cap] 26)).alloc (.cells #[.int .i64 0, .int .i64 0, .int .i64 0, .slice none 0 0] 26)) := ((Below.refl _ _).alloc (Nat.le_refl _) _).alloc (by simp) _
  have hs0 : ((w.alloc (.cells #[.int .i64 op, .int .i64 v, .int .i64 x, .slice a n cap] 26)).alloc (.cells #[.int .i64 0, .int .i64 0, .int .i64 0, .slice none 0 0] 26)).heap.size = w.heap.size + 2 := by simp
  obtain ⟨W1, hW1⟩ : ∃ W1, (w.alloc (.cells #[.int .i64 op, .int .i64 v, .int .i64 x, .slice a n cap] 26)).alloc (.cells #[.int .i64 0, .int .i64 0, .int .i64 0, .slice none 0 0] 26) = W1 := ⟨_, rfl⟩
  rw [hW1] at hbx hbr hb0 hs0
  have HF := Lib.hid (hF.below hb0)
  clear hF hk ih hsz
  go_enter Try.func10, Try.ntmps10
  go_upto_region 1 with fail
  try rw [hW1]
  clear hW1
  obtain ⟨B, hB⟩ : ∃ B, w.heap.size = B := ⟨_, rfl⟩
  have HBN := Lib.hid hB
  rw [hB] at hbx hbr hs0 ⊢
  clear hB
  have c3 : W1.cell? ⟨B, 3, none⟩ = some (.slice a n cap) := by simp [World.cell?, hbx]
  have HBX := Lib.hid hbx
  have HBR := Lib.hid hbr
  have HB0 := Lib.hid hb0
  have HS0 := Lib.hid hs0
  clear hbx hbr hb0 hs0
  go_wp2_with fail
  go_loopw [3, 9] (fun vv i wr => ∃ (q : Nat) (cs : List N4), i = .int .i64 q ∧ q ≤ n ∧ Row4 wr W1.heap.size vv cs ∧ TwL W1.heap.size wr vv.ownBlock cs (gs.take q) ∧ Below W1.heap.size W1 wr) (fun _ i _ => n - (RowKit.intOf i).toNat)
  case atStart => exact ⟨0, [], rfl, Nat.zero_le _, Row4.nil _ _, TwL.nil _ _ _, Below.refl _ _⟩
  case round =>
    obtain ⟨q, cs, rfl, hq, hr, ht, hbr⟩ := hrel
    by_cases hqn : q < n
    · have hqn' : (q : Int) < n := by omega
      obtain ⟨b, o, op2, v2, x2, bs, a2, n2, cap2, rfl, hb, hel, d0, d1, d2, d3, hF2⟩ := (HF.out.below hbr).elem q hqn
      have hsm := mem_small (op := op) (v := v) (x := x) hel
      have hNX := take_next hel
      have hbd := szL_take_le gs (q + 1)
      rw [hNX, szL_app] at hbd
      have hg2 : Below wr.heap.size wr (wr.alloc (.cells #[.int .i64 op2, .int .i64 v2, .int .i64 x2, .slice a2 n2 cap2] 26)) := (Below.refl _ _).alloc (Nat.le_refl _) _
      have hC := IH.out op2 v2 x2 bs a2 n2 cap2 _ (by have := HK.out; omega) (hF2.below hg2) (by have := HSZ.out; simp only [szL] at hbd; omega)
      have hlc : cs.length < 1099511627776 := by
        have h1 := ht.len
        have h2 := fm_len (gs.take q)
        have := HSZ.out
        omega
      have HNX := Lib.hid hNX
      have HR := Lib.hid (hr.stays hg2)
      have HT := Lib.hid (ht.below hg2)
      have HBR2 := Lib.hid (hbr.trans (hg2.mono hbr.size))
      have hszA : W1.heap.size ≤ (wr.alloc (.cells #[.int .i64 op2, .int .i64 v2, .int .i64 x2, .slice a2 n2 cap2] 26)).heap.size := by rw [World.size_alloc]; have := hbr.size; omega
      clear hel hsm hNX hbd hg2 hF2 hr ht hbr
      go_wp2_with fail
      obtain ⟨wA, hwA⟩ : ∃ wA, wr.alloc (.cells #[.int .i64 op2, .int .i64 v2, .int .i64 x2, .slice a2 n2 cap2] 26) = wA := ⟨_, rfl⟩
      rw [hwA] at hC HR HT HBR2 hszA ⊢
      clear hwA d0 d1 d2 d3
      refine hC.mono ?_
      rintro e w3 ⟨a3, cap3, rfl, hFR, hb3⟩
      have hr3 := HR.out.stays hb3
      have ht3 := HT.out.below hb3
      have hbw3 := HBR2.out.trans (hb3.mono hszA)
      have hsz3 := hbw3.size
      have htw : ∀ gg : Option Nat, (∀ j, gg = some j → j < wA.heap.size) → Tw W1.heap.size w3 gg (op2, v2, x2, (a3, n2, cap3)) (.mk op2 v2 x2 bs) := fun gg hgg => ⟨bs, wA.heap.size, w3.heap.size, rfl, hszA, hFR, fun j hj => .inl (hgg j hj)⟩
      have HTW := Lib.hid htw
      have HOW := Lib.hid (fun j hj => (HR.out.lt j hj).2)
      have HT3 := Lib.hid (ht3.snoc (HTW.out _ HOW.out))
      have HB3 := Lib.hid hbw3
      have HR3 := Lib.hid hr3
      clear hC hFR hb3 htw ht3 hbw3 hszA
      go_wp2_with (at_builtin; refine append4_at w3 rfl _ _ rfl W1.heap.size u3 cs rfl hr3 (op2, v2, x2, (a3, n2, cap3)) rfl hlc hsz3 ?_; intro v4 w4 hrow4 hgrow4 hown4)
      have hb4 : Below W1.heap.size W1 w4 := HB3.out.grown hgrow4 hsz3 (fun j hj => (HR3.out.lt j hj).1)
      have ht4 := HT3.out.grown hgrow4 hown4
      rw [← HNX.out] at ht4
      clear hgrow4 hown4 hr3
      go_wp2_with fail
      go_roundw
      case rel => exact ⟨q + 1, _, by go_num, by omega, hrow4, ht4, hb4⟩
      case measure => simp [RowKit.intOf]; omega
    · obtain rfl : q = n := by omega
      rw [List.take_of_length_le (by rw [HL.out]; exact Nat.le_refl _)] at ht
      obtain ⟨a', cap', hv, hFR⟩ := fitR_of_row hr ht
      rw [HL.out] at hv hFR
      subst hv
      have hx := (hbr.block B (by have := HS0.out; omega)).trans HBX.out
      have hr2 := (hbr.block (B + 1) (by have := HS0.out; omega)).trans HBR.out
      have e0 : wr.cell? ⟨B, 0, none⟩ = some (.int .i64 op) := by simp [World.cell?, hx]
      have e1 : wr.cell? ⟨B, 1, none⟩ = some (.int .i64 v) := by simp [World.cell?, hx]
      have e2 : wr.cell? ⟨B, 2, none⟩ = some (.int .i64 x) := by simp [World.cell?, hx]
      have e3 : wr.cell? ⟨B, 3, none⟩ = some (.slice a q cap) := by simp [World.cell?, hx]
      have z3 : wr.frozen? ⟨B, 3, none⟩ = false := by simp [World.frozen?, hx]
      have r0 : wr.cell? ⟨B + 1, 0, none⟩ = some (.int .i64 0) := by simp [World.cell?, hr2]
      have r1 : wr.cell? ⟨B + 1, 1, none⟩ = some (.int .i64 0) := by simp [World.cell?, hr2]
      have r2 : wr.cell? ⟨B + 1, 2, none⟩ = some (.int .i64 0) := by simp [World.cell?, hr2]
      have r3 : wr.cell? ⟨B + 1, 3, none⟩ = some (.slice none 0 0) := by simp [World.cell?, hr2]
      have y0 : wr.frozen? ⟨B + 1, 0, none⟩ = false := by simp [World.frozen?, hr2]
      have y1 : wr.frozen? ⟨B + 1, 1, none⟩ = false := by simp [World.frozen?, hr2]
      have y2 : wr.frozen? ⟨B + 1, 2, none⟩ = false := by simp [World.frozen?, hr2]
      have y3 : wr.frozen? ⟨B + 1, 3, none⟩ = false := by simp [World.frozen?, hr2]
      have HX := Lib.hid hx
      have HR2 := Lib.hid hr2
      have HFR := Lib.hid hFR
      have HBR2 := Lib.hid hbr
      clear hx hr2 hFR hbr hr ht
      go_wp2_with fail
      obtain ⟨W8, hW8⟩ : ∃ W8, Hid (W8 = ((((wr.setCell ⟨B, 3, none⟩ (.slice a' q cap')).setCell ⟨B + 1, 0, none⟩ (.int .i64 op)).setCell ⟨B + 1, 1, none⟩ (.int .i64 v)).setCell ⟨B + 1, 2, none⟩ (.int .i64 x)).setCell ⟨B + 1, 3, none⟩ (.slice a' q cap')) := ⟨_, Lib.hid rfl⟩
      rw [← hW8.out]
      have g7 : wr.grownBy (wr.setCell ⟨B, 3, none⟩ (.slice a' q cap')) (some B) := grownBy_setAt _ _ _ _
      have hr7 : (wr.setCell ⟨B, 3, none⟩ (.slice a' q cap')).heap[B + 1]? = some (.cells #[.int .i64 0, .int .i64 0, .int .i64 0, .slice none 0 0] 26) := (g7.block (B + 1) (Array.getElem?_eq_some_iff.1 HR2.out).1 (fun e => by have := Option.some.inj e; omega)).trans HR2.out
      have h8 : W8.heap[B + 1]? = some (.cells #[.int .i64 op, .int .i64 v, .int .i64 x, .slice a' q cap'] 26) := by
        rw [hW8.out]
        exact Go.Joins.block_setCell (Go.Joins.block_setCell (Go.Joins.block_setCell (Go.Joins.block_setCell hr7 (i := 0) (.int .i64 op)) (i := 1) (.int .i64 v)) (i := 2) (.int .i64 x)) (i := 3) (.slice a' q cap')
      have g8 : (wr.setCell ⟨B, 3, none⟩ (.slice a' q cap')).grownBy W8 (some (B + 1)) := by
        rw [hW8.out]
        exact World.grownBy.trans (World.grownBy.trans (World.grownBy.trans (grownBy_setAt _ _ _ _) (grownBy_setAt _ _ _ _)) (grownBy_setAt _ _ _ _)) (grownBy_setAt _ _ _ _)
      have j0 : W8.cell? ⟨B + 1, 0, none⟩ = some (.int .i64 op) := by simp [World.cell?, h8]
      have j1 : W8.cell? ⟨B + 1, 1, none⟩ = some (.int .i64 v) := by simp [World.cell?, h8]
      have j2 : W8.cell? ⟨B + 1, 2, none⟩ = some (.int .i64 x) := by simp [World.cell?, h8]
      have j3 : W8.cell? ⟨B + 1, 3, none⟩ = some (.slice a' q cap') := by simp [World.cell?, h8]
      have hs := HS0.out
      have hn := HBN.out
      have hk7 : Keeps W1.heap.size wr.heap.size wr W8 :=
        (Keeps.of_grown g7 (Nat.le_refl _) (fun j e => by have := Option.some.inj e; omega)).trans (Keeps.of_grown g8 g7.size (fun j e => by have := Option.some.inj e; omega))
      have hsz8 : wr.heap.size ≤ W8.heap.size := hk7.1
      refine bodyPost_ret (v := .agg #[.int .i64 op, .int .i64 v, .int .i64 x, .slice a' q cap']) ?_ rfl ?_
      · simp [results, Try.f10, go_sem, j0, j1, j2, j3]
      · have hB1 : Below w.heap.size w wr := HB0.out.trans (HBR2.out.mono HB0.out.size)
        refine ⟨a', cap', rfl, (HFR.out.keeps hk7).mono (by omega) hsz8 (Nat.le_refl _), ?_⟩
        have hB2 := hB1.grown g7 hB1.size (fun j e => by have := Option.some.inj e; omega)
        exact hB2.grown g8 hB2.size (fun j e => by have := Option.some.inj e; omega)
end Go.Proofs.Ytmdanfeilgeoaaa
