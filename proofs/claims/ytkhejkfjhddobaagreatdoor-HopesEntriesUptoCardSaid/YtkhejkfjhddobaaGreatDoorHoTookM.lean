/- A Hopes behind a taken event. -/
import Derived.Test.YtkhejkfjhddobaaGreatDoorHoCheckWalk
section
namespace Go.Proofs.YtkhejkfjhddobaaGreatDoor
open Go.RowKit Gim
/-- tags behind the check's turn -/
def tgT (tg : Nat → Nat × Nat) (n : Nat) (v : Value) (b : Nat) : Nat × Nat := if b < n then tg b else if v.ownBlock = some b then (4, 0) else (6, 0)
/-- tags behind a new open node, number i -/
def tgF (tg tgo : Nat → Nat × Nat) (n i : Nat) (v : Value) (b : Nat) : Nat × Nat := if b < n then tg b else if v.ownBlock = some b then (2, 0) else if (tgo b).1 = 0 then (10 + i, (tgo b).2) else (6, 0)
/-- what the opening of a node leaves -/
structure OpnM (W w' : World) (H : Nat) (vF vP : Value) (nr np : Nat) (fs : List FrS) (ps : List Nat) (F : Nat) (f : FrS) (tgo : Nat → Nat × Nat) : Prop where
  fr : Fr (fun b => b = H ∨ vF.ownBlock = some b) W w'
  row : w'.ownsRow 0 102 1 vP (fs.length + 1) ((ps ++ [F]).map fun p => Value.pointer (some ⟨p, 0, none⟩))
  at_ : vP.ownBlock = vF.ownBlock ∨ ∃ j, vP.ownBlock = some j ∧ W.heap.size ≤ j ∧ (tgo j).1 ≠ 0
  frm : FrM w' tgo 0 F nr np f
  old : ∀ b, b < W.heap.size → (tgo b).1 ≠ 0
section
variable {n0 : Nat} {W : World} {tg : Nat → Nat × Nat} {H K : Nat} {nd : NetD} {vF vX vK : Value} {fs : List FrS} {ps : List Nat} {vO : Value} {en : Nat} {es : List Value} {num : Int} {tx dn : Bool}
theorem HoI.took (h : HoI n0 W tg H K nd vF vX vK fs ps vO en es num tx dn) {w' : World} {vP : Value} {en' : Nat} {es' : List Value} {num' : Int} {tx' dn' : Bool} (hc : CkM 0 W w' K vO vP en' es' num' tx' dn') : HoI n0 w' (tgT tg W.heap.size vP) H K nd vF vX vK fs ps vP en' es' num' tx' dn' := by
  obtain ⟨mn, ra, rc, pa, pc, h1, h2⟩ := h.hH
  have hto : ∀ b, b < W.heap.size → tgT tg W.heap.size vP b = tg b := fun b hb => if_pos hb
  have ho : ∀ b, b < W.heap.size → (tg b).1 ≠ 1 → (tg b).1 ≠ 4 → w'.heap[b]? = W.heap[b]? := fun b hb h3 h4 => hc.fr.block b hb fun e => by
    rcases e with rfl | e
    · exact h3 h.ck.tK
    · exact h4 (h.ck.tg4 b e)
  have hKs := (Array.getElem?_eq_some_iff.1 h.ck.hK).1
  refine ⟨⟨mn, ra, rc, pa, pc, (ho H h.lt (by rw [h.tH]; decide) (by rw [h.tH]; decide)).trans h1, h2.keep hc.fr.size fun b hb ht => ⟨ho b hb (by omega) (by omega), by rw [hto b hb]; exact ht⟩⟩, by rw [hto H h.lt]; exact h.tH, h.fr.keep fun b hb ht => ⟨ho b hb (by omega) (by omega), hto b hb⟩, ⟨hc.hK, by rw [hto K hKs]; exact h.ck.tK, hc.row, fun g hg => ?_⟩, h.xs, h.ks, fun b _ ht => ?_, Nat.le_trans h.old.1 hc.fr.size, fun b hb => by rw [hto b (Nat.lt_of_lt_of_le hb h.old.1)]; exact h.old.2 b hb⟩
  · rcases hc.at_ with e | ⟨j, e1, e2⟩
    · rw [e] at hg
      rw [hto g (World.ownsRow.lt h.ck.row g hg).2]
      exact h.ck.tg4 g hg
    · have : j = g := by
        rw [e1] at hg
        injection hg
      subst this
      unfold tgT
      rw [if_neg (by omega), if_pos hg]
  · by_cases hb : b < W.heap.size
    · rw [hto b hb] at ht
      exact h.own b hb ht
    · unfold tgT at ht
      rw [if_neg hb] at ht
      split at ht <;> cases ht
theorem HoI.opn (h : HoI n0 W tg H K nd vF vX vK fs ps vO en es num tx dn) {w' : World} {vP : Value} {F : Nat} {f : FrS} {tgo : Nat → Nat × Nat} (hc : OpnM W w' H vF vP nd.rows.length nd.preds.length fs ps F f tgo)
    (hH : ∀ mn va vb, W.heap[H]? = some (.cells #[mn, va, vb, .pointer (some ⟨K, 0, none⟩), vF, vX, vK] 87) → w'.heap[H]? = some (.cells #[mn, va, vb, .pointer (some ⟨K, 0, none⟩), vP, vX, vK] 87)) :
    HoI n0 w' (tgF tg tgo W.heap.size fs.length vP) H K nd vP vX vK (fs ++ [f]) (ps ++ [F]) vO en es num tx dn := by
  obtain ⟨mn, ra, rc, pa, pc, h1, h2⟩ := h.hH
  have hto : ∀ b, b < W.heap.size → tgF tg tgo W.heap.size fs.length vP b = tg b := fun b hb => if_pos hb
  have ho : ∀ b, b < W.heap.size → (tg b).1 ≠ 0 → (tg b).1 ≠ 2 → w'.heap[b]? = W.heap[b]? := fun b hb h3 h4 => hc.fr.block b hb fun e => by
    rcases e with rfl | e
    · exact h3 h.tH
    · exact h4 (h.fr.tg2 b e)
  refine ⟨⟨mn, ra, rc, pa, pc, hH _ _ _ h1, h2.keep hc.fr.size fun b hb ht => ⟨ho b hb (by omega) (by omega), by rw [hto b hb]; exact ht⟩⟩, by rw [hto H h.lt]; exact h.tH, ⟨by rw [List.length_append]; exact hc.row, fun g hg => ?_, by rw [List.length_append, List.length_append, h.fr.lp]; rfl, fun i hi => ?_⟩, h.ck.keep fun b hb ht => ⟨ho b hb (by omega) (by omega), hto b hb⟩, h.xs, h.ks, fun b _ ht => ?_, Nat.le_trans h.old.1 hc.fr.size, fun b hb => by rw [hto b (Nat.lt_of_lt_of_le hb h.old.1)]; exact h.old.2 b hb⟩
  · rcases hc.at_ with e | ⟨j, e1, e2, _⟩
    · rw [e] at hg
      rw [hto g (World.ownsRow.lt h.fr.row g hg).2]
      exact h.fr.tg2 g hg
    · have : j = g := by
        rw [e1] at hg
        injection hg
      subst this
      unfold tgF
      rw [if_neg (by omega), if_pos hg]
  · by_cases hl : i < fs.length
    · rw [List.getD_eq_getElem?_getD, List.getD_eq_getElem?_getD, List.getElem?_append_left (by rw [h.fr.lp]; exact hl), List.getElem?_append_left hl, ← List.getD_eq_getElem?_getD, ← List.getD_eq_getElem?_getD]
      exact (h.fr.fr i hl).keep (fun b k hb ht => ho b hb (by rw [ht]; show 10 + i ≠ 0; omega) (by rw [ht]; show 10 + i ≠ 2; omega)) (fun b k hb ht => by rw [hto b hb]; exact ht)
    · have hi : i < (fs ++ [f]).length := hi
      rw [List.length_append, List.length_singleton] at hi
      obtain rfl : i = fs.length := by omega
      rw [List.getD_eq_getElem?_getD, List.getD_eq_getElem?_getD, List.getElem?_append_right (by rw [h.fr.lp]; exact Nat.le_refl _), List.getElem?_append_right (Nat.le_refl _), h.fr.lp, Nat.sub_self]
      refine hc.frm.keep (fun _ _ _ _ => rfl) (fun b k _ ht => ?_)
      have hb : ¬ b < W.heap.size := fun hb => hc.old b hb (by rw [ht])
      have hv : ¬ vP.ownBlock = some b := fun e => by
        rcases hc.at_ with e2 | ⟨j, e1, _, e3⟩
        · rw [e2] at e
          exact hb (World.ownsRow.lt h.fr.row b e).2
        · rw [e1] at e
          injection e with e
          subst e
          exact e3 (by rw [ht])
      unfold tgF
      rw [if_neg hb, if_neg hv, ht, if_pos rfl]
  · by_cases hb : b < W.heap.size
    · rw [hto b hb] at ht
      exact h.own b hb ht
    · unfold tgF at ht
      rw [if_neg hb] at ht
      split at ht
      · cases ht
      · split at ht
        · have ht : 10 + fs.length = 0 := ht
          omega
        · cases ht
end
end Go.Proofs.YtkhejkfjhddobaaGreatDoor

end

section
namespace Go.Proofs.YtkhejkfjhddobaaGreatDoor
open Go.RowKit Gim
theorem info_fp : (Tryz.prog.info? 102).map (fun i => (i.zero, i.size, i.bytes)) = some (some (.pointer none), 1, 8) := by kernel_rfl
theorem ptr_new (w : World) (v : Value) (t : TypeId) : ∀ (j : Nat) (u : Value), [v][j]? = some u → (w.alloc (.cells #[v] t)).cell? ⟨w.heap.size, j, none⟩ = some u := by
  intro j u hj
  have hn := heap_alloc_new w (.cells #[v] t)
  unfold World.cell?
  rw [hn]
  simpa using hj
section
attribute [local go_sem ↓] Go.wp_at_zero Go.wp_at_succ
set_option maxRecDepth 100000 in
set_option maxHeartbeats 32000000 in
theorem opened_calls {n0 : Nat} {tg : Nat → Nat × Nat} {H K : Nat} {nd : NetD} {vF vX vK : Value} {fs : List FrS} {ps : List Nat} {vO : Value} {en : Nat} {es : List Value} {num : Int} {tx dn : Bool} (kd n1 dep : Int) (nm : ByteArray) (c5 c6 c7 : Value) (w : World)
    (h : HoI n0 w tg H K nd vF vX vK fs ps vO en es num tx dn) (hok : NetOk nd) (hn : fs.length ≤ 1048576) :
    Calls Tryz.prog 31 #[.pointer (some ⟨H, 0, none⟩), .agg #[.int .i64 kd, .int .i64 n1, .int .i64 dep, .string nm, .slice none 0 0, c5, c6, c7]] w fun e w' => e = .returned (.tuple #[]) ∧ ∃ vP F tgo, OpnM w w' H vF vP nd.rows.length nd.preds.length fs ps F (openF nd 1 nm []) tgo ∧
      ∀ mn va vb, w.heap[H]? = some (.cells #[mn, va, vb, .pointer (some ⟨K, 0, none⟩), vF, vX, vK] 87) → w'.heap[H]? = some (.cells #[mn, va, vb, .pointer (some ⟨K, 0, none⟩), vP, vX, vK] 87) := by
  obtain ⟨np, hnp⟩ : ∃ np, nd.preds.length = np := ⟨_, rfl⟩
  obtain ⟨nr, hnr⟩ : ∃ nr, nd.rows.length = nr := ⟨_, rfl⟩
  obtain ⟨fn, hfn⟩ : ∃ fn, fs.length = fn := ⟨_, rfl⟩
  obtain ⟨mn, ra, rc, pa, pc, h1, h2⟩ := h.hH
  obtain ⟨fa, fc, rfl, hfr⟩ := h.fr.r
  obtain ⟨xa, xn, xc, rfl⟩ := h.xs
  obtain ⟨ka, kn, kc, rfl⟩ := h.ks
  obtain ⟨W1, hW1⟩ : ∃ W1, w.alloc (.cells #[.int .i64 kd, .int .i64 n1, .int .i64 dep, .string nm, .slice none 0 0, c5, c6, c7] 45) = W1 := ⟨_, rfl⟩
  have b1 : Below w.heap.size w W1 := by rw [← hW1]; exact (Below.refl _ _).alloc (Nat.le_refl _) _
  have hX1 : W1.heap[w.heap.size]? = some (.cells #[.int .i64 kd, .int .i64 n1, .int .i64 dep, .string nm, .slice none 0 0, c5, c6, c7] 45) := by rw [← hW1]; exact heap_alloc_new _ _
  have hHs := h.lt
  have hH1 := (b1.block H hHs).trans h1
  have hNet : HNet W1 H nd := ⟨⟨mn, ra, rc, pa, pc, _, _, _, _, hH1, (h2 W1 fun b hb _ => b1.block b hb).1, (h2 W1 fun b hb _ => b1.block b hb).2⟩⟩
  have HOP : Hid (∀ W, Below W1.heap.size W1 W → Calls Tryz.prog 38 #[.pointer (some ⟨H, 0, none⟩), .int .i64 1, .string nm, .slice none 0 0] W fun e w' => ∃ F tgo, e = .returned (.pointer (some ⟨F, 0, none⟩)) ∧ FrM w' tgo 0 F nr np (openF nd 1 nm []) ∧ (∀ b, b < W1.heap.size → (tgo b).1 ≠ 0) ∧ Below W1.heap.size W1 w') := Lib.hid fun W hW => by
    have := open_calls nd H 1 nm [] none 0 0 W (hNet.below hW) hok (FitAt.nil _) (fun x hx => by cases hx)
    rw [hnr, hnp] at this
    refine this.mono ?_
    rintro e w' ⟨F, tgo, e1, e2, e3, e4⟩
    exact ⟨F, tgo, e1, e2, fun b hb => e3 b (Nat.lt_of_lt_of_le hb hW.size), hW.trans (e4.mono hW.size)⟩
  have HNE : Hid (some H ≠ (Value.slice fa fs.length fc).ownBlock) := Lib.hid fun e => by
    have h3 := h.fr.tg2 H e.symm
    rw [h.tH] at h3
    cases h3
  have HROW := Lib.hid h.fr.row
  have HLTO : Hid (∀ g, (Value.slice fa fs.length fc).ownBlock = some g → g < w.heap.size) := Lib.hid fun g hg => (World.ownsRow.lt h.fr.row g hg).2
  have y3 : W1.cell? ⟨w.heap.size, 3, none⟩ = some (.string nm) := by simp [World.cell?, hX1]
  have y4 : W1.cell? ⟨w.heap.size, 4, none⟩ = some (.slice none 0 0) := by simp [World.cell?, hX1]
  have h1s : w.heap.size < W1.heap.size := (Array.getElem?_eq_some_iff.1 hX1).1
  have hH1s : H < W1.heap.size := (Array.getElem?_eq_some_iff.1 hH1).1
  have HP0 := Lib.hid h1
  rw [hfn] at hH1 HNE HROW HLTO HP0 hn ⊢
  have q4 : W1.cell? ⟨H, 4, none⟩ = some (.slice fa fn fc) := by simp [World.cell?, hH1]
  have z4 := cells_free hH1 4
  rw [hnr, hnp] at hH1 ⊢
  have HH1 := Lib.hid hH1
  have HB1 := Lib.hid b1
  have HW1 := Lib.hid hW1
  have HEN := Lib.hid (show fn < 1099511627776 by omega)
  have HNR := Lib.hid (And.intro hnr hnp)
  have HFN := Lib.hid hfn
  clear h h1 h2 hfr hX1 b1 hW1 hH1 hNet hok hnr hnp hfn
  go_enter Tryz.func31, Tryz.ntmps31
  go_upto_region 1 with fail
  rw [HW1.out]
  go_region_law (first
    | (refine step_appK _ (by rfl) (.tmp 8) (.tmp 15) 83 102 (by rfl) _ 1 8 info_fp Tryz.underlying83 (by rfl) (by decide) (by decide) 0 (.slice fa fn fc) fn (ps.map fun p => Value.pointer (some ⟨p, 0, none⟩)) (by rfl) HROW13.out [.pointer (some ⟨F, 0, none⟩)] (by rfl) (fun u hu => by rw [List.mem_singleton.1 hu]; rfl) w13.heap.size (by rfl) HNEW13.out HEN.out (Nat.zero_le _) ?_;
       intro v3 w3 own3 grow3 at3;
       obtain ⟨a3, c3, rfl, _⟩ := own_slice own3;
       have hgr : w13.grownBy w3 (Value.slice fa fn fc).ownBlock := ⟨grow3.os, grow3.tape, grow3.output, Nat.le_trans (Nat.le_of_lt HLT13.out) grow3.size, fun b hb hne => (grow3.block b (Nat.lt_trans hb HLT13.out) hne).trans (heap_alloc_old w13 _ hb)⟩;
       have hat : (Value.slice a3 (fn + 1) c3).ownBlock = (Value.slice fa fn fc).ownBlock ∨ ∃ j, (Value.slice a3 (fn + 1) c3).ownBlock = some j ∧ w13.heap.size ≤ j := at3.elim .inl fun e => .inr ⟨_, e, Nat.le_of_lt HLT13.out⟩;
       have hxb3 := (hgr.block H HHS13.out HNE.out).trans HH13.out;
       have hx3 : w3.cell? ⟨H, 4, none⟩ = some (.slice fa fn fc) := (by simp [World.cell?, hxb3]);
       have hzf3 : w3.frozen? ⟨H, 4, none⟩ = false := (by simp [World.frozen?, hxb3]);
       have hxs3 : H < w3.heap.size := Nat.lt_of_lt_of_le HHS13.out hgr.size;
       have HX3 := Lib.hid hxb3;
       have HG3 := Lib.hid hgr; have HAT3 := Lib.hid hat; have HOW3 := Lib.hid own3;
       clear own3 grow3 at3 hgr hat hxb3)
    | (go_simp; go_at_call 38; refine (HOP.out _ (by first | exact Below.refl _ _ | exact (Below.refl _ _).drew)).mono ?_; rintro e w13 ⟨F, tgo, rfl, hFM, htg, hb13⟩;
       have hH13 := (hb13.block H hH1s).trans HH1.out;
       have hrow13 := ownsRow_same HROW.out fun g hg => ((HB1.out.trans (hb13.mono HB1.out.size)).block g (HLTO.out g hg));
       have HROW13 : Hid ((w13.alloc (.cells #[.pointer (some ⟨F, 0, none⟩)] 102)).drew.ownsRow 0 102 1 (.slice fa fn fc) fn (ps.map fun p => Value.pointer (some ⟨p, 0, none⟩))) := Lib.hid (ownsRow_same (World.ownsRow.alloc hrow13 _) fun _ _ => rfl);
       have HNEW13 : Hid (∀ (j : Nat) (u : Value), [Value.pointer (some ⟨F, 0, none⟩)][j]? = some u → (w13.alloc (.cells #[.pointer (some ⟨F, 0, none⟩)] 102)).drew.cell? ⟨w13.heap.size, j, none⟩ = some u) := Lib.hid (ptr_new w13 _ 102);
       have HLT13 : Hid (w13.heap.size < (w13.alloc (.cells #[.pointer (some ⟨F, 0, none⟩)] 102)).drew.heap.size) := Lib.hid (by show _ < (w13.alloc _).heap.size; rw [World.size_alloc]; exact Nat.lt_succ_self _);
       have q4b : w13.cell? ⟨H, 4, none⟩ = some (.slice fa fn fc) := (by simp [World.cell?, hH13]);
       have hhs13 : H < w13.heap.size := (Array.getElem?_eq_some_iff.1 hH13).1;
       have HHS13 : Hid (H < w13.heap.size) := Lib.hid (Array.getElem?_eq_some_iff.1 hH13).1;
       have HH13 := Lib.hid hH13; have HFM13 := Lib.hid hFM; have HTG13 := Lib.hid htg; have HB13 := Lib.hid hb13;
       clear hH13 hrow13 hFM htg hb13))
  all_goals
    have HFIN : Hid (∃ vP F tgo, OpnM w (w3.setCell ⟨H, 4, none⟩ (.slice a3 (fn + 1) c3)) H (.slice fa fn fc) vP nr np fs ps F (openF nd 1 nm []) tgo ∧ ∀ mn va vb, w.heap[H]? = some (.cells #[mn, va, vb, .pointer (some ⟨K, 0, none⟩), .slice fa fn fc, .slice xa xn xc, .slice ka kn kc] 87) → (w3.setCell ⟨H, 4, none⟩ (.slice a3 (fn + 1) c3)).heap[H]? = some (.cells #[mn, va, vb, .pointer (some ⟨K, 0, none⟩), vP, .slice xa xn xc, .slice ka kn kc] 87)) := Lib.hid (by
      have hb13 := HB1.out.trans (HB13.out.mono HB1.out.size)
      have hown : ∀ g, (Value.slice a3 (fn + 1) c3).ownBlock = some g → g ≠ H := by
        rintro g hg rfl
        rcases HAT3.out with e | ⟨j, e1, e2⟩
        · exact HNE.out (hg.symm.trans e)
        · rw [e1] at hg
          injection hg with hg
          have := HHS13.out
          omega
      refine ⟨.slice a3 (fn + 1) c3, F, (fun b => if b < w13.heap.size then tgo b else (1, 0)), ⟨(fr_grow (Fr.of hb13) HG3.out fun g hg => .inr hg).set H 4 _ (.inl rfl), ?_, ?_, ?_, fun b hb => ?_⟩, fun mn' va' vb' e => ?_⟩
      · rw [HFN.out, List.map_append]
        exact ownsRow_same HOW3.out fun g hg => Below.heap_setCell w3 ⟨H, 4, none⟩ _ g (hown g hg)
      · refine HAT3.out.imp id fun e => ?_
        obtain ⟨j, e1, e2⟩ := e
        exact ⟨j, e1, Nat.le_trans hb13.size e2, by show (if j < w13.heap.size then tgo j else ((1 : Nat), (0 : Nat))).1 ≠ 0; rw [if_neg (by omega)]; decide⟩
      · refine HFM13.out.keep (fun b k hb ht => ?_) (fun b k hb ht => by show (if b < w13.heap.size then tgo b else ((1 : Nat), (0 : Nat))) = _; rw [if_pos hb]; exact ht)
        have hb1 : ¬ b < W1.heap.size := fun hb => HTG13.out b hb (by rw [ht])
        have hbH : b ≠ H := by omega
        refine (Below.heap_setCell w3 ⟨H, 4, none⟩ _ b hbH).trans (HG3.out.block b hb fun e => ?_)
        have := HLTO.out b e.symm
        omega
      · show (if b < w13.heap.size then tgo b else ((1 : Nat), (0 : Nat))).1 ≠ 0
        rw [if_pos (Nat.lt_of_lt_of_le hb hb13.size)]
        exact HTG13.out b (Nat.lt_of_lt_of_le hb HB1.out.size)
      · have e2 := (hb13.block H hHs).trans e
        have e3 := (HG3.out.block H HHS13.out HNE.out).trans e2
        rw [nset_at e3]
        rfl)
    go_wp2_with fail
    exact bodyPost_end (results_none rfl _ _ _) rfl ⟨rfl, HFIN.out⟩
end
end Go.Proofs.YtkhejkfjhddobaaGreatDoor

end

section
namespace Go.Proofs.YtkhejkfjhddobaaGreatDoor
open Go.RowKit Gim
section
attribute [local go_sem ↓] Go.wp_at_zero Go.wp_at_succ
set_option maxRecDepth 100000 in
set_option maxHeartbeats 32000000 in
theorem take_h_calls {n0 : Nat} {tg : Nat → Nat × Nat} {H K : Nat} {nd : NetD} {vF vX vK : Value} {fs : List FrS} {ps : List Nat} {vO : Value} {en : Nat} {es : List Value} {num : Int} {tx : Bool} (nm : ByteArray) (w : World)
    (h : HoI n0 w tg H K nd vF vX vK fs ps vO en es num tx false) (hok : NetOk nd) (hn : fs.length ≤ 1048576) (hT : Laid w) (hs : nm.size ≤ 9223372036854775807) (hen : en ≤ 1048576) (hb : nameB nm = true) (h0 : 0 < en ∨ num = 0) (hnum : 0 ≤ num ∧ num ≤ 1099511627776) :
    Calls Tryz.prog 13 #[.pointer (some ⟨H, 0, none⟩), .agg #[.int .i64 0, .int .i64 num, .int .i64 ((en : Int) + 1), .string nm, .slice none 0 0, .string ⟨#[]⟩, .int .i64 0, .int .i64 0]] w fun e w' => e = .returned (.int .i64 0) ∧ Fr (fun b => n0 ≤ b) w w' ∧ ∃ vF' vO' F tg', HoI n0 w' tg' H K nd vF' (.slice none 0 0) (.slice none 0 0) (fs ++ [openF nd 1 nm []]) (ps ++ [F]) vO' (en + 1) (es ++ cellE num ((en : Int) + 1) nm) (num + 1) false false := by
  obtain ⟨mn, ra, rc, pa, pc, h1, h2⟩ := h.hH
  obtain ⟨fa, fc, rfl, _⟩ := h.fr.r
  obtain ⟨oa, oc, rfl, _⟩ := own_slice h.ck.row
  obtain ⟨xa, xn, xc, rfl⟩ := h.xs
  obtain ⟨ka, kn, kc, rfl⟩ := h.ks
  obtain ⟨W1, hW1⟩ : ∃ W1, w.alloc (.cells #[.int .i64 0, .int .i64 num, .int .i64 ((en : Int) + 1), .string nm, .slice none 0 0, .string ⟨#[]⟩, .int .i64 0, .int .i64 0] 45) = W1 := ⟨_, rfl⟩
  have b1 : Below w.heap.size w W1 := by rw [← hW1]; exact (Below.refl _ _).alloc (Nat.le_refl _) _
  have hX1 : W1.heap[w.heap.size]? = some (.cells #[.int .i64 0, .int .i64 num, .int .i64 ((en : Int) + 1), .string nm, .slice none 0 0, .string ⟨#[]⟩, .int .i64 0, .int .i64 0] 45) := by rw [← hW1]; exact heap_alloc_new _ _
  have hHs := h.lt
  have hH1 := (b1.block H hHs).trans h1
  have hKs := (Array.getElem?_eq_some_iff.1 h.ck.hK).1
  have low : ∀ b, (tg b).1 ≠ 6 → n0 ≤ b := fun b hb => Nat.le_of_not_lt fun hl => hb (h.old.2 b hl)
  have HCT : Hid (∀ W, Below W1.heap.size W1 W → Calls Tryz.prog 30 #[.pointer (some ⟨K, 0, none⟩), .agg #[.int .i64 0, .int .i64 num, .int .i64 ((en : Int) + 1), .string nm, .slice none 0 0, .string ⟨#[]⟩, .int .i64 0, .int .i64 0]] W fun e w' => e = .returned (.bool true) ∧ (∃ vP, CkM 0 w w' K (.slice oa en oc) vP (en + 1) (es ++ cellE num ((en : Int) + 1) nm) (num + 1) false false) ∧ w'.heap[w.heap.size]? = W1.heap[w.heap.size]?) := Lib.hid fun W hW => by
    have hbw := b1.trans (hW.mono b1.size)
    have hck := h.ck.keep (W' := W) (tg' := tg) fun b hl _ => ⟨hbw.block b hl, rfl⟩
    refine (ctake_calls nm W hck (hT.below hbw) hs hen hb h0 hnum).mono ?_
    rintro e w' ⟨rfl, vP, hc⟩
    refine ⟨rfl, ⟨vP, (Fr.of hbw).trans hc.fr, hc.hK, hc.row, hc.at_.imp id fun e => ?_⟩, ?_⟩
    · obtain ⟨j, e1, e2⟩ := e
      exact ⟨j, e1, Nat.le_trans hbw.size e2⟩
    · have hXs := (Array.getElem?_eq_some_iff.1 hX1).1
      refine (hc.fr.block _ (Nat.lt_of_lt_of_le hXs hW.size) fun e => ?_).trans (hW.block _ hXs)
      rcases e with e | e
      · omega
      · have := (World.ownsRow.lt h.ck.row _ e).2
        omega
  have hX1s : w.heap.size < W1.heap.size := (Array.getElem?_eq_some_iff.1 hX1).1
  have q3 : W1.cell? ⟨H, 3, none⟩ = some (.pointer (some ⟨K, 0, none⟩)) := by simp [World.cell?, hH1]
  have hH1s : H < W1.heap.size := (Array.getElem?_eq_some_iff.1 hH1).1
  have y0 : W1.cell? ⟨w.heap.size, 0, none⟩ = some (.int .i64 0) := by simp [World.cell?, hX1]
  have y1 : W1.cell? ⟨w.heap.size, 1, none⟩ = some (.int .i64 num) := by simp [World.cell?, hX1]
  have y2 : W1.cell? ⟨w.heap.size, 2, none⟩ = some (.int .i64 ((en : Int) + 1)) := by simp [World.cell?, hX1]
  have y3 : W1.cell? ⟨w.heap.size, 3, none⟩ = some (.string nm) := by simp [World.cell?, hX1]
  have y4 : W1.cell? ⟨w.heap.size, 4, none⟩ = some (.slice none 0 0) := by simp [World.cell?, hX1]
  have y5 : W1.cell? ⟨w.heap.size, 5, none⟩ = some (.string ⟨#[]⟩) := by simp [World.cell?, hX1]
  have y6 : W1.cell? ⟨w.heap.size, 6, none⟩ = some (.int .i64 0) := by simp [World.cell?, hX1]
  have y7 : W1.cell? ⟨w.heap.size, 7, none⟩ = some (.int .i64 0) := by simp [World.cell?, hX1]
  have HH := Lib.hid h
  have HP := Lib.hid h1
  have HX1 := Lib.hid hX1
  have HW1 := Lib.hid hW1
  have HLOW := Lib.hid low
  have HOK := Lib.hid hok
  clear h h1 h2 hX1 b1 hW1 hH1 hT hs hb h0 hnum low hok
  go_enter Tryz.func13, Tryz.ntmps13
  go_upto_region 1 with fail
  rw [HW1.out]
  go_upto_region 3 with fail
  go_region_with (first
    | (go_at_call 30; refine (HCT.out _ (by first | exact Below.refl _ _ | exact (Below.refl _ _).drew)).mono ?_; rintro e w13 ⟨rfl, ⟨vP, hc⟩, hX⟩; have HC := Lib.hid hc; have HX := Lib.hid hX; clear hc hX))
  all_goals
    have hHI := HH.out.took HC.out
    obtain ⟨mn', ra', rc', pa', pc', g1, _⟩ := hHI.hH
    have q5 : w13.cell? ⟨H, 5, none⟩ = some (.slice xa xn xc) := by simp [World.cell?, g1]
    have q6 : w13.cell? ⟨H, 6, none⟩ = some (.slice ka kn kc) := by simp [World.cell?, g1]
    have z5 := cells_free g1 5
    have z6 := cells_free g1 6
    have hX13 := HX.out.trans HX1.out
    have y0 : w13.cell? ⟨w.heap.size, 0, none⟩ = some (.int .i64 0) := by simp [World.cell?, hX13]
    have y1 : w13.cell? ⟨w.heap.size, 1, none⟩ = some (.int .i64 num) := by simp [World.cell?, hX13]
    have y2 : w13.cell? ⟨w.heap.size, 2, none⟩ = some (.int .i64 ((en : Int) + 1)) := by simp [World.cell?, hX13]
    have y3 : w13.cell? ⟨w.heap.size, 3, none⟩ = some (.string nm) := by simp [World.cell?, hX13]
    have y4 : w13.cell? ⟨w.heap.size, 4, none⟩ = some (.slice none 0 0) := by simp [World.cell?, hX13]
    have y5 : w13.cell? ⟨w.heap.size, 5, none⟩ = some (.string ⟨#[]⟩) := by simp [World.cell?, hX13]
    have y6 : w13.cell? ⟨w.heap.size, 6, none⟩ = some (.int .i64 0) := by simp [World.cell?, hX13]
    have y7 : w13.cell? ⟨w.heap.size, 7, none⟩ = some (.int .i64 0) := by simp [World.cell?, hX13]
    have hH13 : H < w13.heap.size := (Array.getElem?_eq_some_iff.1 g1).1
    have hX13s : w.heap.size < w13.heap.size := (Array.getElem?_eq_some_iff.1 hX13).1
    have hHX : w.heap.size ≠ H := by omega
    have HI := Lib.hid hHI
    have HG := Lib.hid g1
    clear hHI g1 hX13 q3
    go_wp2_with fail
    have HOI : Hid (HoI n0 (((w13.setCell ⟨H, 5, none⟩ (.slice none 0 0)).setCell ⟨H, 6, none⟩ (.slice none 0 0)).alloc (.cells #[.func (.func 31) #[.pointer (some ⟨H, 0, none⟩)] #[], .func (.func 32) #[.pointer (some ⟨H, 0, none⟩)] #[], .func (.func 33) #[.pointer (some ⟨H, 0, none⟩)] #[]] 89)) (tgU (tgT tg w.heap.size vP) w13.heap.size 6) H K nd (.slice fa fs.length fc) (.slice none 0 0) (.slice none 0 0) fs ps vP (en + 1) (es ++ cellE num ((en : Int) + 1) nm) (num + 1) false false ∧ Fr (fun b => b = H) w13 (((w13.setCell ⟨H, 5, none⟩ (.slice none 0 0)).setCell ⟨H, 6, none⟩ (.slice none 0 0)).alloc (.cells #[.func (.func 31) #[.pointer (some ⟨H, 0, none⟩)] #[], .func (.func 32) #[.pointer (some ⟨H, 0, none⟩)] #[], .func (.func 33) #[.pointer (some ⟨H, 0, none⟩)] #[]] 89))) := Lib.hid (by
      have hfr : Fr (fun b => b = H) w13 (((w13.setCell ⟨H, 5, none⟩ (.slice none 0 0)).setCell ⟨H, 6, none⟩ (.slice none 0 0)).alloc (.cells #[.func (.func 31) #[.pointer (some ⟨H, 0, none⟩)] #[], .func (.func 32) #[.pointer (some ⟨H, 0, none⟩)] #[], .func (.func 33) #[.pointer (some ⟨H, 0, none⟩)] #[]] 89)) :=
        (((Fr.refl (fun b => b = H) w13).set H 5 _ rfl).set H 6 _ rfl).trans (Fr.of ((Below.refl _ _).alloc (Nat.le_refl _) _))
      refine ⟨HI.out.turn hfr ⟨_, _, _, rfl⟩ ⟨_, _, _, rfl⟩ (fun m va vb e => ?_), hfr⟩
      rw [heap_alloc_old _ _ (by rw [World.size_setCell, World.size_setCell]; exact hH13), nset_at (nset_at e _) _]
      rfl)
    refine (opened_calls 0 num ((en : Int) + 1) nm _ _ _ _ HOI.out.1 HOK.out hn).mono ?_
    rintro e w16 ⟨rfl, vP2, F, tgo, ho, hh⟩
    have HFIN : Hid (Fr (fun b => n0 ≤ b) w w16 ∧ ∃ vF' vO' F tg', HoI n0 w16 tg' H K nd vF' (.slice none 0 0) (.slice none 0 0) (fs ++ [openF nd 1 nm []]) (ps ++ [F]) vO' (en + 1) (es ++ cellE num ((en : Int) + 1) nm) (num + 1) false false) := Lib.hid (by
      refine ⟨((HC.out.fr.mono fun j hj => ?_).trans (HOI.out.2.mono fun j hj => ?_)).trans (ho.fr.mono fun j hj => ?_), vP2, vP, F, _, HOI.out.1.opn ho hh⟩
      · rcases hj with rfl | hj
        · exact HLOW.out _ (by rw [HH.out.ck.tK]; decide)
        · exact HLOW.out _ (by rw [HH.out.ck.tg4 _ hj]; decide)
      · rw [hj]
        exact HLOW.out _ (by rw [HH.out.tH]; decide)
      · rcases hj with rfl | hj
        · exact HLOW.out _ (by rw [HH.out.tH]; decide)
        · exact HLOW.out _ (by rw [HH.out.fr.tg2 _ hj]; decide))
    clear ho hh q5 q6 z5 z6 y0 y1 y2 y3 y4 y5 y6 y7
    go_wp2_with fail
    go_ret
    exact ⟨rfl, HFIN.out⟩
end
end Go.Proofs.YtkhejkfjhddobaaGreatDoor

end

