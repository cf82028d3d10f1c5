/- (*Hopes).opened walked, of any attributes. -/
import Derived.Test.YtkhejkfjhddobaaGreatDoorHoLeaveM
namespace Go.Proofs.YtkhejkfjhddobaaGreatDoor
open Go.RowKit Gim
section
attribute [local go_sem ↓] Go.wp_at_zero Go.wp_at_succ
set_option maxRecDepth 100000 in
set_option maxHeartbeats 32000000 in
theorem opened2_calls {n0 : Nat} {tg : Nat → Nat × Nat} {H K : Nat} {nd : NetD} {vF vX vK : Value} {fs : List FrS} {ps : List Nat} {vO : Value} {en : Nat} {es : List Value} {num : Int} {tx dn : Bool} (kd n1 dep : Int) (nm : ByteArray) (c5 c6 c7 : Value) (w : World) (ats : List (ByteArray × ByteArray)) (aa : Option Addr) (an ac : Nat)
    (h : HoI n0 w tg H K nd vF vX vK fs ps vO en es num tx dn) (hok : NetOk nd) (hn : fs.length ≤ 1048576) (hA : FitAt w ats aa an ac) (hsz : ∀ x ∈ ats, x.2.size ≤ 1099511627776) :
    Calls Tryz.prog 31 #[.pointer (some ⟨H, 0, none⟩), .agg #[.int .i64 kd, .int .i64 n1, .int .i64 dep, .string nm, .slice aa an ac, c5, c6, c7]] w fun e w' => e = .returned (.tuple #[]) ∧ ∃ vP F tgo, OpnM w w' H vF vP nd.rows.length nd.preds.length fs ps F (openF nd 1 nm ats) tgo ∧
      ∀ mn va vb, w.heap[H]? = some (.cells #[mn, va, vb, .pointer (some ⟨K, 0, none⟩), vF, vX, vK] 87) → w'.heap[H]? = some (.cells #[mn, va, vb, .pointer (some ⟨K, 0, none⟩), vP, vX, vK] 87) := by
  obtain ⟨np, hnp⟩ : ∃ np, nd.preds.length = np := ⟨_, rfl⟩
  obtain ⟨nr, hnr⟩ : ∃ nr, nd.rows.length = nr := ⟨_, rfl⟩
  obtain ⟨fn, hfn⟩ : ∃ fn, fs.length = fn := ⟨_, rfl⟩
  obtain ⟨mn, ra, rc, pa, pc, h1, h2⟩ := h.hH
  obtain ⟨fa, fc, rfl, hfr⟩ := h.fr.r
  obtain ⟨xa, xn, xc, rfl⟩ := h.xs
  obtain ⟨ka, kn, kc, rfl⟩ := h.ks
  obtain ⟨W1, hW1⟩ : ∃ W1, w.alloc (.cells #[.int .i64 kd, .int .i64 n1, .int .i64 dep, .string nm, .slice aa an ac, c5, c6, c7] 45) = W1 := ⟨_, rfl⟩
  have b1 : Below w.heap.size w W1 := by rw [← hW1]; exact (Below.refl _ _).alloc (Nat.le_refl _) _
  have hX1 : W1.heap[w.heap.size]? = some (.cells #[.int .i64 kd, .int .i64 n1, .int .i64 dep, .string nm, .slice aa an ac, c5, c6, c7] 45) := by rw [← hW1]; exact heap_alloc_new _ _
  have hHs := h.lt
  have hH1 := (b1.block H hHs).trans h1
  have hNet : HNet W1 H nd := ⟨⟨mn, ra, rc, pa, pc, _, _, _, _, hH1, (h2 W1 fun b hb _ => b1.block b hb).1, (h2 W1 fun b hb _ => b1.block b hb).2⟩⟩
  have HOP : Hid (∀ W, Below W1.heap.size W1 W → Calls Tryz.prog 38 #[.pointer (some ⟨H, 0, none⟩), .int .i64 1, .string nm, .slice aa an ac] W fun e w' => ∃ F tgo, e = .returned (.pointer (some ⟨F, 0, none⟩)) ∧ FrM w' tgo 0 F nr np (openF nd 1 nm ats) ∧ (∀ b, b < W1.heap.size → (tgo b).1 ≠ 0) ∧ Below W1.heap.size W1 w') := Lib.hid fun W hW => by
    have := open_calls nd H 1 nm ats aa an ac W (hNet.below hW) hok (hA.below (b1.trans (hW.mono b1.size))) hsz
    rw [hnr, hnp] at this
    refine this.mono ?_
    rintro e w' ⟨F, tgo, e1, e2, e3, e4⟩
    exact ⟨F, tgo, e1, e2, fun b hb => e3 b (Nat.lt_of_lt_of_le hb hW.size), hW.trans (e4.mono hW.size)⟩
  have HNE : Hid (some H ≠ (Value.slice fa fs.length fc).ownBlock) := Lib.hid fun e => by
    have h3 := h.fr.tg2 H e.symm
    rw [h.tH] at h3
    cases h3
  have HROW := Lib.hid h.fr.row
  have HLTO : Hid (∀ g, (Value.slice fa fs.length fc).ownBlock = some g → g < w.heap.size) := Lib.hid fun g hg => (World.ownsRow.lt h.fr.row g hg).2
  have y3 : W1.cell? ⟨w.heap.size, 3, none⟩ = some (.string nm) := by simp [World.cell?, hX1]
  have y4 : W1.cell? ⟨w.heap.size, 4, none⟩ = some (.slice aa an ac) := by simp [World.cell?, hX1]
  have h1s : w.heap.size < W1.heap.size := (Array.getElem?_eq_some_iff.1 hX1).1
  have hH1s : H < W1.heap.size := (Array.getElem?_eq_some_iff.1 hH1).1
  have HP0 := Lib.hid h1
  rw [hfn] at hH1 HNE HROW HLTO HP0 hn ⊢
  have q4 : W1.cell? ⟨H, 4, none⟩ = some (.slice fa fn fc) := by simp [World.cell?, hH1]
  have z4 := cells_free hH1 4
  rw [hnr, hnp] at hH1 ⊢
  have HH1 := Lib.hid hH1
  have HB1 := Lib.hid b1
  have HW1 := Lib.hid hW1
  have HEN := Lib.hid (show fn < 1099511627776 by omega)
  have HNR := Lib.hid (And.intro hnr hnp)
  have HFN := Lib.hid hfn
  clear h h1 h2 hfr hX1 b1 hW1 hH1 hNet hok hnr hnp hfn hA hsz
  go_enter Tryz.func31, Tryz.ntmps31
  go_upto_region 1 with fail
  rw [HW1.out]
  go_region_law (first
    | (refine step_appK _ (by rfl) (.tmp 8) (.tmp 15) 83 102 (by rfl) _ 1 8 info_fp Tryz.underlying83 (by rfl) (by decide) (by decide) 0 (.slice fa fn fc) fn (ps.map fun p => Value.pointer (some ⟨p, 0, none⟩)) (by rfl) HROW13.out [.pointer (some ⟨F, 0, none⟩)] (by rfl) (fun u hu => by rw [List.mem_singleton.1 hu]; rfl) w13.heap.size (by rfl) HNEW13.out HEN.out (Nat.zero_le _) ?_;
       intro v3 w3 own3 grow3 at3;
       obtain ⟨a3, c3, rfl, _⟩ := own_slice own3;
       have hgr : w13.grownBy w3 (Value.slice fa fn fc).ownBlock := ⟨grow3.os, grow3.tape, grow3.output, Nat.le_trans (Nat.le_of_lt HLT13.out) grow3.size, fun b hb hne => (grow3.block b (Nat.lt_trans hb HLT13.out) hne).trans (heap_alloc_old w13 _ hb)⟩;
       have hat : (Value.slice a3 (fn + 1) c3).ownBlock = (Value.slice fa fn fc).ownBlock ∨ ∃ j, (Value.slice a3 (fn + 1) c3).ownBlock = some j ∧ w13.heap.size ≤ j := at3.elim .inl fun e => .inr ⟨_, e, Nat.le_of_lt HLT13.out⟩;
       have hxb3 := (hgr.block H HHS13.out HNE.out).trans HH13.out;
       have hx3 : w3.cell? ⟨H, 4, none⟩ = some (.slice fa fn fc) := (by simp [World.cell?, hxb3]);
       have hzf3 : w3.frozen? ⟨H, 4, none⟩ = false := (by simp [World.frozen?, hxb3]);
       have hxs3 : H < w3.heap.size := Nat.lt_of_lt_of_le HHS13.out hgr.size;
       have HX3 := Lib.hid hxb3;
       have HG3 := Lib.hid hgr; have HAT3 := Lib.hid hat; have HOW3 := Lib.hid own3;
       clear own3 grow3 at3 hgr hat hxb3)
    | (go_simp; go_at_call 38; refine (HOP.out _ (by first | exact Below.refl _ _ | exact (Below.refl _ _).drew)).mono ?_; rintro e w13 ⟨F, tgo, rfl, hFM, htg, hb13⟩;
       have hH13 := (hb13.block H hH1s).trans HH1.out;
       have hrow13 := ownsRow_same HROW.out fun g hg => ((HB1.out.trans (hb13.mono HB1.out.size)).block g (HLTO.out g hg));
       have HROW13 : Hid ((w13.alloc (.cells #[.pointer (some ⟨F, 0, none⟩)] 102)).drew.ownsRow 0 102 1 (.slice fa fn fc) fn (ps.map fun p => Value.pointer (some ⟨p, 0, none⟩))) := Lib.hid (ownsRow_same (World.ownsRow.alloc hrow13 _) fun _ _ => rfl);
       have HNEW13 : Hid (∀ (j : Nat) (u : Value), [Value.pointer (some ⟨F, 0, none⟩)][j]? = some u → (w13.alloc (.cells #[.pointer (some ⟨F, 0, none⟩)] 102)).drew.cell? ⟨w13.heap.size, j, none⟩ = some u) := Lib.hid (ptr_new w13 _ 102);
       have HLT13 : Hid (w13.heap.size < (w13.alloc (.cells #[.pointer (some ⟨F, 0, none⟩)] 102)).drew.heap.size) := Lib.hid (by show _ < (w13.alloc _).heap.size; rw [World.size_alloc]; exact Nat.lt_succ_self _);
       have q4b : w13.cell? ⟨H, 4, none⟩ = some (.slice fa fn fc) := (by simp [World.cell?, hH13]);
       have hhs13 : H < w13.heap.size := (Array.getElem?_eq_some_iff.1 hH13).1;
       have HHS13 : Hid (H < w13.heap.size) := Lib.hid (Array.getElem?_eq_some_iff.1 hH13).1;
       have HH13 := Lib.hid hH13; have HFM13 := Lib.hid hFM; have HTG13 := Lib.hid htg; have HB13 := Lib.hid hb13;
       clear hH13 hrow13 hFM htg hb13))
  all_goals
    have HFIN : Hid (∃ vP F tgo, OpnM w (w3.setCell ⟨H, 4, none⟩ (.slice a3 (fn + 1) c3)) H (.slice fa fn fc) vP nr np fs ps F (openF nd 1 nm ats) tgo ∧ ∀ mn va vb, w.heap[H]? = some (.cells #[mn, va, vb, .pointer (some ⟨K, 0, none⟩), .slice fa fn fc, .slice xa xn xc, .slice ka kn kc] 87) → (w3.setCell ⟨H, 4, none⟩ (.slice a3 (fn + 1) c3)).heap[H]? = some (.cells #[mn, va, vb, .pointer (some ⟨K, 0, none⟩), vP, .slice xa xn xc, .slice ka kn kc] 87)) := Lib.hid (by
      have hb13 := HB1.out.trans (HB13.out.mono HB1.out.size)
      have hown : ∀ g, (Value.slice a3 (fn + 1) c3).ownBlock = some g → g ≠ H := by
        rintro g hg rfl
        rcases HAT3.out with e | ⟨j, e1, e2⟩
        · exact HNE.out (hg.symm.trans e)
        · rw [e1] at hg
          injection hg with hg
          have := HHS13.out
          omega
      refine ⟨.slice a3 (fn + 1) c3, F, (fun b => if b < w13.heap.size then tgo b else (1, 0)), ⟨(fr_grow (Fr.of hb13) HG3.out fun g hg => .inr hg).set H 4 _ (.inl rfl), ?_, ?_, ?_, fun b hb => ?_⟩, fun mn' va' vb' e => ?_⟩
      · rw [HFN.out, List.map_append]
        exact ownsRow_same HOW3.out fun g hg => Below.heap_setCell w3 ⟨H, 4, none⟩ _ g (hown g hg)
      · refine HAT3.out.imp id fun e => ?_
        obtain ⟨j, e1, e2⟩ := e
        exact ⟨j, e1, Nat.le_trans hb13.size e2, by show (if j < w13.heap.size then tgo j else ((1 : Nat), (0 : Nat))).1 ≠ 0; rw [if_neg (by omega)]; decide⟩
      · refine HFM13.out.keep (fun b k hb ht => ?_) (fun b k hb ht => by show (if b < w13.heap.size then tgo b else ((1 : Nat), (0 : Nat))) = _; rw [if_pos hb]; exact ht)
        have hb1 : ¬ b < W1.heap.size := fun hb => HTG13.out b hb (by rw [ht])
        have hbH : b ≠ H := by omega
        refine (Below.heap_setCell w3 ⟨H, 4, none⟩ _ b hbH).trans (HG3.out.block b hb fun e => ?_)
        have := HLTO.out b e.symm
        omega
      · show (if b < w13.heap.size then tgo b else ((1 : Nat), (0 : Nat))).1 ≠ 0
        rw [if_pos (Nat.lt_of_lt_of_le hb hb13.size)]
        exact HTG13.out b (Nat.lt_of_lt_of_le hb HB1.out.size)
      · have e2 := (hb13.block H hHs).trans e
        have e3 := (HG3.out.block H HHS13.out HNE.out).trans e2
        rw [nset_at e3]
        rfl)
    go_wp2_with fail
    exact bodyPost_end (results_none rfl _ _ _) rfl ⟨rfl, HFIN.out⟩
end
end Go.Proofs.YtkhejkfjhddobaaGreatDoor

