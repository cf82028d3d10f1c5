/- (*Check).Take of gimlet/tree, at the opening of an element without attributes. -/
import Derived.Test.YtkhejkfjhddobaaGreatDoorHoStateM
namespace Gim
open Go Go.RowKit
/-- an open element as it is held -/
def cellE (num dep : Int) (nm : ByteArray) : List Value := [.int .i64 0, .int .i64 num, .int .i64 dep, .string nm, .slice none 0 0, .string ⟨#[]⟩, .int .i64 0, .int .i64 0]
theorem cellE_one (num dep : Int) (nm : ByteArray) : ∀ u ∈ cellE num dep nm, u.oneCell' = true := by
  intro u hu
  simp only [cellE, List.mem_cons, List.not_mem_nil, or_false] at hu
  rcases hu with rfl | rfl | rfl | rfl | rfl | rfl | rfl | rfl <;> rfl
theorem cellE_new (w : World) (num dep : Int) (nm : ByteArray) (t : TypeId) : ∀ j u, (cellE num dep nm)[j]? = some u → (w.alloc (.cells (cellE num dep nm).toArray t)).cell? ⟨w.heap.size, j, none⟩ = some u := by
  intro j u hj
  have hn := heap_alloc_new w (.cells (cellE num dep nm).toArray t)
  unfold World.cell?
  rw [hn]
  simpa using hj
end Gim
namespace Go.Proofs.YtkhejkfjhddobaaGreatDoor
open Go.RowKit Gim
theorem info_ev : (Tryz.prog.info? 45).map (fun i => (i.zero, i.size, i.bytes)) = some (some (.agg #[.int .i64 0, .int .i64 0, .int .i64 0, .string ByteArray.empty, .slice none 0 0, .string ByteArray.empty, .int .i64 0, .int .i64 0]), 8, 96) := by kernel_rfl
/-- the check, without tags -/
structure CkM (n0 : Nat) (w W : World) (K : Nat) (vO vP : Value) (en : Nat) (es : List Value) (num : Int) (tx dn : Bool) : Prop where
  fr : Fr (fun b => b = K ∨ vO.ownBlock = some b) w W
  hK : W.heap[K]? = some (.cells #[vP, .int .i64 num, .bool tx, .bool dn] 101)
  row : W.ownsRow n0 45 8 vP en es
  at_ : vP.ownBlock = vO.ownBlock ∨ ∃ j, vP.ownBlock = some j ∧ w.heap.size ≤ j
theorem fr_grow {p : Nat → Prop} {w a b : World} {own : Option Nat} (h : Fr p w a) (hg : a.grownBy b own) (hp : ∀ g, own = some g → p g) : Fr p w b :=
  ⟨hg.os.trans h.os, hg.tape.trans h.tape, hg.output.trans h.output, Nat.le_trans h.size hg.size, fun j hj hn => (hg.block j (Nat.lt_of_lt_of_le hj h.size) fun e => hn (hp j e.symm)).trans (h.block j hj hn)⟩
section
attribute [local go_sem ↓] Go.wp_at_zero Go.wp_at_succ
set_option maxRecDepth 100000 in
set_option maxHeartbeats 32000000 in
theorem ctake_calls {tg : Nat → Nat × Nat} {K : Nat} {vO : Value} {en : Nat} {es : List Value} {num : Int} {tx : Bool} (nm : ByteArray) (w : World) (h : ChkP w tg K vO en es num tx false) (hT : Laid w) (hs : nm.size ≤ 9223372036854775807) (hen : en ≤ 1048576) (hb : nameB nm = true) (h0 : 0 < en ∨ num = 0) (hnum : 0 ≤ num ∧ num ≤ 1099511627776) :
    Calls Tryz.prog 30 #[.pointer (some ⟨K, 0, none⟩), .agg #[.int .i64 0, .int .i64 num, .int .i64 ((en : Int) + 1), .string nm, .slice none 0 0, .string ⟨#[]⟩, .int .i64 0, .int .i64 0]] w fun e w' => e = .returned (.bool true) ∧ ∃ vP, CkM 0 w w' K vO vP (en + 1) (es ++ cellE num ((en : Int) + 1) nm) (num + 1) false false := by
  obtain ⟨W1, hW1⟩ : ∃ W1, w.alloc (.cells #[.int .i64 0, .int .i64 num, .int .i64 ((en : Int) + 1), .string nm, .slice none 0 0, .string ⟨#[]⟩, .int .i64 0, .int .i64 0] 45) = W1 := ⟨_, rfl⟩
  have b1 : Below w.heap.size w W1 := by rw [← hW1]; exact (Below.refl _ _).alloc (Nat.le_refl _) _
  have hX1 : W1.heap[w.heap.size]? = some (.cells #[.int .i64 0, .int .i64 num, .int .i64 ((en : Int) + 1), .string nm, .slice none 0 0, .string ⟨#[]⟩, .int .i64 0, .int .i64 0] 45) := by rw [← hW1]; exact heap_alloc_new _ _
  obtain ⟨oa, oc, rfl, _⟩ := own_slice h.row
  have hKs := (Array.getElem?_eq_some_iff.1 h.hK).1
  have h1 : ChkP W1 tg K (.slice oa en oc) en es num tx false := h.keep fun b hl _ => ⟨b1.block b hl, rfl⟩
  have hK1 := h1.hK
  have y0 : W1.cell? ⟨w.heap.size, 0, none⟩ = some (.int .i64 0) := by simp [World.cell?, hX1]
  have y1 : W1.cell? ⟨w.heap.size, 1, none⟩ = some (.int .i64 num) := by simp [World.cell?, hX1]
  have y2 : W1.cell? ⟨w.heap.size, 2, none⟩ = some (.int .i64 ((en : Int) + 1)) := by simp [World.cell?, hX1]
  have y3 : W1.cell? ⟨w.heap.size, 3, none⟩ = some (.string nm) := by simp [World.cell?, hX1]
  have y4 : W1.cell? ⟨w.heap.size, 4, none⟩ = some (.slice none 0 0) := by simp [World.cell?, hX1]
  have y5 : W1.cell? ⟨w.heap.size, 5, none⟩ = some (.string ⟨#[]⟩) := by simp [World.cell?, hX1]
  have y6 : W1.cell? ⟨w.heap.size, 6, none⟩ = some (.int .i64 0) := by simp [World.cell?, hX1]
  have y7 : W1.cell? ⟨w.heap.size, 7, none⟩ = some (.int .i64 0) := by simp [World.cell?, hX1]
  have k3 : W1.cell? ⟨K, 3, none⟩ = some (.bool false) := by simp [World.cell?, hK1]
  have h1s : w.heap.size < W1.heap.size := (Array.getElem?_eq_some_iff.1 hX1).1
  have hK1s : K < W1.heap.size := (Array.getElem?_eq_some_iff.1 hK1).1
  have HOP := Lib.hid (opens_calls 0 nm (.int .i64 0) (.int .i64 0) W1 h1 (hT.below b1) hs (by omega) hb)
  have HB1 := Lib.hid b1
  have HW1 := Lib.hid hW1
  have HX1 := Lib.hid hX1
  have HK1 := Lib.hid hK1
  have HROW := Lib.hid h1.row
  have HNE : Hid (some K ≠ (Value.slice oa en oc).ownBlock) := Lib.hid fun e => by
    have h2 := h.tg4 K e.symm
    rw [h.tK] at h2
    cases h2
  have HLT : Hid (∀ g, (Value.slice oa en oc).ownBlock = some g → g < w.heap.size) := Lib.hid fun g hg => (World.ownsRow.lt h.row g hg).2
  have H0 := Lib.hid h0
  have HNUM := Lib.hid hnum
  clear hX1 b1 hW1 hK1 h h1 hT hs hb h0 hnum
  go_enter Tryz.func30, Tryz.ntmps30
  go_upto_region 1 with fail
  rw [HW1.out]
  go_upto_block 0 with fail
  go_cut [5] from 13 to 102 (fun v wx => v = .bool true ∧ Below W1.heap.size W1 wx)
  case first =>
    go_wp2_with fail
    refine HOP.out.mono ?_
    rintro e w2 ⟨rfl, hb2⟩
    have hK2 := (hb2.block K hK1s).trans HK1.out
    have k0 : w2.cell? ⟨K, 0, none⟩ = some (.slice oa en oc) := by simp [World.cell?, hK2]
    have k1 : w2.cell? ⟨K, 1, none⟩ = some (.int .i64 num) := by simp [World.cell?, hK2]
    have HB2 := Lib.hid hb2
    clear hK2 hb2
    by_cases he : 0 < en
    · have he' : (0 : Int) < en := by omega
      go_wp2_with fail
      go_meet
      exact ⟨rfl, HB2.out⟩
    · have h00 : en = 0 := by omega
      have hnn : num = 0 := H0.out.resolve_left he
      subst h00 hnn
      go_wp2_with fail
      go_meet
      exact ⟨rfl, HB2.out⟩
  case rest =>
  obtain ⟨rfl, hb2⟩ := hcut
  have hK2 := (hb2.block K hK1s).trans HK1.out
  have hX2 := (hb2.block _ h1s).trans HX1.out
  have y0 : wc.cell? ⟨w.heap.size, 0, none⟩ = some (.int .i64 0) := by simp [World.cell?, hX2]
  have k2 : wc.cell? ⟨K, 2, none⟩ = some (.bool tx) := by simp [World.cell?, hK2]
  have zk := cells_free hK2 2
  have hKc : K < wc.heap.size := (Array.getElem?_eq_some_iff.1 hK2).1
  have hXc : w.heap.size < wc.heap.size := (Array.getElem?_eq_some_iff.1 hX2).1
  have hKX : w.heap.size ≠ K := by omega
  have HB2 := Lib.hid hb2
  have HK2 := Lib.hid hK2
  have HX2 := Lib.hid hX2
  clear hb2 hK2 hX2
  have HW5 : Hid (∃ W5, wc.setCell ⟨K, 2, none⟩ (.bool false) = W5 ∧ W5.heap[K]? = some (.cells #[.slice oa en oc, .int .i64 num, .bool false, .bool false] 101) ∧ W5.heap[w.heap.size]? = some (.cells #[.int .i64 0, .int .i64 num, .int .i64 ((en : Int) + 1), .string nm, .slice none 0 0, .string ⟨#[]⟩, .int .i64 0, .int .i64 0] 45) ∧ W5.ownsRow 0 45 8 (.slice oa en oc) en es ∧ Fr (fun b => b = K ∨ (Value.slice oa en oc).ownBlock = some b) w W5) := Lib.hid (by
    have hb := HB1.out.trans (HB2.out.mono HB1.out.size)
    refine ⟨_, rfl, by rw [nset_at HK2.out]; rfl, (Below.heap_setCell wc ⟨K, 2, none⟩ _ _ hKX).trans HX2.out, ownsRow_same HROW.out fun g hg => ?_, (Fr.of hb).set K 2 _ (.inl rfl)⟩
    have h1 := HLT.out g hg
    have h2 : g ≠ K := by
      rintro rfl
      exact HNE.out hg.symm
    exact (Below.heap_setCell wc ⟨K, 2, none⟩ _ g h2).trans (HB2.out.block g (Nat.lt_trans h1 h1s)))
  go_upto_region 15 with fail
  obtain ⟨W5, hW5, hK5, hX5, hR5, hF5⟩ := HW5.out
  rw [hW5]
  have k0 : W5.cell? ⟨K, 0, none⟩ = some (.slice oa en oc) := by simp [World.cell?, hK5]
  have zk0 := cells_free hK5 0
  have y1 : W5.cell? ⟨w.heap.size, 1, none⟩ = some (.int .i64 num) := by simp [World.cell?, hX5]
  have y2 : W5.cell? ⟨w.heap.size, 2, none⟩ = some (.int .i64 ((en : Int) + 1)) := by simp [World.cell?, hX5]
  have y3 : W5.cell? ⟨w.heap.size, 3, none⟩ = some (.string nm) := by simp [World.cell?, hX5]
  have hK5s : K < W5.heap.size := (Array.getElem?_eq_some_iff.1 hK5).1
  have hX5s : w.heap.size < W5.heap.size := (Array.getElem?_eq_some_iff.1 hX5).1
  have HROW5 : Hid ((W5.alloc (.cells #[.int .i64 0, .int .i64 num, .int .i64 ((en : Int) + 1), .string nm, .slice none 0 0, .string ⟨#[]⟩, .int .i64 0, .int .i64 0] 45)).drew.ownsRow 0 45 8 (.slice oa en oc) en es) := Lib.hid (ownsRow_same (World.ownsRow.alloc hR5 _) fun _ _ => rfl)
  have HNEW : Hid (∀ j u, (cellE num ((en : Int) + 1) nm)[j]? = some u → (W5.alloc (.cells #[.int .i64 0, .int .i64 num, .int .i64 ((en : Int) + 1), .string nm, .slice none 0 0, .string ⟨#[]⟩, .int .i64 0, .int .i64 0] 45)).drew.cell? ⟨W5.heap.size, j, none⟩ = some u) := Lib.hid (cellE_new W5 num ((en : Int) + 1) nm 45)
  have HLT5 : Hid (W5.heap.size < (W5.alloc (.cells #[.int .i64 0, .int .i64 num, .int .i64 ((en : Int) + 1), .string nm, .slice none 0 0, .string ⟨#[]⟩, .int .i64 0, .int .i64 0] 45)).drew.heap.size) := Lib.hid (by show _ < (W5.alloc _).heap.size; rw [World.size_alloc]; exact Nat.lt_succ_self _)
  have HK5 := Lib.hid hK5
  have HF5 := Lib.hid hF5
  have HEN := Lib.hid (show en < 1099511627776 by omega)
  clear hW5 HW5 hK5 hX5 hR5 hF5 k2 zk y0 HK2 HX2
  go_cut [] from 115 to 130 (fun wx => ∃ vP, CkM 0 w wx K (.slice oa en oc) vP (en + 1) (es ++ cellE num ((en : Int) + 1) nm) num false false)
  case first =>
    go_region_law (first
      | (refine step_appK _ (by rfl) (.tmp 119) (.tmp 127) 22 45 (by rfl) _ 8 96 info_ev Tryz.underlying22 (by rfl) (by decide) (by decide) 0 (.slice oa en oc) en es (by rfl) HROW5.out (cellE num ((en : Int) + 1) nm) (by rfl) (cellE_one _ _ _) W5.heap.size (by rfl) HNEW.out HEN.out (Nat.zero_le _) ?_;
         intro v3 w3 own3 grow3 at3;
         obtain ⟨a3, c3, rfl, _⟩ := own_slice own3;
         have hgr : W5.grownBy w3 (Value.slice oa en oc).ownBlock := ⟨grow3.os, grow3.tape, grow3.output, Nat.le_trans (Nat.le_of_lt HLT5.out) grow3.size, fun b hb hne => (grow3.block b (Nat.lt_trans hb HLT5.out) hne).trans (heap_alloc_old W5 _ hb)⟩;
         have hat : (Value.slice a3 (en + 1) c3).ownBlock = (Value.slice oa en oc).ownBlock ∨ ∃ j, (Value.slice a3 (en + 1) c3).ownBlock = some j ∧ W5.heap.size ≤ j := at3.elim .inl fun e => .inr ⟨_, e, Nat.le_of_lt HLT5.out⟩;
         have hxb3 := (hgr.block _ hK5s HNE.out).trans HK5.out;
         have hx3 : w3.cell? ⟨K, 0, none⟩ = some (.slice oa en oc) := (by simp [World.cell?, hxb3]);
         have hzf3 : w3.frozen? ⟨K, 0, none⟩ = false := (by simp [World.frozen?, hxb3]);
         have hxs3 : K < w3.heap.size := Nat.lt_of_lt_of_le hK5s hgr.size;
         have HX3 := Lib.hid hxb3;
         have HG3 := Lib.hid hgr; have HAT3 := Lib.hid hat; have HOW3 := Lib.hid own3;
         clear own3 grow3 at3 hgr hat hxb3))
    all_goals
      go_wp2_with fail
      go_meet
      refine ⟨.slice a3 (en + 1) c3, ((fr_grow HF5.out HG3.out fun g hg => .inr hg).set K 0 _ (.inl rfl)), by rw [nset_at HX3.out]; rfl, ownsRow_same HOW3.out fun g hg => Below.heap_setCell w3 ⟨K, 0, none⟩ _ g ?_, HAT3.out.imp id fun e => ?_⟩
      · rintro rfl
        rcases HAT3.out with e | ⟨j, e1, e2⟩
        · exact HNE.out (hg.symm.trans e)
        · rw [e1] at hg
          injection hg with hg
          omega
      · obtain ⟨j, e1, e2⟩ := e
        exact ⟨j, e1, by omega⟩
  case rest =>
  obtain ⟨vP, hm⟩ := hcut
  have k1 : wc.cell? ⟨K, 1, none⟩ = some (.int .i64 num) := by simp [World.cell?, hm.hK]
  have zk1 := cells_free hm.hK 1
  have hn0 := HNUM.out.1
  have hn1 := HNUM.out.2
  have hKw : K < wc.heap.size := (Array.getElem?_eq_some_iff.1 hm.hK).1
  have HFIN : Hid (CkM 0 w (wc.setCell ⟨K, 1, none⟩ (.int .i64 (num + 1))) K (.slice oa en oc) vP (en + 1) (es ++ cellE num ((en : Int) + 1) nm) (num + 1) false false) := Lib.hid (by
    refine ⟨hm.fr.set K 1 _ (.inl rfl), by rw [nset_at hm.hK]; rfl, ownsRow_same hm.row fun g hg => Below.heap_setCell wc ⟨K, 1, none⟩ _ g ?_, hm.at_⟩
    rintro rfl
    rcases hm.at_ with e | ⟨j, e1, e2⟩
    · exact HNE.out (hg.symm.trans e)
    · rw [e1] at hg
      injection hg with hg
      omega)
  clear hm k0 zk0 y1 y2 y3
  go_wp2_with fail
  go_ret
  exact ⟨rfl, vP, HFIN.out⟩
end
end Go.Proofs.YtkhejkfjhddobaaGreatDoor

