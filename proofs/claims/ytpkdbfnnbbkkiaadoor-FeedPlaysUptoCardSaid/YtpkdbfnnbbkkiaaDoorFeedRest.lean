/- The walks of feed's Rest and Place, of gimletlaw04.same. -/
import Derived.Test.YtpkdbfnnbbkkiaaDoorFeedPieces
namespace Gim
open Go Go.RowKit
def slen (v : Value) : Nat := match v with | .slice _ n _ => n | _ => 0
/-- what Rest answers -/
def restB (xs : List Int) (p : Pl) (e : Bool) : List Int := if (firstB (drainB xs p e).2.1 e).2.2 = 1 then (drainB xs p e).2.1 else []
end Gim
namespace Go.Proofs.YtpkdbfnnbbkkiaaDoor
open Go.RowKit Gim
set_option maxHeartbeats 2000000 in
theorem same4_calls (w : World) (ao : Option Addr) (n cap : Nat) (xs : List Int) (h : Rd w .u8 ao n cap xs) (ao2 : Option Addr) (cap2 : Nat) (h2 : Rd w .u8 ao2 n cap2 xs) (hn : n ≤ 1125899906842624) :
    Calls Tryd.prog 18 #[.slice ao n cap, .slice ao2 n cap2] w fun e w' => e = .returned (.bool true) ∧ Drew w w' := by
  go_enter Tryd.func18, Tryd.ntmps18
  go_wp2
  go_loopw [5] (fun y wr => ∃ i : Nat, y = .int .i64 i ∧ i ≤ n ∧ Drew w wr) (fun y _ => n - (intOf y).toNat)
  case atStart => exact ⟨0, rfl, by omega, Drew.refl _⟩
  case round =>
    obtain ⟨i, rfl, hi, hd⟩ := hrel
    by_cases hin : i < n
    · obtain ⟨b, o, rfl, hb, hc⟩ := (h.below (hd.below _)).cell i hin
      obtain ⟨b2, o2, rfl, hb2, hc2⟩ := (h2.below (hd.below _)).cell i hin
      have k1 := hc i hin
      have k2 := hc2 i hin
      obtain ⟨x, hx⟩ : ∃ x, x = gt xs i := ⟨_, rfl⟩
      rw [← hx] at k1 k2
      clear hx hc hc2
      go_wp2
      go_quiet (fail)
      go_wp2
      go_roundw
      case rel => exact ⟨i + 1, by go_num, by omega, hd.drewN nq⟩
      case measure => simp [RowKit.intOf]; omega
    · obtain rfl : i = n := by omega
      go_wp2
      go_ret
      exact ⟨rfl, hd⟩
set_option maxHeartbeats 1000000 in
theorem place_feed (w : World) (B F : Nat) (v : Value) (xs : List Int) (p : Int × Int × Int × Int) (ended : Bool) (h : Fm w B F v xs p ended) :
    Calls Tryd.prog 17 #[.pointer (some ⟨F, 0, none⟩)] w fun e w' => e = .returned (.agg #[.int .i64 p.1, .int .i64 p.2.1, .int .i64 p.2.2.1, .int .i64 p.2.2.2]) ∧ Below w.heap.size w w' := by
  have b0 : Below w.heap.size w (w.alloc (Obj.cells #[.int .i64 0, .int .i64 0, .int .i64 0, .int .i64 0] 27)) := (Below.refl _ _).alloc (Nat.le_refl _) _
  have h1 := h.fresh b0
  have hF := h1.hF
  obtain ⟨p1, p2, p3, p4⟩ := p
  simp only [] at hF ⊢
  have k1 : (w.alloc (Obj.cells #[.int .i64 0, .int .i64 0, .int .i64 0, .int .i64 0] 27)).cell? ⟨F, 1, none⟩ = some (.int .i64 p1) := by simp [World.cell?, hF]
  have k2 : (w.alloc (Obj.cells #[.int .i64 0, .int .i64 0, .int .i64 0, .int .i64 0] 27)).cell? ⟨F, 2, none⟩ = some (.int .i64 p2) := by simp [World.cell?, hF]
  have k3 : (w.alloc (Obj.cells #[.int .i64 0, .int .i64 0, .int .i64 0, .int .i64 0] 27)).cell? ⟨F, 3, none⟩ = some (.int .i64 p3) := by simp [World.cell?, hF]
  have k4 : (w.alloc (Obj.cells #[.int .i64 0, .int .i64 0, .int .i64 0, .int .i64 0] 27)).cell? ⟨F, 4, none⟩ = some (.int .i64 p4) := by simp [World.cell?, hF]
  have y0 := heap_alloc_new w (Obj.cells #[.int .i64 0, .int .i64 0, .int .i64 0, .int .i64 0] 27)
  go_enter Tryd.func17, Tryd.ntmps17
  go_wp2
  have hn := heap_alloc_new w (Obj.cells #[.int .i64 p1, .int .i64 p2, .int .i64 p3, .int .i64 p4] 27)
  have hb : Below w.heap.size w (w.alloc (Obj.cells #[.int .i64 p1, .int .i64 p2, .int .i64 p3, .int .i64 p4] 27)) := (Below.refl _ _).alloc (Nat.le_refl _) _
  generalize w.alloc (Obj.cells #[.int .i64 p1, .int .i64 p2, .int .i64 p3, .int .i64 p4] 27) = W at hn hb ⊢
  have j0 : W.cell? ⟨w.heap.size, 0, none⟩ = some (.int .i64 p1) := by simp [World.cell?, hn]
  have j1 : W.cell? ⟨w.heap.size, 1, none⟩ = some (.int .i64 p2) := by simp [World.cell?, hn]
  have j2 : W.cell? ⟨w.heap.size, 2, none⟩ = some (.int .i64 p3) := by simp [World.cell?, hn]
  have j3 : W.cell? ⟨w.heap.size, 3, none⟩ = some (.int .i64 p4) := by simp [World.cell?, hn]
  refine ⟨rfl, .agg #[.int .i64 p1, .int .i64 p2, .int .i64 p3, .int .i64 p4], ?_, rfl, hb⟩
  simp [results, Tryd.f17, go_sem, j0, j1, j2, j3]
def Rested (w : World) (R : List Int) (e : Ending) (w' : World) : Prop := ∃ v, e = .returned v ∧ Row w' w.heap.size 5 .u8 v R ∧ Below w.heap.size w w'
set_option maxRecDepth 100000 in
set_option maxHeartbeats 2000000 in
theorem rest_calls (w : World) (B F : Nat) (v : Value) (xs : List Int) (p : Int × Int × Int × Int) (ended : Bool) (h : Fm w B F v xs p ended) (hT : U8 w) (hn : xs.length ≤ 70368744177664) :
    Calls Tryd.prog 16 #[.pointer (some ⟨F, 0, none⟩)] w (Rested w (restB xs p ended)) := by
  have k0 : w.cell? ⟨F, 0, none⟩ = some v := by simp [World.cell?, h.hF]
  obtain ⟨R, hR⟩ : ∃ R, Hid (R = restB xs p ended) := ⟨_, rfl⟩
  rw [← hR.out]
  unfold Rested
  have hm := Lib.hid h
  obtain ⟨ao, cap, rfl, rd, hnn⟩ := h.own.rd
  go_enter Tryd.func16, Tryd.ntmps16
  go_wp2
  go_loopw [3] (fun v3 wr => ∃ (a : Option Addr) (m c : Nat) (ys : List Int) (q : Pl), v3 = .slice a m c ∧ Rb wr a m c ys ∧ (a = none → m = 0 ∧ c = 0) ∧ m ≤ xs.length ∧ Below w.heap.size w wr ∧ Hid (restB ys q ended = R)) (fun v3 wr => slen v3)
  case atStart => exact ⟨_, _, _, xs, p, rfl, ⟨rd, fun j hj => gt_all rfl hm.out.by_ j hj⟩, hnn, Nat.le_refl _, Below.refl _ _, Lib.hid hR.out.symm⟩
  case round =>
    obtain ⟨a, m, c, ys, q, rfl, rb, hno, hml, hb, H⟩ := hrel
    have k5 : wr.cell? ⟨F, 5, none⟩ = some (.bool ended) := by simp [World.cell?, (hm.out.fresh hb).hF]
    have hC := first_calls wr a m c ys ended rb (hT.below hb) (by omega)
    unfold FirstP at hC
    have hf1 := @first_have ys ended
    obtain ⟨f, hff⟩ : ∃ f, Hid (f = firstB ys ended) := ⟨_, rfl⟩
    rw [← hff.out] at hC hf1
    have hyl := rb.rd.len
    have hyc := rb.rd.le
    have hyc2 := rb.rd.cap_le
    by_cases h1 : f.2.2 = 1
    · have hRe : R = ys := by
        rw [← H.out]
        unfold restB
        rw [drainB_stop (by rw [← hff.out, h1]; decide)]
        show (if (firstB ys ended).2.2 = 1 then ys else []) = ys
        rw [if_pos (by rw [← hff.out]; exact h1)]
      have HRE := Lib.hid hRe
      obtain ⟨f1, f2, f3⟩ := f
      simp only [] at h1 hC
      subst h1
      have HC := Lib.hid hC
      clear hC hRe hff H hf1
      go_wp2_with fail
      refine HC.out.mono ?_
      rintro e w2 ⟨rfl, b2⟩
      have rd2 := (rb.below b2).rd
      have hb2 := hb.trans (b2.mono hb.size)
      clear HC b2
      go_wp2_with (at_builtin; refine append_rd _ rfl _ _ rfl w2.heap.size (.slice none 0 0) [] rfl (World.ownsRow_nil _ _ _ _) a m c ys rfl rd2 hno (by simp; omega) (by simp) ?_; intro v3 w3 hrow3 hgrow3)
      go_ret
      rw [List.nil_append] at hrow3
      have b3 : Below w2.heap.size w2 w3 := (Below.refl _ _).grown hgrow3 (Nat.le_refl _) (fun j hj => by simp [Value.ownBlock] at hj)
      refine ⟨v3, rfl, ?_, hb2.trans (b3.mono hb2.size)⟩
      rw [HRE.out]
      exact Row.mono hrow3 hb2.size
    · by_cases h0 : f.2.2 = 0
      · have hfw := hf1 h0
        have hRd := H.out
        unfold restB at hRd
        rw [drainB_have (by rw [← hff.out]; exact h0)] at hRd
        rw [← hff.out] at hRd
        obtain ⟨f1, f2, f3⟩ := f
        simp only [] at h0 hC hfw hRd
        subst h0
        obtain ⟨k, rfl⟩ : ∃ k : Nat, f2 = k := ⟨f2.toNat, by omega⟩
        have hk : k ≤ m := by omega
        have hbq : ∀ j, j < m - k → 0 ≤ gt (ys.drop k) j ∧ gt (ys.drop k) j ≤ 255 := fun j hj => by
          have := rb.by_ (k + j) (by omega)
          rw [show gt (ys.drop k) j = gt ys (k + j) from by simp [gt]]
          exact this
        have HC := Lib.hid hC
        have HRd := Lib.hid hRd
        clear hC hRd hff H hf1 h1
        go_wp2_with fail
        refine HC.out.mono ?_
        rintro e w2 ⟨rfl, b2⟩
        clear HC
        have rd2 := ((rb.below b2).rd).drop hk
        have hb2 := hb.trans (b2.mono hb.size)
        clear b2
        go_wp2_with fail
        go_roundw
        case rel =>
          exact ⟨_, m - k, c - k, ys.drop k, behind q f1 k, rfl, ⟨rd2, hbq⟩, fun hh => by (first | (split at hh) | skip); all_goals simp_all; all_goals omega, by omega, hb2, Lib.hid HRd.out⟩
        case measure => simp [slen]; omega
      · have hRe : R = [] := by
          rw [← H.out]
          unfold restB
          rw [drainB_stop (by rw [← hff.out]; exact h0)]
          show (if (firstB ys ended).2.2 = 1 then ys else []) = []
          rw [if_neg (by rw [← hff.out]; exact h1)]
        have HRE := Lib.hid hRe
        obtain ⟨f1, f2, f3⟩ := f
        simp only [] at h1 h0 hC
        have hne : (f3 == 1) = false := beq_eq_false_iff_ne.2 h1
        have hne0 : (f3 == 0) = false := beq_eq_false_iff_ne.2 h0
        have HC := Lib.hid hC
        clear hC hRe hff H hf1
        go_wp2_with fail
        refine HC.out.mono ?_
        rintro e w2 ⟨rfl, b2⟩
        clear HC
        go_wp2_with fail
        go_ret
        exact ⟨_, rfl, by rw [HRE.out]; exact World.ownsRow_nil _ _ _ _, hb.trans (b2.mono hb.size)⟩
end Go.Proofs.YtpkdbfnnbbkkiaaDoor
