/- The walk of gimletlaw04.pieces. -/
import Derived.Test.YtpkdbfnnbbkkiaaDoorFeedDrainWalk
import Derived.Test.YtpkdbfnnbbkkiaaDoorHanded
import Derived.Deep.DeepCutAuto
namespace Gim
open Go Go.RowKit
theorem tmod_into (n m : Int) (hm : 0 < m) : (n.tmod m + m).tmod m = n % m := by
  have h1 := Int.tmod_lt_of_pos n hm
  have h2 : -m < n.tmod m := by
    have := Int.tmod_lt_of_pos (-n) hm
    rw [Int.neg_tmod] at this
    omega
  rw [Int.tmod_eq_emod_of_nonneg (by omega), Int.add_emod_right, Int.tmod_def, Int.sub_mul_emod_self_left]
/-- what was given, what lies, and what is still to come, come to the whole -/
def PH (b : List Int) (D : List Ch6 × List Int × Pl) (i : Nat) (done : List Ch6) (ys : List Int) (q : Pl) : Prop :=
  D = (done ++ (drainB (ys ++ b.drop i) q true).1, (drainB (ys ++ b.drop i) q true).2)
theorem PH.next {b : List Int} {D : List Ch6 × List Int × Pl} {i : Nat} {done : List Ch6} {ys : List Int} {q : Pl} (h : PH b D i done ys q) (k : Nat) (hb : ∀ x ∈ b, 0 ≤ x ∧ x ≤ 255) (hy : ∀ x ∈ ys, 0 ≤ x ∧ x ≤ 255) :
    PH b D (i + k) (done ++ (drainB (ys ++ (b.drop i).take k) q false).1) (drainB (ys ++ (b.drop i).take k) q false).2.1 (drainB (ys ++ (b.drop i).take k) q false).2.2 := by
  unfold PH at *
  have e : ys ++ b.drop i = (ys ++ (b.drop i).take k) ++ b.drop (i + k) := by
    rw [List.append_assoc, ← List.drop_drop, List.take_append_drop]
  have hm := drainB_more (ys := b.drop (i + k)) true _ (ys ++ (b.drop i).take k) q (Nat.le_refl _) (fun x hx => by
    rw [← e] at hx
    exact (List.mem_append.1 hx).elim (hy x) (fun hx => hb x (List.mem_of_mem_drop hx)))
  rw [e, hm] at h
  rw [h, List.append_assoc]
theorem PH.bad {b : List Int} {D : List Ch6 × List Int × Pl} {i : Nat} {done : List Ch6} {ys : List Int} {q : Pl} (h : PH b D i done ys q) (hb : ∀ x ∈ b, 0 ≤ x ∧ x ≤ 255) (hy : ∀ x ∈ ys, 0 ≤ x ∧ x ≤ 255) (h2 : (firstB ys false).2.2 = 2) :
    D.1 = done ∧ peekB D.2.1 D.2.2 true = peekB ys q false := by
  have hm := first_more (xs := ys) (ys := b.drop i) (fun x hx => (List.mem_append.1 hx).elim (hy x) (fun hx => hb x (List.mem_of_mem_drop hx))) true (by rw [h2]; decide)
  have hs := drainB_stop (xs := ys ++ b.drop i) (p := q) (e := true) (by rw [hm, h2]; decide)
  unfold PH at h
  rw [hs] at h
  subst h
  refine ⟨by simp, ?_⟩
  show peekB (ys ++ b.drop i) q true = _
  unfold peekB
  rw [hm]
theorem PH.end {b : List Int} {D : List Ch6 × List Int × Pl} {i : Nat} {done : List Ch6} {ys : List Int} {q : Pl} (h : PH b D i done ys q) (hi : b.length ≤ i) : D = (done ++ (drainB ys q true).1, (drainB ys q true).2) := by
  unfold PH at h
  rw [List.drop_eq_nil_of_le hi, List.append_nil] at h
  exact h
theorem peek_range (xs : List Int) (p : Pl) (e : Bool) : (peekB xs p e).2 = (firstB xs e).2.2 := by
  unfold peekB
  split
  · rename_i h; exact h.symm
  · split
    · rename_i h; exact h.symm
    · rfl
end Gim
namespace Go.Proofs.YtpkdbfnnbbkkiaaDoor
open Go.RowKit Gim
set_option maxHeartbeats 1000000 in
theorem into_calls (n m : Int) (hm : 0 < m) (hm2 : m ≤ 4611686018427387904) (w : World) :
    Calls Tryd.prog 26 #[.int .i64 n, .int .i64 m] w fun e w' => e = .returned (.int .i64 (n % m)) ∧ w' = w := by
  have hz : (m == 0) = false := beq_eq_false_iff_ne.2 (by omega)
  have hz2 : ¬ m = 0 := by omega
  have h1 := Int.tmod_lt_of_pos n hm
  have h2 : -m < n.tmod m := by
    have := Int.tmod_lt_of_pos (-n) hm
    rw [Int.neg_tmod] at this
    omega
  have h3 := tmod_into n m hm
  go_enter Tryd.func26, Tryd.ntmps26
  go_wp2
  go_ret
  exact ⟨rfl, rfl⟩
theorem row_empty (w : World) (t : TypeId) (k : IntKind) (B : Nat) (hB : B ≤ w.heap.size) : Row (w.alloc (.cells #[] t)) B t k (.slice (some ⟨w.heap.size, 0, none⟩) 0 0) [] :=
  ⟨by simp, .inr ⟨w.heap.size, 0, #[], rfl, hB, heap_alloc_new w _, by simp, by unfold maxLen; omega, by simp, by simp⟩⟩
theorem Row.rd2 {w : World} {B : Nat} {e : TypeId} {k : IntKind} {v : Value} {xs : List Int} (h : Row w B e k v xs) : ∃ ao cap, v = .slice ao xs.length cap ∧ Rd w k ao xs.length cap xs ∧ (ao = none → xs.length = 0 ∧ cap = 0) := by
  obtain ⟨ao, cap, e1, rd⟩ := h.rd
  refine ⟨ao, cap, e1, rd, fun hn => ?_⟩
  rcases h.2 with ⟨h1, h2⟩ | ⟨g, cap, cur, h1, _⟩
  · rw [e1] at h1
    simp only [Value.slice.injEq] at h1
    omega
  · rw [e1] at h1
    simp only [Value.slice.injEq] at h1
    rw [hn] at h1
    cases h1.1
theorem Rd.mid {w : World} {k : IntKind} {b o n cap : Nat} {xs : List Int} (h : Rd w k (some ⟨b, o, none⟩) n cap xs) {p m : Nat} (hm : p + m ≤ n) (h0 : p < cap) : Rd w k (some ⟨b, o + p, none⟩) m (cap - p) ((xs.drop p).take m) := by
  have rbd := h.drop (m := p) (by omega)
  rw [if_neg (by omega)] at rbd
  replace rbd : Rd w k (some ⟨b, o + p, none⟩) (n - p) (cap - p) (xs.drop p) := by simpa [Addr.add_lit] using rbd
  exact rbd.take (by omega)
theorem Row6.neF {w : World} {B B' F : Nat} {v vf : Value} {cs : List Ch6} {xs : List Int} {p : Pl} {e : Bool} (h : Row6 w B v cs) (m : Fm w B' F vf xs p e) : ∀ g, v.ownBlock = some g → g ≠ F := by
  rintro g hg rfl
  obtain ⟨_, cur, fr, hc⟩ := h.ty g hg
  rw [m.hF] at hc
  injection hc with hc
  injection hc with _ h2
  exact absurd h2 (by decide)
theorem Row6.neV {w : World} {B B' F : Nat} {v vf : Value} {cs : List Ch6} {xs : List Int} {p : Pl} {e : Bool} (h : Row6 w B v cs) (m : Fm w B' F vf xs p e) : ∀ g, v.ownBlock = some g → blk vf ≠ some g := by
  intro g hg hk
  obtain ⟨_, cur, fr, hc⟩ := h.ty g hg
  obtain ⟨_, cur2, hc2⟩ := m.own.lt g hk
  rw [hc2] at hc
  injection hc with hc
  injection hc with _ h2
  exact absurd h2 (by decide)
/-- what pieces hands back -/
def PiecesP (w : World) (b : List Int) (E : Ending) (w' : World) : Prop :=
  ∃ vs, E = .returned (.tuple #[vs, charV (peekB (drainB b (0, 0, 1, 1) true).2.1 (drainB b (0, 0, 1, 1) true).2.2 true).1, .int .i64 (peekB (drainB b (0, 0, 1, 1) true).2.1 (drainB b (0, 0, 1, 1) true).2.2 true).2]) ∧ Row6 w' w.heap.size vs (drainB b (0, 0, 1, 1) true).1 ∧ Below w.heap.size w w'
set_option maxRecDepth 100000 in
set_option maxHeartbeats 4000000 in
theorem pieces_calls (w : World) (ao : Option Addr) (n cap : Nat) (b : List Int) (h : Rd w .u8 ao n cap b) (hby : ∀ x ∈ b, 0 ≤ x ∧ x ≤ 255) (hn : n ≤ 274877906944) (ao2 : Option Addr) (n2 cap2 : Nat) (cs : List Int) (h2 : Rd w .i64 ao2 n2 cap2 cs) (hn2 : n2 ≤ 274877906944) (hT : U8 w) :
    Calls Tryd.prog 12 #[.slice ao n cap, .slice ao2 n2 cap2] w (PiecesP w b) := by
  have b0 : Below w.heap.size w (w.alloc (Obj.cells #[.int .i32 0, .int .i64 0, .int .i64 0, .int .i64 0, .int .i64 0, .int .i64 0] 32)) := (Below.refl _ _).alloc (Nat.le_refl _) _
  have y0 := heap_alloc_new w (Obj.cells #[.int .i32 0, .int .i64 0, .int .i64 0, .int .i64 0, .int .i64 0, .int .i64 0] 32)
  have HL := Lib.hid h.len
  have hcl := h.cap_le
  have hle := h.le
  have hcl2 := h2.cap_le
  have hle2 := h2.le
  unfold PiecesP
  obtain ⟨D, hD⟩ : ∃ D, Hid (D = drainB b (0, 0, 1, 1) true) := ⟨_, rfl⟩
  rw [← hD.out]
  go_enter Tryd.func12, Tryd.ntmps12
  go_wp2_with fail
  refine (feedNew _).mono ?_
  rintro E w1 ⟨rfl, m1, b1⟩
  have hz0 : (w.alloc (Obj.cells #[.int .i32 0, .int .i64 0, .int .i64 0, .int .i64 0, .int .i64 0, .int .i64 0] 32)).heap.size = w.heap.size + 1 := by simp
  rw [hz0] at m1 b1 ⊢
  have b01 := b0.trans (b1.mono (by omega))
  have y1 : w1.heap[w.heap.size]? = _ := (b1.block w.heap.size (by omega)).trans y0
  clear b0 b1 y0 hz0
  obtain ⟨F, hF⟩ : ∃ F, Hid (F = w.heap.size + 1) := ⟨_, rfl⟩
  rw [← hF.out] at m1 ⊢
  have hFz : w.heap.size < F := by rw [hF.out]; omega
  obtain ⟨R, hRR⟩ : ∃ R, Hid (R = w.heap.size) := ⟨_, rfl⟩
  rw [← hRR.out] at y1 ⊢
  have hRF : R < F := by rw [hRR.out]; exact hFz
  have hF1 := m1.lt.1
  go_wp2_with fail
  go_loopw [8, 9, 10] (fun v8 v9 v10 wr => ∃ (p i : Nat) (done : List Ch6) (ys : List Int) (q : Pl) (v' : Value), v9 = .int .i64 p ∧ v10 = .int .i64 i ∧ p ≤ n ∧ i ≤ n2 + p ∧ Row6 wr F v8 done ∧ Fm wr F F v' ys q false ∧ Below w.heap.size w wr ∧ wr.heap[R]? = some (.cells #[.int .i32 0, .int .i64 0, .int .i64 0, .int .i64 0, .int .i64 0, .int .i64 0] 32) ∧ done.length + ys.length ≤ p ∧ Pok q (ys.length + (n - p)) ∧ Hid (PH b D p done ys q)) (fun _ u9 u10 wr => (n - (intOf u9).toNat) + (n2 + n - (intOf u10).toNat))
  case atStart =>
    exact ⟨0, 0, [], [], (0, 0, 1, 1), _, rfl, rfl, Nat.zero_le _, Nat.zero_le _, Row6.nil _ _, m1, b01, y1, Nat.le_refl _, by unfold Pok; simp; omega, Lib.hid (by unfold PH; rw [hD.out]; rfl)⟩
  case round =>
    obtain ⟨p, i, done, ys, q, v', rfl, rfl, hp, hi, hrow, hf, hb, hy, hdl, hq, H⟩ := hrel
    by_cases hpn : p < n
    · have hpn' : (p : Int) < n := by omega
      have hb1 := hb.size
      obtain ⟨g, o, rfl, _, _⟩ := (h.below hb).cell p hpn
      go_upto_if 32 with fail
      generalize hbb : decide (i < n2) = bb
      have HBB := Lib.hid hbb
      clear hbb
      go_cut [11] from 33 to 39 (fun v wx => wx = wr ∧ ∃ k : Nat, v = .int .i64 k ∧ p + k ≤ n ∧ (i + 1 ≤ n2 ∨ k = n - p))
      case first =>
        cases bb
        rotate_left
        · have hin : i < n2 := of_decide_eq_true HBB.out
          have hin' : (i : Int) < n2 := by omega
          obtain ⟨g2, o2, rfl, hg, hc⟩ := (h2.below hb).cell i hin
          have hci := hc i hin
          obtain ⟨z, hz⟩ : ∃ z, Hid (z = gt cs i) := ⟨_, rfl⟩
          rw [← hz.out] at hci
          clear hc
          have hI := into_calls z ((n : Int) - p + 1) (by omega) (by omega) wr
          go_wp2_with fail
          refine hI.mono ?_
          rintro E w2 ⟨rfl, rfl⟩
          go_wp2_with fail
          go_meet
          case rel =>
            have hm1 := Int.emod_nonneg z (b := (n : Int) - p + 1) (by omega)
            have hm2 := Int.emod_lt_of_pos z (b := (n : Int) - p + 1) (by omega)
            exact ⟨rfl, (z % ((n : Int) - p + 1)).toNat, by rw [Int.toNat_of_nonneg hm1], by omega, .inl (by omega)⟩
        · go_wp2_with fail
          go_meet
          case rel => exact ⟨rfl, n - p, by rw [Int.ofNat_sub hp], by omega, .inr rfl⟩
      case rest =>
      obtain ⟨rfl, k, rfl, hk, hik⟩ := hcut
      have hub : ∀ x ∈ (b.drop p).take k, 0 ≤ x ∧ x ≤ 255 := fun x hx => hby x (List.mem_of_mem_drop (List.mem_of_mem_take hx))
      have hpk : (p : Int) + k ≤ n := by omega
      have hpl : ((b.drop p).take k).length = k := by have := HL.out; rw [List.length_take, List.length_drop]; omega
      have rdm := Rd.mid (h.below hb) hk (by omega)
      obtain ⟨ps, hps⟩ : ∃ ps, Hid (ps = (b.drop p).take k) := ⟨_, rfl⟩
      rw [← hps.out] at hub hpl rdm
      have ba := (Below.refl wc.heap.size wc).alloc (Nat.le_refl _) (.cells #[] 5)
      have rda := rdm.below ba
      have rowa := row_empty wc 5 .u8 wc.heap.size (Nat.le_refl _)
      have hn0 := H.out.next k hby hf.by_
      rw [← hps.out] at hn0
      have hX1 := drainB_end false _ (ys ++ ps) q (Nat.le_refl _)
      have hX2 := drain_len false _ (ys ++ ps) q (Nat.le_refl _)
      have hX3 := Pok.drain (e := false) (k := n - (p + k)) _ (ys ++ ps) q (Nat.le_refl _) (by rw [List.length_append, hpl]; exact hq.mono (by omega))
      have hPq : Pok q (ys ++ ps).length := hq.mono (by rw [List.length_append, hpl]; omega)
      have hXr := first_range (drainB (ys ++ ps) q false).2.1 false
      have hXo := first_open (drainB (ys ++ ps) q false).2.1
      have hXh := peek_how (drainB (ys ++ ps) q false).2.1 (drainB (ys ++ ps) q false).2.2 false
      rw [List.length_append, hpl] at hX2
      have HX3 := Lib.hid hX3
      have HPq := Lib.hid hPq
      clear hX3 hPq
      have rda' : Rd (wc.alloc (.cells #[] 5)) .u8 (some ⟨g, o + p, none⟩) (p + k - p) (cap - p) ps := by rw [Nat.add_sub_cancel_left]; exact rda
      go_wp2_with (at_builtin; refine append_rd _ rfl _ _ rfl wc.heap.size _ [] rfl rowa _ _ _ ps rfl rda' (fun h => by cases h) (by simp; omega) (by simp) ?_; intro v3 w3 hrow3 hgrow3; obtain ⟨a3, c3, rfl, rd3, hn3⟩ := Row.rd2 hrow3)
      have hb3 : Below wc.heap.size wc w3 := ba.grown hgrow3 (by simp) (fun j hj => (rowa.lt j hj).1)
      clear hgrow3 ba rowa rda rda' rdm
      rw [List.nil_append] at rd3
      rw [List.nil_append, hpl] at hn3
      rw [hpl] at rd3
      have hbw3 : Below w.heap.size w w3 := hb.trans (hb3.mono hb1)
      have hm3 := hf.fresh hb3
      have hrow3b := hrow.stays hb3
      have y3 : w3.heap[R]? = _ := (hb3.block _ (Array.getElem?_eq_some_iff.1 hy).1).trans hy
      have hC := push_calls w3 F F v' ys q hm3 a3 k c3 ps rd3 hub hn3 (by omega)
      refine hC.mono ?_
      rintro E w4 ⟨rfl, v4, hm4, hf4, _⟩
      clear hC
      have hF3 := fun g hg => (hm3.own.lt g hg).1
      have hnF := hrow3b.neF hm3
      have hnV := hrow3b.neV hm3
      have hrow4 := hrow3b.fr hf4 (fun g hg e => e.elim (hnF g hg) (fun e => hnV g hg e))
      have y4 : w4.heap[R]? = _ := (hf4.block _ (Array.getElem?_eq_some_iff.1 y3).1 (fun e => e.elim (fun e => by omega) (fun e => by have := hF3 _ e; omega))).trans y3
      have hbw4 : Below w.heap.size w w4 := hbw3.trans (hf4.below hbw3.size (fun j e => e.elim (fun e => by omega) (fun e => by have := hF3 _ e; omega)))
      have hT4 : U8B w4 F := ⟨w, hT, hbw4, by omega⟩
      have hD4 := drain_calls w4 F F v4 (ys ++ ps) q false hm4 hT4 HPq.out (n + 1) (by rw [List.length_append, hpl]; omega) (by omega)
      rw [show ((n + 1 : Nat) : Int) = (n : Int) + 1 from by omega] at hD4
      unfold Drained at hD4
      have hX3 := HX3.out
      clear HX3
      obtain ⟨X, hX⟩ : ∃ X, Hid (X = drainB (ys ++ ps) q false) := ⟨_, rfl⟩
      rw [← hX.out] at hD4 hX1 hX2 hX3 hXr hXo hXh hn0
      obtain ⟨dn, rs, pl⟩ := X
      simp only [] at hD4 hX1 hX2 hX3 hXr hXo hXh hn0
      obtain ⟨pk, hpk⟩ : ∃ pk, Hid (pk = peekB rs pl false) := ⟨_, rfl⟩
      rw [← hpk.out] at hD4 hXh
      obtain ⟨⟨c0, ⟨c1, c2, c3, c4⟩, c5⟩, hw⟩ := pk
      simp only [] at hXh hD4
      subst hXh
      obtain ⟨fh, hfh⟩ : ∃ fh, fh = (firstB rs false).2.2 := ⟨_, rfl⟩
      rw [← hfh] at hD4 hX1 hXr hXo hpk
      unfold charV at hD4
      have HD4 := Lib.hid hD4
      have HX1 := Lib.hid hX1
      have HXr := Lib.hid hXr
      have HXo := Lib.hid hXo
      have HX3 := Lib.hid hX3
      have HN0 := Lib.hid hn0
      have HFH := Lib.hid hfh
      clear hD4 hn3 rd3 hub hbw3 hb3 hX1 hXr hXo hX3 hn0 hfh
      go_wp2_with fail
      refine HD4.out.mono ?_
      rintro E w5 ⟨vs, rfl, hrow5, v5, hm5, hfr5, _⟩
      clear HD4
      have hrow5b := hrow4.fr hfr5 (fun g hg e => hrow4.neF hm4 g hg e)
      have y5 : w5.heap[R]? = _ := (hfr5.block _ (Array.getElem?_eq_some_iff.1 y4).1 (fun e => by have e : R = F := e; omega)).trans y4
      have hbw5 : Below w.heap.size w w5 := hbw4.trans (hfr5.below hbw4.size (fun j e => by have e : j = F := e; omega))
      have b6 := (Below.refl w5.heap.size w5).alloc (Nat.le_refl _) (Obj.cells #[.int .i32 c0, .int .i64 c1, .int .i64 c2, .int .i64 c3, .int .i64 c4, .int .i64 c5] 32)
      have hm6 := hm5.fresh b6
      have hrow6 := hrow5b.stays b6
      have hvs6 := hrow5.stays b6
      have y6 := (b6.block _ (Array.getElem?_eq_some_iff.1 y5).1).trans y5
      have hbw6 := hbw5.trans (b6.mono hbw5.size)
      have z6 := heap_alloc_new w5 (Obj.cells #[.int .i32 c0, .int .i64 c1, .int .i64 c2, .int .i64 c3, .int .i64 c4, .int .i64 c5] 32)
      have hown : ∀ g, Value.ownBlock u8 = some g → F ≤ g ∧ g < w5.heap.size := fun g hg => ⟨(hrow5b.ty g hg).1, by obtain ⟨_, cur, fr, hc⟩ := hrow5b.ty g hg; exact (Array.getElem?_eq_some_iff.1 hc).1⟩
      go_upto_region 14 with fail
      generalize w5.alloc (Obj.cells #[.int .i32 c0, .int .i64 c1, .int .i64 c2, .int .i64 c3, .int .i64 c4, .int .i64 c5] 32) = W6 at b6 hm6 hrow6 hvs6 y6 hbw6 z6 ⊢
      obtain ⟨C, hCC⟩ : ∃ C, Hid (C = w5.heap.size) := ⟨_, rfl⟩
      rw [← hCC.out] at z6 hown ⊢
      have hFs := hm6.le
      have hn1 : R ≠ C := by rw [hCC.out]; have := hm5.lt.1; omega
      have hn2 : C ≠ R := fun e => hn1 e.symm
      by_cases h2 : fh = 2
      · subst h2
        go_wp2_with (at_builtin; refine wpList_app6 _ rfl _ _ rfl F w4.heap.size _ _ done dn rfl hrow6 rfl hvs6 (by omega) hFs ?_; intro v7 w7 hrow7 hgrow7)
        have hfr7 := Fr.grown (p := fun j => Value.ownBlock u8 = some j) (Fr.refl _ _) hgrow7 (fun g hg => .inl hg)
        have y7 := (hfr7.block _ (Array.getElem?_eq_some_iff.1 y6).1 (fun e => by have := hown _ e; omega)).trans y6
        have z7 := (hfr7.block _ (Array.getElem?_eq_some_iff.1 z6).1 (fun e => by have := hown _ e; omega)).trans z6
        have hbw7 : Below w.heap.size w w7 := hbw6.trans (hfr7.below hbw6.size (fun j e => by have := hown _ e; have := hRR.out; omega))
        obtain ⟨hb1, hb2⟩ := HN0.out.bad hby hm6.by_ HFH.out.symm
        have c0' : w7.cell? ⟨C, 0, none⟩ = some (.int .i32 c0) := by simp [World.cell?, z7]
        have c1' : w7.cell? ⟨C, 1, none⟩ = some (.int .i64 c1) := by simp [World.cell?, z7]
        have c2' : w7.cell? ⟨C, 2, none⟩ = some (.int .i64 c2) := by simp [World.cell?, z7]
        have c3' : w7.cell? ⟨C, 3, none⟩ = some (.int .i64 c3) := by simp [World.cell?, z7]
        have c4' : w7.cell? ⟨C, 4, none⟩ = some (.int .i64 c4) := by simp [World.cell?, z7]
        have c5' : w7.cell? ⟨C, 5, none⟩ = some (.int .i64 c5) := by simp [World.cell?, z7]
        have r0' : w7.cell? ⟨R, 0, none⟩ = some (.int .i32 0) := by simp [World.cell?, y7]
        have r1' : w7.cell? ⟨R, 1, none⟩ = some (.int .i64 0) := by simp [World.cell?, y7]
        have r2' : w7.cell? ⟨R, 2, none⟩ = some (.int .i64 0) := by simp [World.cell?, y7]
        have r3' : w7.cell? ⟨R, 3, none⟩ = some (.int .i64 0) := by simp [World.cell?, y7]
        have r4' : w7.cell? ⟨R, 4, none⟩ = some (.int .i64 0) := by simp [World.cell?, y7]
        have r5' : w7.cell? ⟨R, 5, none⟩ = some (.int .i64 0) := by simp [World.cell?, y7]
        have rz : ∀ i, w7.frozen? ⟨R, i, none⟩ = false := fun i => by simp [World.frozen?, y7]
        go_wp2
        go_region
        go_wp2
        have hh := six_heap y7 (.int .i32 c0) (.int .i64 c1) (.int .i64 c2) (.int .i64 c3) (.int .i64 c4) (.int .i64 c5)
        have hg := six_fr (p := fun j => j = R) (w := w7) (R := R) rfl (.int .i32 c0) (.int .i64 c1) (.int .i64 c2) (.int .i64 c3) (.int .i64 c4) (.int .i64 c5)
        generalize hV : ((((((w7.setCell ⟨R, 0, none⟩ (.int .i32 c0)).setCell ⟨R, 1, none⟩ (.int .i64 c1)).setCell ⟨R, 2, none⟩ (.int .i64 c2)).setCell ⟨R, 3, none⟩ (.int .i64 c3)).setCell ⟨R, 4, none⟩ (.int .i64 c4)).setCell ⟨R, 5, none⟩ (.int .i64 c5)) = V at hh hg ⊢
        have j0 : V.cell? ⟨R, 0, none⟩ = some (.int .i32 c0) := by simp [World.cell?, hh]
        have j1 : V.cell? ⟨R, 1, none⟩ = some (.int .i64 c1) := by simp [World.cell?, hh]
        have j2 : V.cell? ⟨R, 2, none⟩ = some (.int .i64 c2) := by simp [World.cell?, hh]
        have j3 : V.cell? ⟨R, 3, none⟩ = some (.int .i64 c3) := by simp [World.cell?, hh]
        have j4 : V.cell? ⟨R, 4, none⟩ = some (.int .i64 c4) := by simp [World.cell?, hh]
        have j5 : V.cell? ⟨R, 5, none⟩ = some (.int .i64 c5) := by simp [World.cell?, hh]
        have hg2 := hg.drewN 1
        have hrow8 := (hrow7.fr hg2 (fun g hgg e => by have e : g = R := e; have := (hrow7.ty g hgg).1; omega)).mono (B' := w.heap.size) (by have := hRR.out; omega)
        have hbw8 := hbw7.trans (hg2.below hbw7.size (fun j e => by have e : j = R := e; have := hRR.out; omega))
        refine ⟨rfl, .tuple #[v7, .agg #[.int .i32 c0, .int .i64 c1, .int .i64 c2, .int .i64 c3, .int .i64 c4, .int .i64 c5], .int .i64 2], ?_, v7, ?_, by rw [hb1]; exact hrow8, hbw8⟩
        rotate_left
        · rw [hb2, ← hpk.out]; rfl
        · simp [results, Tryd.f12, go_sem, j0, j1, j2, j3, j4, j5]
      · have hne : (fh == 2) = false := beq_eq_false_iff_ne.2 h2
        go_wp2_with (at_builtin; refine wpList_app6 _ rfl _ _ rfl F w4.heap.size _ _ done dn rfl hrow6 rfl hvs6 (by omega) hFs ?_; intro v7 w7 hrow7 hgrow7)
        have hfr7 := Fr.grown (p := fun j => Value.ownBlock u8 = some j) (Fr.refl _ _) hgrow7 (fun g hg => .inl hg)
        have hm7 := hm6.frv hfr7 (fun e => hrow6.neF hm6 F e rfl) (fun g hg e => hrow6.neV hm6 g e hg)
        have y7 := (hfr7.block _ (Array.getElem?_eq_some_iff.1 y6).1 (fun e => by have := hown _ e; omega)).trans y6
        have hbw7 : Below w.heap.size w w7 := hbw6.trans (hfr7.below hbw6.size (fun j e => by have := hown _ e; have := hRR.out; omega))
        have HN := HN0.out
        have H3 := HX3.out
        go_roundw
        case rel =>
          exact ⟨p + k, i + 1, _, _, _, v5, by go_num, by go_num, hk, by omega, hrow7, hm7, hbw7, y7, by rw [List.length_append]; omega, H3, Lib.hid HN⟩
        case measure => simp [RowKit.intOf]; omega
    · have hpe : n ≤ p := by omega
      have hpn' : ¬ (p : Int) < n := by omega
      have hDe := H.out.end (by rw [HL.out]; exact hpe)
      have hb1 := hb.size
      have hq0 : Pok q ys.length := hq.mono (by omega)
      have hE := end_calls wr F F v' ys q false hf
      go_wp2_with fail
      refine hE.mono ?_
      rintro E w2 ⟨rfl, hm2, hf2⟩
      clear hE
      have hrow2 := hrow.fr hf2 (fun g hg e => hrow.neF hf g hg e)
      have y2 : w2.heap[R]? = _ := (hf2.block _ (Array.getElem?_eq_some_iff.1 hy).1 (fun e => by have e : R = F := e; omega)).trans hy
      have hbw2 : Below w.heap.size w w2 := hb.trans (hf2.below hb1 (fun j e => by have e : j = F := e; omega))
      have hT2 : U8B w2 F := ⟨w, hT, hbw2, by omega⟩
      have hD4 := drain_calls w2 F F v' ys q true hm2 hT2 hq0 (n + 1) (by omega) (by omega)
      rw [show ((n + 1 : Nat) : Int) = (n : Int) + 1 from by omega] at hD4
      unfold Drained at hD4
      have hX2 := drain_len true _ ys q (Nat.le_refl _)
      obtain ⟨X, hX⟩ : ∃ X, Hid (X = drainB ys q true) := ⟨_, rfl⟩
      rw [← hX.out] at hD4 hX2 hDe
      obtain ⟨dn, rs, pl⟩ := X
      simp only [] at hD4 hX2 hDe
      obtain ⟨pk, hpk⟩ : ∃ pk, Hid (pk = peekB rs pl true) := ⟨_, rfl⟩
      rw [← hpk.out] at hD4
      obtain ⟨⟨c0, ⟨c1, c2, c3, c4⟩, c5⟩, fh⟩ := pk
      simp only [] at hD4
      unfold charV at hD4
      have HD4 := Lib.hid hD4
      have HDe := Lib.hid hDe
      clear hD4 hDe
      go_wp2_with fail
      refine HD4.out.mono ?_
      rintro E w5 ⟨vs, rfl, hrow5, v5, hm5, hfr5, _⟩
      clear HD4
      have hrow5b := hrow2.fr hfr5 (fun g hg e => hrow2.neF hm2 g hg e)
      have y5 : w5.heap[R]? = _ := (hfr5.block _ (Array.getElem?_eq_some_iff.1 y2).1 (fun e => by have e : R = F := e; omega)).trans y2
      have hbw5 : Below w.heap.size w w5 := hbw2.trans (hfr5.below hbw2.size (fun j e => by have e : j = F := e; omega))
      have b6 := (Below.refl w5.heap.size w5).alloc (Nat.le_refl _) (Obj.cells #[.int .i32 c0, .int .i64 c1, .int .i64 c2, .int .i64 c3, .int .i64 c4, .int .i64 c5] 32)
      have hrow6 := hrow5b.stays b6
      have hvs6 := hrow5.stays b6
      have y6 := (b6.block _ (Array.getElem?_eq_some_iff.1 y5).1).trans y5
      have hbw6 := hbw5.trans (b6.mono hbw5.size)
      have hFs : F ≤ w5.heap.size := hm5.le
      have z6 := heap_alloc_new w5 (Obj.cells #[.int .i32 c0, .int .i64 c1, .int .i64 c2, .int .i64 c3, .int .i64 c4, .int .i64 c5] 32)
      have hown : ∀ g, Value.ownBlock u8 = some g → F ≤ g ∧ g < w5.heap.size := fun g hg => ⟨(hrow5b.ty g hg).1, by obtain ⟨_, cur, fr, hc⟩ := hrow5b.ty g hg; exact (Array.getElem?_eq_some_iff.1 hc).1⟩
      go_upto_region 19 with fail
      have hs6 := b6.size
      generalize w5.alloc (Obj.cells #[.int .i32 c0, .int .i64 c1, .int .i64 c2, .int .i64 c3, .int .i64 c4, .int .i64 c5] 32) = W6 at b6 hrow6 hvs6 y6 hbw6 z6 hs6 ⊢
      obtain ⟨C, hCC⟩ : ∃ C, Hid (C = w5.heap.size) := ⟨_, rfl⟩
      rw [← hCC.out] at z6 hown hs6 hFs ⊢
      have hn1 : R ≠ C := by omega
      have hn2 : C ≠ R := fun e => hn1 e.symm
      have d0' : W6.cell? ⟨C, 0, none⟩ = some (.int .i32 c0) := by simp [World.cell?, z6]
      have d1' : W6.cell? ⟨C, 1, none⟩ = some (.int .i64 c1) := by simp [World.cell?, z6]
      have d2' : W6.cell? ⟨C, 2, none⟩ = some (.int .i64 c2) := by simp [World.cell?, z6]
      have d3' : W6.cell? ⟨C, 3, none⟩ = some (.int .i64 c3) := by simp [World.cell?, z6]
      have d4' : W6.cell? ⟨C, 4, none⟩ = some (.int .i64 c4) := by simp [World.cell?, z6]
      have d5' : W6.cell? ⟨C, 5, none⟩ = some (.int .i64 c5) := by simp [World.cell?, z6]
      go_wp2
      go_region_law (refine step_app6 _ rfl _ _ rfl F w2.heap.size _ _ done dn rfl (by first | exact hrow6 | exact hrow6.stays (Below.refl _ _).drew) rfl (by first | exact hvs6 | exact hvs6.stays (Below.refl _ _).drew) (by omega) (by first | omega | (show F ≤ W6.heap.size; omega)) ?_; intro v7 w7 hrow7 hgrow7; have hfr7 : Fr (fun j => Value.ownBlock u8 = some j) W6 w7 := (by first | exact Fr.grown (Fr.refl _ W6) hgrow7 (fun g hg => .inl hg) | exact Fr.grown ((Fr.refl _ W6).drewN 1) hgrow7 (fun g hg => .inl hg)); have y7 := (hfr7.block _ (Array.getElem?_eq_some_iff.1 y6).1 (fun e => (by have := hown _ e; omega))).trans y6; have z7 := (hfr7.block _ (Array.getElem?_eq_some_iff.1 z6).1 (fun e => (by have := hown _ e; omega))).trans z6; have hbw7 : Below w.heap.size w w7 := hbw6.trans (hfr7.below hbw6.size (fun j e => (by have := hown _ e; have := hRR.out; omega))); clear hgrow7 hfr7; have c0' : w7.cell? ⟨C, 0, none⟩ = some (.int .i32 c0) := (by simp [World.cell?, z7]); have c1' : w7.cell? ⟨C, 1, none⟩ = some (.int .i64 c1) := (by simp [World.cell?, z7]); have c2' : w7.cell? ⟨C, 2, none⟩ = some (.int .i64 c2) := (by simp [World.cell?, z7]); have c3' : w7.cell? ⟨C, 3, none⟩ = some (.int .i64 c3) := (by simp [World.cell?, z7]); have c4' : w7.cell? ⟨C, 4, none⟩ = some (.int .i64 c4) := (by simp [World.cell?, z7]); have c5' : w7.cell? ⟨C, 5, none⟩ = some (.int .i64 c5) := (by simp [World.cell?, z7]); have r0' : w7.cell? ⟨R, 0, none⟩ = some (.int .i32 0) := (by simp [World.cell?, y7]); have r1' : w7.cell? ⟨R, 1, none⟩ = some (.int .i64 0) := (by simp [World.cell?, y7]); have r2' : w7.cell? ⟨R, 2, none⟩ = some (.int .i64 0) := (by simp [World.cell?, y7]); have r3' : w7.cell? ⟨R, 3, none⟩ = some (.int .i64 0) := (by simp [World.cell?, y7]); have r4' : w7.cell? ⟨R, 4, none⟩ = some (.int .i64 0) := (by simp [World.cell?, y7]); have r5' : w7.cell? ⟨R, 5, none⟩ = some (.int .i64 0) := (by simp [World.cell?, y7]); have rz : ∀ i, w7.frozen? ⟨R, i, none⟩ = false := fun i => (by simp [World.frozen?, y7]))
      all_goals
        go_wp2
        have hh := six_heap y7 (.int .i32 c0) (.int .i64 c1) (.int .i64 c2) (.int .i64 c3) (.int .i64 c4) (.int .i64 c5)
        have hg := six_fr (p := fun j => j = R) (w := w7) (R := R) rfl (.int .i32 c0) (.int .i64 c1) (.int .i64 c2) (.int .i64 c3) (.int .i64 c4) (.int .i64 c5)
        generalize hV : ((((((w7.setCell ⟨R, 0, none⟩ (.int .i32 c0)).setCell ⟨R, 1, none⟩ (.int .i64 c1)).setCell ⟨R, 2, none⟩ (.int .i64 c2)).setCell ⟨R, 3, none⟩ (.int .i64 c3)).setCell ⟨R, 4, none⟩ (.int .i64 c4)).setCell ⟨R, 5, none⟩ (.int .i64 c5)) = V at hh hg ⊢
        have j0 : V.cell? ⟨R, 0, none⟩ = some (.int .i32 c0) := by simp [World.cell?, hh]
        have j1 : V.cell? ⟨R, 1, none⟩ = some (.int .i64 c1) := by simp [World.cell?, hh]
        have j2 : V.cell? ⟨R, 2, none⟩ = some (.int .i64 c2) := by simp [World.cell?, hh]
        have j3 : V.cell? ⟨R, 3, none⟩ = some (.int .i64 c3) := by simp [World.cell?, hh]
        have j4 : V.cell? ⟨R, 4, none⟩ = some (.int .i64 c4) := by simp [World.cell?, hh]
        have j5 : V.cell? ⟨R, 5, none⟩ = some (.int .i64 c5) := by simp [World.cell?, hh]
        have hrow8 := (hrow7.fr hg (fun g hgg e => by have e : g = R := e; have := (hrow7.ty g hgg).1; omega)).mono (B' := w.heap.size) (by have := hRR.out; omega)
        have hbw8 := hbw7.trans (hg.below hbw7.size (fun j e => by have e : j = R := e; have := hRR.out; omega))
        refine ⟨rfl, .tuple #[v7, .agg #[.int .i32 c0, .int .i64 c1, .int .i64 c2, .int .i64 c3, .int .i64 c4, .int .i64 c5], .int .i64 fh], ?_, v7, ?_, by rw [HDe.out]; exact hrow8, hbw8⟩
        rotate_left
        · rw [HDe.out, ← hpk.out]; rfl
        · simp [results, Tryd.f12, go_sem, j0, j1, j2, j3, j4, j5]
end Go.Proofs.YtpkdbfnnbbkkiaaDoor
