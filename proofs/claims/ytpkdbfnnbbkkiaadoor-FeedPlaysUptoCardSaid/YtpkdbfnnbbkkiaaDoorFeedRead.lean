/- The walk of gimlettop.read. -/
import Derived.Test.YtpkdbfnnbbkkiaaDoorFeedRest
namespace Gim
open Go Go.RowKit
theorem PH.bad2 {b : List Int} {D : List Ch6 × List Int × Pl} {i : Nat} {done : List Ch6} {ys : List Int} {q : Pl} (h : PH b D i done ys q) (hb : ∀ x ∈ b, 0 ≤ x ∧ x ≤ 255) (hy : ∀ x ∈ ys, 0 ≤ x ∧ x ≤ 255) (h2 : (firstB ys false).2.2 = 2) :
    D.1 = done ∧ D.2.2 = q ∧ (firstB D.2.1 true).2.2 = 2 := by
  have hm := first_more (xs := ys) (ys := b.drop i) (fun x hx => (List.mem_append.1 hx).elim (hy x) (fun hx => hb x (List.mem_of_mem_drop hx))) true (by rw [h2]; decide)
  have hs := drainB_stop (xs := ys ++ b.drop i) (p := q) (e := true) (by rw [hm, h2]; decide)
  unfold PH at h
  rw [hs] at h
  subst h
  exact ⟨by simp, rfl, by show (firstB (ys ++ b.drop i) true).2.2 = 2; rw [hm, h2]⟩
/-- slices of bytes, to be read -/
structure RdS (w : World) (ao : Option Addr) (n cap : Nat) (L : List (List Int)) : Prop where
  len : L.length = n
  le : n ≤ cap
  cap_le : cap ≤ maxLen
  cell : ∀ j, j < n → ∃ b o, ao = some ⟨b, o, none⟩ ∧ b < w.heap.size ∧ ∀ i (hi : i < L.length), ∃ a m c, w.cell? ⟨b, o + i, none⟩ = some (.slice a m c) ∧ Rd w .u8 a m c L[i] ∧ (∀ x ∈ L[i], 0 ≤ x ∧ x ≤ 255) ∧ (a = none → m = 0 ∧ c = 0)
theorem RdS.below {w w' : World} {ao : Option Addr} {n cap : Nat} {L : List (List Int)} (h : RdS w ao n cap L) (hb : Below w.heap.size w w') : RdS w' ao n cap L :=
  ⟨h.len, h.le, h.cap_le, fun j hj => by
    obtain ⟨b, o, e, hlt, hc⟩ := h.cell j hj
    refine ⟨b, o, e, Nat.lt_of_lt_of_le hlt hb.size, fun i hi => ?_⟩
    obtain ⟨a, m, c, h1, h2, h3, h4⟩ := hc i hi
    exact ⟨a, m, c, (hb.cell (p := ⟨b, o + i, none⟩) hlt).trans h1, h2.below hb, h3, h4⟩⟩
theorem four_heap {w : World} {R : Nat} {t : TypeId} {x0 x1 x2 x3 : Value} (h : w.heap[R]? = some (.cells #[x0, x1, x2, x3] t)) (a0 a1 a2 a3 : Value) :
    ((((w.setCell ⟨R, 0, none⟩ a0).setCell ⟨R, 1, none⟩ a1).setCell ⟨R, 2, none⟩ a2).setCell ⟨R, 3, none⟩ a3).heap[R]? = some (.cells #[a0, a1, a2, a3] t) := by
  have h0 := Go.Joins.block_setCell h (i := 0) a0
  have h1 := Go.Joins.block_setCell h0 (i := 1) a1
  have h2 := Go.Joins.block_setCell h1 (i := 2) a2
  have h3 := Go.Joins.block_setCell h2 (i := 3) a3
  rw [h3]
  rfl
theorem four_fr {p : Nat → Prop} {w : World} {R : Nat} (hp : p R) (a0 a1 a2 a3 : Value) : Fr p w ((((w.setCell ⟨R, 0, none⟩ a0).setCell ⟨R, 1, none⟩ a1).setCell ⟨R, 2, none⟩ a2).setCell ⟨R, 3, none⟩ a3) := by
  have g0 := (Fr.refl p w).set R 0 a0 hp
  have g1 := g0.set R 1 a1 hp
  have g2 := g1.set R 2 a2 hp
  exact g2.set R 3 a3 hp
theorem flat_take {L : List (List Int)} {i : Nat} (hi : i < L.length) : ((L.take (i + 1)).flatten).length = ((L.take i).flatten).length + L[i].length ∧ (L.flatten.drop ((L.take i).flatten).length).take L[i].length = L[i] ∧ ((L.take (i + 1)).flatten).length ≤ L.flatten.length := by
  have h1 : L.take (i + 1) = L.take i ++ [L[i]] := by rw [List.take_add_one, List.getElem?_eq_getElem hi]; rfl
  have h2 : L = L.take i ++ L[i] :: L.drop (i + 1) := by rw [← List.drop_eq_getElem_cons hi, List.take_append_drop]
  have h3 : L.flatten = (L.take i).flatten ++ (L[i] ++ (L.drop (i + 1)).flatten) := by
    conv => lhs; rw [h2]
    rw [List.flatten_append, List.flatten_cons]
  refine ⟨by rw [h1, List.flatten_append]; simp, ?_, ?_⟩
  · rw [h3, List.drop_left, List.take_left]
  · rw [h1, List.flatten_append, h3]
    simp
end Gim
namespace Go.Proofs.YtpkdbfnnbbkkiaaDoor
open Go.RowKit Gim
theorem Row6.slen {w : World} {B : Nat} {v : Value} {cs : List Ch6} (h : Row6 w B v cs) : slen v = cs.length := by
  obtain ⟨ao, cap, e, _, _⟩ := h.rd
  rw [e]
  rfl
/-- what read hands back -/
def ReadP (w : World) (b : List Int) (E : Ending) (w' : World) : Prop :=
  ∃ vs, E = .returned (.tuple #[vs, .int .i64 (firstB (drainB b (0, 0, 1, 1) true).2.1 true).2.2, .agg #[.int .i64 (drainB b (0, 0, 1, 1) true).2.2.1, .int .i64 (drainB b (0, 0, 1, 1) true).2.2.2.1, .int .i64 (drainB b (0, 0, 1, 1) true).2.2.2.2.1, .int .i64 (drainB b (0, 0, 1, 1) true).2.2.2.2.2], .bool true]) ∧
    Row6 w' w.heap.size vs (drainB b (0, 0, 1, 1) true).1 ∧ Below w.heap.size w w'
set_option maxRecDepth 100000 in
set_option maxHeartbeats 8000000 in
theorem read_calls (w : World) (ao : Option Addr) (n cap : Nat) (L : List (List Int)) (h : RdS w ao n cap L) (hn : n ≤ 274877906944) (hN : L.flatten.length ≤ 274877906944) (hT : U8 w) :
    Calls Tryd.prog 8 #[.slice ao n cap] w (ReadP w L.flatten) := by
  have HL := Lib.hid h.len
  have hcl := h.cap_le
  have hle := h.le
  have hby : ∀ x ∈ L.flatten, 0 ≤ x ∧ x ≤ 255 := by
    intro x hx
    obtain ⟨l, hl, hx⟩ := List.mem_flatten.1 hx
    obtain ⟨i, hi, rfl⟩ := List.getElem_of_mem hl
    obtain ⟨_, _, _, _, hc⟩ := h.cell i (by rw [← HL.out]; exact hi)
    obtain ⟨_, _, _, _, _, h3, _⟩ := hc i hi
    exact h3 x hx
  have HBY := Lib.hid hby
  have HT := Lib.hid hT
  have H := Lib.hid h
  unfold ReadP
  obtain ⟨b, hb⟩ : ∃ b, Hid (b = L.flatten) := ⟨_, rfl⟩
  rw [← hb.out] at hN HBY ⊢
  obtain ⟨D, hD⟩ : ∃ D, Hid (D = drainB b (0, 0, 1, 1) true) := ⟨_, rfl⟩
  rw [← hD.out]
  obtain ⟨N, hNN⟩ : ∃ N, Hid (N = b.length) := ⟨_, rfl⟩
  rw [← hNN.out] at hN
  have b0 : Below w.heap.size w (w.alloc (Obj.cells #[.int .i64 0, .int .i64 0, .int .i64 0, .int .i64 0] 27)) := (Below.refl _ _).alloc (Nat.le_refl _) _
  have y0 := heap_alloc_new w (Obj.cells #[.int .i64 0, .int .i64 0, .int .i64 0, .int .i64 0] 27)
  clear hby hT h
  go_enter Tryd.func8, Tryd.ntmps8
  go_wp2_with fail
  refine (feedNew _).mono ?_
  rintro E w1 ⟨rfl, m1, b1⟩
  have hz0 : (w.alloc (Obj.cells #[.int .i64 0, .int .i64 0, .int .i64 0, .int .i64 0] 27)).heap.size = w.heap.size + 1 := by simp
  rw [hz0] at m1 b1 ⊢
  have b01 := b0.trans (b1.mono (by omega))
  have y1 : w1.heap[w.heap.size]? = _ := (b1.block w.heap.size (by omega)).trans y0
  clear b0 b1 y0 hz0
  obtain ⟨F, hF⟩ : ∃ F, Hid (F = w.heap.size + 1) := ⟨_, rfl⟩
  rw [← hF.out] at m1 ⊢
  have hFz : w.heap.size < F := by rw [hF.out]; omega
  obtain ⟨R, hRR⟩ : ∃ R, Hid (R = w.heap.size) := ⟨_, rfl⟩
  rw [← hRR.out] at y1 ⊢
  have hRF : R < F := by rw [hRR.out]; exact hFz
  have hF1 := m1.lt.1
  go_wp2_with fail
  go_loopw [8, 17] (fun v8 v17 wr => ∃ i p : Nat, v17 = .int .i64 i ∧ i ≤ n ∧ v8 = .int .i64 p ∧ Hid (p = ((L.take i).flatten).length) ∧ wr = w1) (fun _ u17 _ => n - (intOf u17).toNat)
  case atStart => exact ⟨0, 0, rfl, Nat.zero_le _, rfl, Lib.hid rfl, rfl⟩
  case round =>
    obtain ⟨i, p, rfl, hi, rfl, HP, rfl⟩ := hrel
    by_cases hin : i < n
    · have hin' : (i : Int) < n := by omega
      obtain ⟨g, o, rfl, hg, hc⟩ := (H.out.below b01).cell i hin
      have hiL : i < L.length := by rw [HL.out]; exact hin
      obtain ⟨a, m, c, hci, hrd, _, _⟩ := hc i hiL
      have hfl := flat_take hiL
      rw [← HP.out, hrd.len, ← hb.out, ← hNN.out] at hfl
      have hpm : p + m ≤ N := by omega
      have hpm2 : (p : Int) + m ≤ N := by omega
      have HF1 := Lib.hid hfl.1
      clear hc hfl hrd
      go_wp2_with fail
      go_roundw
      case rel => exact ⟨i + 1, p + m, by go_num, hin, by go_num, Lib.hid HF1.out.symm, by first | trivial | rfl⟩
      case measure => simp [RowKit.intOf]; omega
    · have hin' : ¬ (i : Int) < n := by omega
      obtain rfl : N = p := by
        rw [HP.out, hNN.out, hb.out, List.take_of_length_le (by rw [HL.out]; omega)]
      clear HP
      go_wp2_with fail
      clear hin hin'
      go_loopw [7, 11] (fun v7 v11 wr => ∃ (i p : Nat) (done : List Ch6) (ys : List Int) (q : Pl) (v' : Value), v11 = .int .i64 i ∧ i ≤ n ∧ Hid (p = ((L.take i).flatten).length) ∧ p ≤ N ∧ Row6 wr F v7 done ∧ Fm wr F F v' ys q false ∧ Below w.heap.size w wr ∧ wr.heap[R]? = some (Obj.cells #[.int .i64 0, .int .i64 0, .int .i64 0, .int .i64 0] 27) ∧ done.length + ys.length ≤ p ∧ Pok q (ys.length + (N - p)) ∧ Hid (PH b D p done ys q)) (fun _ u11 _ => n + 1 - (intOf u11).toNat)
      case atStart =>
        exact ⟨0, 0, [], [], (0, 0, 1, 1), _, rfl, Nat.zero_le _, Lib.hid rfl, Nat.zero_le _, Row6.nil _ _, m1, b01, y1, Nat.le_refl _, by unfold Pok; simp; omega, Lib.hid (by unfold PH; rw [hD.out]; rfl)⟩
      case round =>
        obtain ⟨i, p, done, ys, q, v', rfl, hi, HP, hpN, hrow, hf, hb6, hy, hdl, hq, HH⟩ := hrel
        have hle2 : (i : Int) ≤ n := by omega
        by_cases hin : i < n
        · have hin' : (i : Int) < n := by omega
          obtain ⟨g, o, rfl, hg, hc⟩ := (H.out.below hb6).cell i hin
          have hiL : i < L.length := by rw [HL.out]; exact hin
          obtain ⟨a, m, c, hci, hrd, hub, hno⟩ := hc i hiL
          have hfl := flat_take hiL
          rw [← HP.out, hrd.len, ← hb.out, ← hNN.out] at hfl
          have hpm : p + m ≤ N := by omega
          have HF1 := Lib.hid hfl.1
          have hlm := hrd.len
          obtain ⟨li, hli⟩ : ∃ li, Hid (li = L[i]) := ⟨L[i], Lib.hid rfl⟩
          rw [← hli.out] at hrd hub hlm hfl
          have hn0 := HH.out.next m HBY.out hf.by_
          rw [hfl.2.1] at hn0
          have hX3 := Pok.drain (e := false) (k := N - (p + m)) _ (ys ++ li) q (Nat.le_refl _) (by rw [List.length_append, hlm]; exact hq.mono (by omega))
          have hPq : Pok q ((ys ++ li).length + (N - (p + m))) := by rw [List.length_append, hlm]; exact hq.mono (by omega)
          have hX2 := drain_len false _ (ys ++ li) q (Nat.le_refl _)
          rw [List.length_append, hlm] at hX2
          have hC := push_calls wr F F v' ys q hf a m c li hrd hub hno (by omega)
          have HC := Lib.hid hC
          have HN0 := Lib.hid hn0
          have HPq := Lib.hid hPq
          have HYB := Lib.hid (fun j => hf.own.lt j)
          have hb1 := hb6.size
          clear hc hfl hrd hub hno hC hn0 hX3 hPq
          go_wp2_with fail
          refine HC.out.mono ?_
          rintro E w4 ⟨rfl, v4, hm4, hf4, _⟩
          clear HC
          have hnF := hrow.neF hf
          have hnV := hrow.neV hf
          have hrow4 := hrow.fr hf4 (fun g hg e => e.elim (hnF g hg) (fun e => hnV g hg e))
          have y4 : w4.heap[R]? = _ := (hf4.block _ (Array.getElem?_eq_some_iff.1 hy).1 (fun e => e.elim (fun e => by omega) (fun e => by have := (HYB.out _ e).1; omega))).trans hy
          have hbw4 : Below w.heap.size w w4 := hb6.trans (hf4.below hb1 (fun j e => e.elim (fun e => by omega) (fun e => by have := (HYB.out _ e).1; omega)))
          obtain ⟨zs, hzs⟩ : ∃ zs, Hid (zs = ys ++ li) := ⟨_, rfl⟩
          have hzl : zs.length = ys.length + m := by rw [hzs.out, List.length_append, hlm]
          rw [← hzs.out] at hm4 HPq HN0 hX2
          clear hrow hf hf4 hy hb6 hnF hnV HYB
          obtain ⟨X, hX⟩ : ∃ X, Hid (X = drainB zs q false) := ⟨_, rfl⟩
          rw [← hX.out] at HN0 hX2
          go_wp2_with fail
          go_loopw [7] (fun v7 wx => ∃ (d2 : List Ch6) (ys2 : List Int) (q2 : Pl) (v2 : Value), Row6 wx F v7 (done ++ d2) ∧ Fm wx F F v2 ys2 q2 false ∧ Below w.heap.size w wx ∧ wx.heap[R]? = some (Obj.cells #[.int .i64 0, .int .i64 0, .int .i64 0, .int .i64 0] 27) ∧ d2.length + ys2.length ≤ zs.length ∧ Pok q2 (ys2.length + (N - (p + m))) ∧ Hid (X = (d2 ++ (drainB ys2 q2 false).1, (drainB ys2 q2 false).2))) (fun v7 _ => N - slen v7)
          case atStart => exact ⟨[], zs, q, _, by rw [List.append_nil]; exact hrow4, hm4, hbw4, y4, by simp, HPq.out, Lib.hid (by rw [hX.out]; rfl)⟩
          case round =>
            obtain ⟨d2, ys2, q2, v2, hr7, hm7, hb7, hy7, hdl7, hq7, HX7⟩ := hrel
            have hTr := HT.out.below hb7
            have hsl := hr7.slen
            rw [List.length_append] at hsl
            obtain ⟨ao7, cap7, rfl, _, _⟩ := hr7.rd
            rw [List.length_append] at hr7 hsl ⊢
            have hC := next_feed _ F F v2 ys2 q2 false hm7 hTr (by omega) (by unfold Pok at hq7; omega) (by unfold Pok at hq7; omega)
            have hBr := (Array.getElem?_eq_some_iff.1 hy7).1
            unfold Nexted at hC
            obtain ⟨f, hff⟩ : ∃ f, Hid (f = firstB ys2 false) := ⟨_, rfl⟩
            obtain ⟨pk, hpk⟩ : ∃ pk, Hid (pk = peekB ys2 q2 false) := ⟨_, rfl⟩
            rw [← hff.out, ← hpk.out] at hC
            by_cases hh : f.2.2 = 0
            · have hN7 : pk = ((f.1, q2, f.2.1), 0) := by rw [hpk.out, hff.out]; unfold peekB; rw [if_pos (by rw [← hff.out]; exact hh)]
              subst hN7
              have hN2 := HX7.out
              rw [drainB_have (by rw [← hff.out]; exact hh)] at hN2
              have hw := first_have (xs := ys2) (e := false) (by rw [← hff.out]; exact hh)
              have hq2 := Pok.next (k := (N - (p + m))) (e := false) hq7 (by rw [← hff.out]; exact hh)
              rw [← hff.out] at hN2 hw hq2
              have HN2 := Lib.hid hN2
              have HC := Lib.hid hC
              have HH2 := Lib.hid hh
              clear hN2 hC hh hpk hff
              obtain ⟨fr, fn, fh⟩ := f
              simp only [] at hw hq2 HN2 HC
              unfold charV at HC
              go_wp2_with fail
              refine HC.out.mono ?_
              rintro E w1 ⟨rfl, hE⟩
              obtain ⟨hE1, _⟩ | ⟨_, v'', hm1, hfr1, hbl1⟩ := hE
              · exact absurd HH2.out hE1
              clear HC
              have ba := (Below.refl w1.heap.size w1).alloc (Nat.le_refl _) (Obj.cells #[.int .i32 fr, .int .i64 q2.1, .int .i64 q2.2.1, .int .i64 q2.2.2.1, .int .i64 q2.2.2.2, .int .i64 fn] 32)
              have hnF7 := hr7.neF hm7
              have hr1 := (hr7.fr hfr1 (fun g hg e => hnF7 g hg e)).stays ba
              have hown : ∀ g, Value.ownBlock (.slice ao7 (done.length + d2.length) cap7) = some g → F ≤ g ∧ g < w1.heap.size := fun g hg => ⟨(hr7.ty g hg).1, by obtain ⟨_, cur, fr, hc⟩ := hr7.ty g hg; exact Nat.lt_of_lt_of_le (Array.getElem?_eq_some_iff.1 hc).1 hfr1.size⟩
              have hm2 := hm1.fresh ba
              have y2 := (ba.block R (Nat.lt_of_lt_of_le hBr hfr1.size)).trans ((hfr1.block R hBr (fun e => by have e : R = F := e; omega)).trans hy7)
              have hb2 := (hb7.trans (hfr1.below hb7.size (fun j e => by have e : j = F := e; omega)))
              have hb3 := hb2.trans (ba.mono hb2.size)
              have z2 := heap_alloc_new w1 (Obj.cells #[.int .i32 fr, .int .i64 q2.1, .int .i64 q2.2.1, .int .i64 q2.2.2.1, .int .i64 q2.2.2.2, .int .i64 fn] 32)
              have hlt : (done.length : Int) + d2.length < N := by omega
              have hlen6 : (done ++ d2).length < 1099511627776 := by rw [List.length_append]; omega
              go_upto_region 15 with fail
              have hFw : F ≤ (w1.alloc (Obj.cells #[.int .i32 fr, .int .i64 q2.1, .int .i64 q2.2.1, .int .i64 q2.2.2.1, .int .i64 q2.2.2.2, .int .i64 fn] 32)).heap.size := hm2.le
              generalize w1.alloc (Obj.cells #[.int .i32 fr, .int .i64 q2.1, .int .i64 q2.2.1, .int .i64 q2.2.2.1, .int .i64 q2.2.2.2, .int .i64 fn] 32) = W2 at ba hr1 hm2 y2 hb3 z2 hFw ⊢
              obtain ⟨C, hCC⟩ : ∃ C, Hid (C = w1.heap.size) := ⟨_, rfl⟩
              rw [← hCC.out] at z2 hown ⊢
              have c0' : W2.cell? ⟨C, 0, none⟩ = some (.int .i32 fr) := by simp [World.cell?, z2]
              have c1' : W2.cell? ⟨C, 1, none⟩ = some (.int .i64 q2.1) := by simp [World.cell?, z2]
              have c2' : W2.cell? ⟨C, 2, none⟩ = some (.int .i64 q2.2.1) := by simp [World.cell?, z2]
              have c3' : W2.cell? ⟨C, 3, none⟩ = some (.int .i64 q2.2.2.1) := by simp [World.cell?, z2]
              have c4' : W2.cell? ⟨C, 4, none⟩ = some (.int .i64 q2.2.2.2) := by simp [World.cell?, z2]
              have c5' : W2.cell? ⟨C, 5, none⟩ = some (.int .i64 fn) := by simp [World.cell?, z2]
              go_wp2_with (at_builtin; refine append6 _ rfl _ _ rfl F _ (done ++ d2) rfl hr1 (fr, q2, fn) rfl hlen6 hFw ?_; intro v3 w3 hrow3 hgrow3)
              have hfr3 := Fr.grown (p := fun j => Value.ownBlock (.slice ao7 (done.length + d2.length) cap7) = some j) (Fr.refl _ _) hgrow3 (fun g hg => .inl hg)
              have hnF2 := hr1.neF hm2
              have hnV2 := hr1.neV hm2
              have hm3 := hm2.frv hfr3 (fun e => hnF2 F e rfl) (fun g hg e => hnV2 g e hg)
              have y3 := (hfr3.block R (Array.getElem?_eq_some_iff.1 y2).1 (fun e => by have := hown _ e; omega)).trans y2
              have hb4 : Below w.heap.size w w3 := hb3.trans (hfr3.below hb3.size (fun j e => by have := hown _ e; have := hRR.out; omega))
              have hsl3 := hrow3.slen
              have HSL3 := Lib.hid hsl3
              rw [List.append_assoc] at hrow3
              have hql : Pok (behind q2 fr fn) ((ys2.drop fn.toNat).length + (N - (p + m))) := hq2
              go_roundw
              case rel => exact ⟨_, _, _, _, hrow3, hm3, hb4, y3, by simp; omega, hql, Lib.hid (by rw [HN2.out]; simp)⟩
              case measure =>
                have h1 := HSL3.out
                simp only [List.length_append, List.length_singleton] at h1
                show N - slen v3 < N - (done.length + d2.length)
                omega
            · have hX2' : X = (d2, ys2, q2) := by rw [HX7.out, drainB_stop (by rw [← hff.out]; exact hh), List.append_nil]
              have HX2 := Lib.hid hX2'
              have hp2 : pk.2 = f.2.2 := by rw [hpk.out, hff.out]; exact peek_how _ _ _
              obtain ⟨⟨c0, ⟨c1, c2, c3, c4⟩, c5⟩, hw⟩ := pk
              simp only [] at hp2
              subst hp2
              have hne : (f.2.2 == 0) = false := beq_eq_false_iff_ne.2 hh
              have hrg := first_range ys2 false
              have hno := first_open ys2
              rw [← hff.out] at hrg hno
              obtain ⟨fh, hfh⟩ : ∃ fh, fh = f.2.2 := ⟨_, rfl⟩
              have hfh2 : fh = (firstB ys2 false).2.2 := by rw [hfh, hff.out]
              rw [← hfh] at hh hne hC hpk hrg hno
              have HFH := Lib.hid hfh2
              have HC := Lib.hid hC
              have HH2 := Lib.hid hh
              clear hX2' hC hff HX7 hfh hfh2 hh
              simp only [] at HC
              unfold charV at HC
              by_cases h1 : fh = 1
              · subst h1
                go_wp2_with fail
                refine HC.out.mono ?_
                rintro E w1 ⟨rfl, hE⟩
                obtain ⟨_, b1⟩ | ⟨hE1, _⟩ := hE
                rotate_left
                · exact absurd hE1 HH2.out
                clear HC
                have ba := b1.alloc b1.size (Obj.cells #[.int .i32 c0, .int .i64 c1, .int .i64 c2, .int .i64 c3, .int .i64 c4, .int .i64 c5] 32)
                have hm2 := hm7.fresh ba
                have hr2 := hr7.stays ba
                have y2 := (ba.block R hBr).trans hy7
                have hb2 := hb7.trans (ba.mono hb7.size)
                have hn1 := HN0.out
                rw [HX2.out] at hn1 hX2
                simp only [] at hn1 hX2
                have HN1 := Lib.hid hn1
                clear hn1
                go_wp2_with fail
                go_roundw
                case rel => exact ⟨i + 1, p + m, _, _, _, v2, by go_num, hin, Lib.hid HF1.out.symm, hpm, hr2, hm2, hb2, y2, by rw [List.length_append]; omega, hq7, Lib.hid HN1.out⟩
                case measure => simp [RowKit.intOf]; omega
              · have h2 : fh = 2 := by have := HH2.out; omega
                have hn1 := HN0.out
                rw [HX2.out] at hn1
                simp only [] at hn1
                have hbad := hn1.bad2 HBY.out hm7.by_ (by rw [← HFH.out, h2])
                have HBAD := Lib.hid hbad
                subst h2
                clear hn1 hbad
                go_wp2_with fail
                refine HC.out.mono ?_
                rintro E w1 ⟨rfl, hE⟩
                obtain ⟨_, b1⟩ | ⟨hE1, _⟩ := hE
                rotate_left
                · exact absurd hE1 HH2.out
                clear HC
                have ba := b1.alloc b1.size (Obj.cells #[.int .i32 c0, .int .i64 c1, .int .i64 c2, .int .i64 c3, .int .i64 c4, .int .i64 c5] 32)
                have hm2 := hm7.fresh ba
                have hr2 := hr7.stays ba
                have y2 := (ba.block R hBr).trans hy7
                have hb2 := hb7.trans (ba.mono hb7.size)
                have hP := place_feed (w1.alloc (Obj.cells #[.int .i32 c0, .int .i64 c1, .int .i64 c2, .int .i64 c3, .int .i64 c4, .int .i64 c5] 32)) F F v2 ys2 q2 false hm2
                have HP2 := Lib.hid hP
                clear hP
                go_wp2_with fail
                refine HP2.out.mono ?_
                rintro E w3 ⟨rfl, b3⟩
                clear HP2
                have hr3 := hr2.stays b3
                have y3 := (b3.block R (Array.getElem?_eq_some_iff.1 y2).1).trans y2
                have hb3 := hb2.trans (b3.mono hb2.size)
                clear hr2 y2 hb2 b3
                obtain ⟨p1, p2, p3, p4⟩ := q2
                have r0 : w3.cell? ⟨R, 0, none⟩ = some (.int .i64 0) := by simp [World.cell?, y3]
                have r1 : w3.cell? ⟨R, 1, none⟩ = some (.int .i64 0) := by simp [World.cell?, y3]
                have r2 : w3.cell? ⟨R, 2, none⟩ = some (.int .i64 0) := by simp [World.cell?, y3]
                have r3 : w3.cell? ⟨R, 3, none⟩ = some (.int .i64 0) := by simp [World.cell?, y3]
                have rz : ∀ i, w3.frozen? ⟨R, i, none⟩ = false := fun i => by simp [World.frozen?, y3]
                go_wp2_with fail
                have hh4 := four_heap y3 (.int .i64 p1) (.int .i64 p2) (.int .i64 p3) (.int .i64 p4)
                have hg4 := four_fr (p := fun j => j = R) (w := w3) (R := R) rfl (.int .i64 p1) (.int .i64 p2) (.int .i64 p3) (.int .i64 p4)
                generalize hV : ((((w3.setCell ⟨R, 0, none⟩ (.int .i64 p1)).setCell ⟨R, 1, none⟩ (.int .i64 p2)).setCell ⟨R, 2, none⟩ (.int .i64 p3)).setCell ⟨R, 3, none⟩ (.int .i64 p4)) = V at hh4 hg4 ⊢
                have j0 : V.cell? ⟨R, 0, none⟩ = some (.int .i64 p1) := by simp [World.cell?, hh4]
                have j1 : V.cell? ⟨R, 1, none⟩ = some (.int .i64 p2) := by simp [World.cell?, hh4]
                have j2 : V.cell? ⟨R, 2, none⟩ = some (.int .i64 p3) := by simp [World.cell?, hh4]
                have j3 : V.cell? ⟨R, 3, none⟩ = some (.int .i64 p4) := by simp [World.cell?, hh4]
                have hr8 := (hr3.fr hg4 (fun g hgg e => by have e : g = R := e; have := (hr3.ty g hgg).1; omega)).mono (B' := w.heap.size) (by have := hRR.out; omega)
                have hb8 := hb3.trans (hg4.below hb3.size (fun j e => by have e : j = R := e; have := hRR.out; omega))
                refine ⟨rfl, .tuple #[.slice ao7 (done.length + d2.length) cap7, .int .i64 2, .agg #[.int .i64 p1, .int .i64 p2, .int .i64 p3, .int .i64 p4], .bool true], ?_, .slice ao7 (done.length + d2.length) cap7, ?_, by rw [HBAD.out.1]; exact hr8, hb8⟩
                rotate_left
                · rw [HBAD.out.2.1, HBAD.out.2.2]
                · simp [results, Tryd.f8, go_sem, j0, j1, j2, j3]
        · have hin' : ¬ (i : Int) < n := by omega
          have hie : (i : Int) = n := by omega
          obtain rfl : i = n := by omega
          have hpe : p = N := by
            rw [HP.out, hNN.out, hb.out, List.take_of_length_le (by rw [HL.out]; exact Nat.le_refl _)]
          have hDe := HH.out.end (by rw [← hNN.out, hpe]; exact Nat.le_refl _)
          have HDe := Lib.hid hDe
          have hPq : Pok q (ys.length + 0) := hq.mono (by omega)
          have HPq := Lib.hid hPq
          have HC := Lib.hid (end_calls wr F F v' ys q false hf)
          have hb1 := hb6.size
          clear hDe hPq hpe hie
          go_wp2_with fail
          refine HC.out.mono ?_
          rintro E w4 ⟨rfl, hm4, hf4⟩
          clear HC
          have hnF := hrow.neF hf
          have hrow4 := hrow.fr hf4 (fun g hg e => hnF g hg e)
          have y4 : w4.heap[R]? = _ := (hf4.block _ (Array.getElem?_eq_some_iff.1 hy).1 (fun e => by have e : R = F := e; omega)).trans hy
          have hbw4 : Below w.heap.size w w4 := hb6.trans (hf4.below hb1 (fun j e => by have e : j = F := e; omega))
          obtain ⟨zs, hzs⟩ : ∃ zs, Hid (zs = ys) := ⟨_, rfl⟩
          have hzl : zs.length = ys.length := by rw [hzs.out]
          rw [← hzs.out] at hm4 HPq HDe
          clear hrow hf hf4 hy hb6 hnF
          obtain ⟨X, hX⟩ : ∃ X, Hid (X = drainB zs q true) := ⟨_, rfl⟩
          rw [← hX.out] at HDe
          go_wp2_with fail
          go_loopw [7] (fun v7 wx => ∃ (d2 : List Ch6) (ys2 : List Int) (q2 : Pl) (v2 : Value), Row6 wx F v7 (done ++ d2) ∧ Fm wx F F v2 ys2 q2 true ∧ Below w.heap.size w wx ∧ wx.heap[R]? = some (Obj.cells #[.int .i64 0, .int .i64 0, .int .i64 0, .int .i64 0] 27) ∧ d2.length + ys2.length ≤ zs.length ∧ Pok q2 (ys2.length + 0) ∧ Hid (X = (d2 ++ (drainB ys2 q2 true).1, (drainB ys2 q2 true).2))) (fun v7 _ => N - slen v7)
          case atStart => exact ⟨[], zs, q, _, by rw [List.append_nil]; exact hrow4, hm4, hbw4, y4, by simp, HPq.out, Lib.hid (by rw [hX.out]; rfl)⟩
          case round =>
            obtain ⟨d2, ys2, q2, v2, hr7, hm7, hb7, hy7, hdl7, hq7, HX7⟩ := hrel
            have hTr := HT.out.below hb7
            have hsl := hr7.slen
            rw [List.length_append] at hsl
            obtain ⟨ao7, cap7, rfl, _, _⟩ := hr7.rd
            rw [List.length_append] at hr7 hsl ⊢
            have hC := next_feed _ F F v2 ys2 q2 true hm7 hTr (by omega) (by unfold Pok at hq7; omega) (by unfold Pok at hq7; omega)
            have hBr := (Array.getElem?_eq_some_iff.1 hy7).1
            unfold Nexted at hC
            obtain ⟨f, hff⟩ : ∃ f, Hid (f = firstB ys2 true) := ⟨_, rfl⟩
            obtain ⟨pk, hpk⟩ : ∃ pk, Hid (pk = peekB ys2 q2 true) := ⟨_, rfl⟩
            rw [← hff.out, ← hpk.out] at hC
            by_cases hh : f.2.2 = 0
            · have hN7 : pk = ((f.1, q2, f.2.1), 0) := by rw [hpk.out, hff.out]; unfold peekB; rw [if_pos (by rw [← hff.out]; exact hh)]
              subst hN7
              have hN2 := HX7.out
              rw [drainB_have (by rw [← hff.out]; exact hh)] at hN2
              have hw := first_have (xs := ys2) (e := true) (by rw [← hff.out]; exact hh)
              have hq2 := Pok.next (k := 0) (e := true) hq7 (by rw [← hff.out]; exact hh)
              rw [← hff.out] at hN2 hw hq2
              have HN2 := Lib.hid hN2
              have HC := Lib.hid hC
              have HH2 := Lib.hid hh
              clear hN2 hC hh hpk hff
              obtain ⟨fr, fn, fh⟩ := f
              simp only [] at hw hq2 HN2 HC
              unfold charV at HC
              go_wp2_with fail
              refine HC.out.mono ?_
              rintro E w1 ⟨rfl, hE⟩
              obtain ⟨hE1, _⟩ | ⟨_, v'', hm1, hfr1, hbl1⟩ := hE
              · exact absurd HH2.out hE1
              clear HC
              have ba := (Below.refl w1.heap.size w1).alloc (Nat.le_refl _) (Obj.cells #[.int .i32 fr, .int .i64 q2.1, .int .i64 q2.2.1, .int .i64 q2.2.2.1, .int .i64 q2.2.2.2, .int .i64 fn] 32)
              have hnF7 := hr7.neF hm7
              have hr1 := (hr7.fr hfr1 (fun g hg e => hnF7 g hg e)).stays ba
              have hown : ∀ g, Value.ownBlock (.slice ao7 (done.length + d2.length) cap7) = some g → F ≤ g ∧ g < w1.heap.size := fun g hg => ⟨(hr7.ty g hg).1, by obtain ⟨_, cur, fr, hc⟩ := hr7.ty g hg; exact Nat.lt_of_lt_of_le (Array.getElem?_eq_some_iff.1 hc).1 hfr1.size⟩
              have hm2 := hm1.fresh ba
              have y2 := (ba.block R (Nat.lt_of_lt_of_le hBr hfr1.size)).trans ((hfr1.block R hBr (fun e => by have e : R = F := e; omega)).trans hy7)
              have hb2 := (hb7.trans (hfr1.below hb7.size (fun j e => by have e : j = F := e; omega)))
              have hb3 := hb2.trans (ba.mono hb2.size)
              have z2 := heap_alloc_new w1 (Obj.cells #[.int .i32 fr, .int .i64 q2.1, .int .i64 q2.2.1, .int .i64 q2.2.2.1, .int .i64 q2.2.2.2, .int .i64 fn] 32)
              have hlt : (done.length : Int) + d2.length < N := by omega
              have hlen6 : (done ++ d2).length < 1099511627776 := by rw [List.length_append]; omega
              go_upto_region 15 with fail
              have hFw : F ≤ (w1.alloc (Obj.cells #[.int .i32 fr, .int .i64 q2.1, .int .i64 q2.2.1, .int .i64 q2.2.2.1, .int .i64 q2.2.2.2, .int .i64 fn] 32)).heap.size := hm2.le
              generalize w1.alloc (Obj.cells #[.int .i32 fr, .int .i64 q2.1, .int .i64 q2.2.1, .int .i64 q2.2.2.1, .int .i64 q2.2.2.2, .int .i64 fn] 32) = W2 at ba hr1 hm2 y2 hb3 z2 hFw ⊢
              obtain ⟨C, hCC⟩ : ∃ C, Hid (C = w1.heap.size) := ⟨_, rfl⟩
              rw [← hCC.out] at z2 hown ⊢
              have c0' : W2.cell? ⟨C, 0, none⟩ = some (.int .i32 fr) := by simp [World.cell?, z2]
              have c1' : W2.cell? ⟨C, 1, none⟩ = some (.int .i64 q2.1) := by simp [World.cell?, z2]
              have c2' : W2.cell? ⟨C, 2, none⟩ = some (.int .i64 q2.2.1) := by simp [World.cell?, z2]
              have c3' : W2.cell? ⟨C, 3, none⟩ = some (.int .i64 q2.2.2.1) := by simp [World.cell?, z2]
              have c4' : W2.cell? ⟨C, 4, none⟩ = some (.int .i64 q2.2.2.2) := by simp [World.cell?, z2]
              have c5' : W2.cell? ⟨C, 5, none⟩ = some (.int .i64 fn) := by simp [World.cell?, z2]
              go_wp2_with (at_builtin; refine append6 _ rfl _ _ rfl F _ (done ++ d2) rfl hr1 (fr, q2, fn) rfl hlen6 hFw ?_; intro v3 w3 hrow3 hgrow3)
              have hfr3 := Fr.grown (p := fun j => Value.ownBlock (.slice ao7 (done.length + d2.length) cap7) = some j) (Fr.refl _ _) hgrow3 (fun g hg => .inl hg)
              have hnF2 := hr1.neF hm2
              have hnV2 := hr1.neV hm2
              have hm3 := hm2.frv hfr3 (fun e => hnF2 F e rfl) (fun g hg e => hnV2 g e hg)
              have y3 := (hfr3.block R (Array.getElem?_eq_some_iff.1 y2).1 (fun e => by have := hown _ e; omega)).trans y2
              have hb4 : Below w.heap.size w w3 := hb3.trans (hfr3.below hb3.size (fun j e => by have := hown _ e; have := hRR.out; omega))
              have hsl3 := hrow3.slen
              have HSL3 := Lib.hid hsl3
              rw [List.append_assoc] at hrow3
              have hql : Pok (behind q2 fr fn) ((ys2.drop fn.toNat).length + 0) := hq2
              go_roundw
              case rel => exact ⟨_, _, _, _, hrow3, hm3, hb4, y3, by simp; omega, hql, Lib.hid (by rw [HN2.out]; simp)⟩
              case measure =>
                have h1 := HSL3.out
                simp only [List.length_append, List.length_singleton] at h1
                show N - slen v3 < N - (done.length + d2.length)
                omega
            · have hX2' : X = (d2, ys2, q2) := by rw [HX7.out, drainB_stop (by rw [← hff.out]; exact hh), List.append_nil]
              have HX2 := Lib.hid hX2'
              have hp2 : pk.2 = f.2.2 := by rw [hpk.out, hff.out]; exact peek_how _ _ _
              obtain ⟨⟨c0, ⟨c1, c2, c3, c4⟩, c5⟩, hw⟩ := pk
              simp only [] at hp2
              subst hp2
              have hne : (f.2.2 == 0) = false := beq_eq_false_iff_ne.2 hh
              have hrg := first_range ys2 true
              have hno := first_ended ys2
              rw [← hff.out] at hrg hno
              obtain ⟨fh, hfh⟩ : ∃ fh, fh = f.2.2 := ⟨_, rfl⟩
              have hfh2 : fh = (firstB ys2 true).2.2 := by rw [hfh, hff.out]
              rw [← hfh] at hh hne hC hpk hrg hno
              have HFH := Lib.hid hfh2
              have HC := Lib.hid hC
              have HH2 := Lib.hid hh
              clear hX2' hC hff HX7 hfh hfh2 hh
              simp only [] at HC
              unfold charV at HC
              have hDD := HDe.out
              rw [HX2.out] at hDD
              have HDD := Lib.hid hDD
              have hn1 : (fh == 1) = false := beq_eq_false_iff_ne.2 (by omega)
              clear hDD
              go_wp2_with fail
              refine HC.out.mono ?_
              rintro E w1 ⟨rfl, hE⟩
              obtain ⟨_, b1⟩ | ⟨hE1, _⟩ := hE
              rotate_left
              · exact absurd hE1 HH2.out
              clear HC
              have ba := b1.alloc b1.size (Obj.cells #[.int .i32 c0, .int .i64 c1, .int .i64 c2, .int .i64 c3, .int .i64 c4, .int .i64 c5] 32)
              have hm2 := hm7.fresh ba
              have hr2 := hr7.stays ba
              have y2 := (ba.block R hBr).trans hy7
              have hb2 := hb7.trans (ba.mono hb7.size)
              have hP := place_feed (w1.alloc (Obj.cells #[.int .i32 c0, .int .i64 c1, .int .i64 c2, .int .i64 c3, .int .i64 c4, .int .i64 c5] 32)) F F v2 ys2 q2 true hm2
              have HP2 := Lib.hid hP
              clear hP
              go_wp2_with fail
              refine HP2.out.mono ?_
              rintro E w3 ⟨rfl, b3⟩
              clear HP2
              have hr3 := hr2.stays b3
              have y3 := (b3.block R (Array.getElem?_eq_some_iff.1 y2).1).trans y2
              have hb3 := hb2.trans (b3.mono hb2.size)
              clear hr2 y2 hb2 b3
              obtain ⟨p1, p2, p3, p4⟩ := q2
              have r0 : w3.cell? ⟨R, 0, none⟩ = some (.int .i64 0) := by simp [World.cell?, y3]
              have r1 : w3.cell? ⟨R, 1, none⟩ = some (.int .i64 0) := by simp [World.cell?, y3]
              have r2 : w3.cell? ⟨R, 2, none⟩ = some (.int .i64 0) := by simp [World.cell?, y3]
              have r3 : w3.cell? ⟨R, 3, none⟩ = some (.int .i64 0) := by simp [World.cell?, y3]
              have rz : ∀ i, w3.frozen? ⟨R, i, none⟩ = false := fun i => by simp [World.frozen?, y3]
              go_wp2_with fail
              have hh4 := four_heap y3 (.int .i64 p1) (.int .i64 p2) (.int .i64 p3) (.int .i64 p4)
              have hg4 := four_fr (p := fun j => j = R) (w := w3) (R := R) rfl (.int .i64 p1) (.int .i64 p2) (.int .i64 p3) (.int .i64 p4)
              generalize hV : ((((w3.setCell ⟨R, 0, none⟩ (.int .i64 p1)).setCell ⟨R, 1, none⟩ (.int .i64 p2)).setCell ⟨R, 2, none⟩ (.int .i64 p3)).setCell ⟨R, 3, none⟩ (.int .i64 p4)) = V at hh4 hg4 ⊢
              have j0 : V.cell? ⟨R, 0, none⟩ = some (.int .i64 p1) := by simp [World.cell?, hh4]
              have j1 : V.cell? ⟨R, 1, none⟩ = some (.int .i64 p2) := by simp [World.cell?, hh4]
              have j2 : V.cell? ⟨R, 2, none⟩ = some (.int .i64 p3) := by simp [World.cell?, hh4]
              have j3 : V.cell? ⟨R, 3, none⟩ = some (.int .i64 p4) := by simp [World.cell?, hh4]
              have hr8 := (hr3.fr hg4 (fun g hgg e => by have e : g = R := e; have := (hr3.ty g hgg).1; omega)).mono (B' := w.heap.size) (by have := hRR.out; omega)
              have hb8 := hb3.trans (hg4.below hb3.size (fun j e => by have e : j = R := e; have := hRR.out; omega))
              refine ⟨rfl, .tuple #[.slice ao7 (done.length + d2.length) cap7, .int .i64 fh, .agg #[.int .i64 p1, .int .i64 p2, .int .i64 p3, .int .i64 p4], .bool true], ?_, .slice ao7 (done.length + d2.length) cap7, ?_, by rw [HDD.out]; exact hr8, hb8⟩
              rotate_left
              · rw [HDD.out, HFH.out]
              · simp [results, Tryd.f8, go_sem, j0, j1, j2, j3]
end Go.Proofs.YtpkdbfnnbbkkiaaDoor
