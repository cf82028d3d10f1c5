/- The walks of words.Find and gimletref03.Find. -/
import Derived.Test.YtkhejkfjhddobaaGreatDoorDocDM
import Derived.Test.YtkhejkfjhddobaaGreatDoorRevM
set_option maxRecDepth 100000
set_option maxHeartbeats 16000000
namespace Go.Proofs.YtkhejkfjhddobaaGreatDoor
open Go.RowKit Gim
theorem yOw (s u : ByteArray) (w : World) (hs : s.size ≤ 1099511627776) (hu : u.size ≤ 1099511627776) :
  Calls Tryz.prog 117 #[.string s, .string u] w fun e w' => e = .returned (.int .i64 (yDL (rs s) (rs u))) ∧ Below w.heap.size w w' := by
 have l1 := yAX s; have l2 := yAX u; obtain ⟨l, hl⟩ : ∃ l, Hid (l = rs s) := ⟨_, rfl⟩
 obtain ⟨t, ht⟩ : ∃ t, Hid (t = rs u) := ⟨_, rfl⟩
 obtain ⟨nl, hnl⟩ : ∃ n, Hid (n = (rs s).length) := ⟨_, rfl⟩
 obtain ⟨nt, hnt⟩ : ∃ n, Hid (n = (rs u).length) := ⟨_, rfl⟩
 rw [← hl.out, ← ht.out]; rw [← hnl.out] at l1; rw [← hnt.out] at l2; go_enter Tryz.func117, Tryz.ntmps117; go_wp2_with fail; refine (yCp _ _ hs).mono ?_; rintro e w1 ⟨v1, rfl, hr1, hb1⟩; obtain ⟨a1, c1, rfl, rd1⟩ := hr1.rd; rw [← hnl.out] at rd1 ⊢; rw [← hl.out] at rd1; clear hr1; go_wp2_with fail; refine (yCp _ _ hu).mono ?_; rintro e w2 ⟨v2, rfl, hr2, hb2⟩; obtain ⟨a2, c2, rfl, rd2⟩ := hr2.rd; rw [← hnt.out] at rd2 ⊢; rw [← ht.out] at rd2; have rd1' := rd1.below hb2; have hbw := hb1.trans (hb2.mono hb1.size); have HL := jh rd1.len; clear hr2 hl ht hnl hnt rd1 hb1 hb2; go_wp2; go_loopw [7] (fun v wr => ∃ k : Nat, v = .int .i64 k ∧ k ≤ nl + 1 ∧ Hid (∀ q, q < k → yAj l t q = false) ∧ yAJ w2 wr) (fun v _ => nl + 1 - (intOf v).toNat)
 case atStart => exact ⟨0, rfl, by omega, fun q hq => by omega, yAJ.refl _⟩
 case round =>
  obtain ⟨k, rfl, hk, HN, hd⟩ := hrel; by_cases hkl : k ≤ nl
  ·have hkl' : (k : Int) ≤ nl := by omega
   have hst := yKP _ _ _ _ _ _ _ _ k wr (rd1'.below (hd.below _)) (rd2.below (hd.below _)) (by omega) (by omega) (by omega); have HST := jh hst; clear hst; cases hsb : yAj l t k
   ·rw [hsb] at HST; have HN2 : Hid (∀ q, q < k + 1 → yAj l t q = false) := fun q hq => by
     by_cases h : q < k
     ·exact HN.out q h
     ·obtain rfl : q = k := by omega
      exact hsb
    clear hsb; go_wp2_with fail; refine HST.out.mono ?_; rintro e w3 ⟨rfl, hd3⟩; go_wp2; go_roundw
    case rel => exact ⟨k + 1, by go_num, by omega, HN2, hd.trans hd3⟩
    case measure => simp [intOf]; omega
   ·rw [hsb] at HST; have HF := jh (yNd hsb HN.out); clear hsb; go_wp2_with fail; refine HST.out.mono ?_; rintro e w3 ⟨rfl, hd3⟩; go_wp2; go_ret; exact ⟨by rw [HF.out]; rfl, hbw.trans ((hd.trans hd3).below _)⟩
  ·have hkl' : ¬ (k : Int) ≤ nl := by omega
   have HF := jh (yNn (l := l) (t := t) fun q => by
    by_cases h : q < k
    ·exact HN.out q h
    ·cases hs : yAj l t q
     ·rfl
     ·have := (yAs.1 hs).1; rw [HL.out] at this; omega)
   go_wp2; go_ret; exact ⟨by rw [HF.out]; rfl, hbw.trans (hd.below _)⟩
structure yRw (W : World) (x : NdD) (b o : Nat) : Prop where
 ev : yPZ W x.ev b o
 par : W.cell? ⟨b, o + 8, none⟩ = some (.int .i64 x.par)
 last : W.cell? ⟨b, o + 9, none⟩ = some (.int .i64 x.last)
 at_ : W.cell? ⟨b, o + 10, none⟩ = some (.int .i64 x.at_)
 clo : W.cell? ⟨b, o + 11, none⟩ = some (.int .i64 x.clo)
 val : W.cell? ⟨b, o + 12, none⟩ = some (.string x.val)
theorem yRw.below {w w' : World} {x : NdD} {b o : Nat} (h : yRw w x b o) (hb : Below w.heap.size w w') : yRw w' x b o := by
 have hc : ∀ j, w'.cell? ⟨b, j, none⟩ = w.cell? ⟨b, j, none⟩ := fun j => hb.cell (p := ⟨b, j, none⟩) h.ev.lt
 exact ⟨h.ev.below hb, (hc _).trans h.par, (hc _).trans h.last, (hc _).trans h.at_, (hc _).trans h.clo, (hc _).trans h.val⟩
structure yIB (W : World) (l : List NdD) (a : Option Addr) (n cap : Nat) : Prop where
 len : l.length = n
 le : n ≤ cap
 cap_le : cap ≤ maxLen
 fit : ∀ j, j < n → ∃ b o, a = some ⟨b, o, none⟩ ∧ b < W.heap.size ∧ ∀ (i : Nat) (x : NdD), l[i]? = some x → yRw W x b (o + i * 13)
theorem yIB.below {w w' : World} {l : List NdD} {a : Option Addr} {n cap : Nat} (h : yIB w l a n cap) (hb : Below w.heap.size w w') : yIB w' l a n cap :=
 ⟨h.len, h.le, h.cap_le, fun j hj => by obtain ⟨b, o, e, h0, h1⟩ := h.fit j hj; exact ⟨b, o, e, jt h0 hb.size, fun i x hx => (h1 i x hx).below hb⟩⟩
theorem yIB.el {W : World} {l : List NdD} {a : Option Addr} {n cap k : Nat} (h : yIB W l a n cap) (hk : k < n) : ∃ b o, a = some ⟨b, o, none⟩ ∧ b < W.heap.size ∧ yRw W (l.getD k zn) b (o + k * 13) := by obtain ⟨b, o, e, h0, h1⟩ := h.fit k hk; exact ⟨b, o, e, h0, h1 k _ (yAi (by rw [h.len]; exact hk) zn)⟩
structure yDH (W : World) (D : yAn) (a : Option Addr) (n cap : Nat) : Prop where
 ns : yIB W D.nodes a n cap
 small : n ≤ 1048576
theorem yDH.below {w w' : World} {D : yAn} {a : Option Addr} {n cap : Nat} (h : yDH w D a n cap) (hb : Below w.heap.size w w') : yDH w' D a n cap := ⟨h.ns.below hb, h.small⟩
section
variable {D : yAn} {a : Option Addr} {n cap : Nat}
theorem yMA (w : World) (h : yDH w D a n cap) {m : Int} (h1 : -1 ≤ m) (h2 : m < n) :
  Calls Tryz.prog 82 #[.slice a n cap, .int .i64 m] w fun e w' => e = .returned (.string (valD D m)) ∧ w' = w := by
 have hle := h.ns.le; have hcl := h.ns.cap_le; by_cases hm : m < 0
 ·obtain rfl : m = -1 := by omega
  by_cases hn : n = 0
  ·have HV := jh (show valD D (-1) = ⟨#[]⟩ by unfold valD; rw [if_pos (by decide), if_pos (by rw [h.ns.len]; exact hn)]; rfl); subst hn; clear h; go_enter Tryz.func82, Tryz.ntmps82; go_wp2_with fail; go_ret; exact ⟨by rw [HV.out]; first | done | rfl, rfl⟩
  ·have hn' : (n : Int) ≠ 0 := by omega
   have h0 : 0 < n := by omega
   obtain ⟨b, o, rfl, hb, hN⟩ := h.ns.el h0; rw [Nat.zero_mul] at hN; obtain ⟨v, hv⟩ := je ((D.nodes.getD 0 zn).val); have HV := jh (show valD D (-1) = v by unfold valD; rw [if_pos (by decide), if_neg (by rw [h.ns.len]; exact hn)]; exact hv); have c0 := hN.val; rw [hv] at c0; clear h hN hv; go_enter Tryz.func82, Tryz.ntmps82; go_wp2_with fail; go_ret; exact ⟨by rw [HV.out]; first | done | rfl, rfl⟩
 ·obtain ⟨k, rfl⟩ := Int.eq_ofNat_of_zero_le (show 0 ≤ m by omega); obtain ⟨b, o, rfl, hb, hN⟩ := h.ns.el (show k < n by omega); obtain ⟨v, hv⟩ := je ((D.nodes.getD k zn).val); have HV := jh (show valD D (k : Int) = v by unfold valD; rw [if_neg hm]; exact hv); have c0 := hN.val; rw [hv] at c0; clear h hN hv; go_enter Tryz.func82, Tryz.ntmps82; go_wp2_with fail; go_ret; exact ⟨by rw [HV.out]; first | done | rfl, rfl⟩
theorem yHp (w : World) (h : yDH w D a n cap) {m : Int} (h1 : -1 ≤ m) (h2 : m < n) :
  Calls Tryz.prog 83 #[.agg #[.slice a n cap, .bool D.closed], .int .i64 m] w fun e w' => e = .returned (.bool (yB7 D m)) ∧ Below w.heap.size w w' := by
 have hle := h.ns.le; have hcl := h.ns.cap_le; obtain ⟨c, hc⟩ := je (D.closed); obtain ⟨W1, hW1⟩ := je (w.alloc (.cells #[.slice a n cap, .bool c] 78)); have b1 : Below w.heap.size w W1 := by rw [← hW1]; exact (jf _ _).alloc (jr _) _
 have hX1 : W1.heap[w.heap.size]? = some (.cells #[.slice a n cap, .bool c] 78) := by rw [← hW1]; exact jw _ _
 have y0 := jc hX1 0 rfl; have y1 := jc hX1 1 rfl; have hXs : w.heap.size < W1.heap.size := jl hX1; have HB := jh b1; have HW1 := jh hW1; rw [hc]; by_cases hm : m < 0
 ·obtain rfl : m = -1 := by omega
  have HV := jh (show yB7 D (-1) = !c by unfold yB7; rw [if_pos (by decide), hc]); clear h hX1 hc b1 hW1; go_enter Tryz.func83, Tryz.ntmps83; go_upto_region 1 with fail; rw [HW1.out]; go_wp2_with fail; go_ret; exact ⟨by rw [HV.out]; first | done | rfl, HB.out⟩
 ·obtain ⟨k, rfl⟩ := Int.eq_ofNat_of_zero_le (show 0 ≤ m by omega); obtain ⟨b, o, e0, hb, hN⟩ := (h.ns.below b1).el (show k < n by omega); subst e0; obtain ⟨v, hv⟩ := je ((D.nodes.getD k zn).clo); have HV := jh (show yB7 D (k : Int) = decide (v < 0) by unfold yB7; rw [if_neg hm, ← hv]; rfl); have c0 := hN.clo; rw [hv] at c0; clear h hN hv hX1 hc b1 hW1; go_enter Tryz.func83, Tryz.ntmps83; go_upto_region 1 with fail
  rw [HW1.out]; go_wp2_with fail; go_ret; exact ⟨by rw [HV.out]; first | done | rfl, HB.out⟩
end
theorem yCM (b : Bool) (w : World) : Calls Tryz.prog 52 #[.bool b] w fun e w' => e = .returned (.int .i64 (trD b)) ∧ w' = w := by
 cases b
 all_goals
  go_enter Tryz.func52, Tryz.ntmps52; go_wp2_with fail; go_ret; exact ⟨rfl, rfl⟩
theorem yEM (x y : Int) (w : World) : Calls Tryz.prog 53 #[.int .i64 x, .int .i64 y] w fun e w' => e = .returned (.int .i64 (yB6 x y)) ∧ w' = w := by
 unfold yB6; by_cases h : x < y
 ·rw [if_pos h]; go_enter Tryz.func53, Tryz.ntmps53; go_wp2_with fail; go_ret; exact ⟨rfl, rfl⟩
 ·rw [if_neg h]; go_enter Tryz.func53, Tryz.ntmps53; go_wp2_with fail; go_ret; exact ⟨rfl, rfl⟩
theorem yFF (x y : Int) (w : World) : Calls Tryz.prog 54 #[.int .i64 x, .int .i64 y] w fun e w' => e = .returned (.int .i64 (orD x y)) ∧ w' = w := by
 unfold orD; by_cases h : y < x
 ·rw [if_pos h]; go_enter Tryz.func54, Tryz.ntmps54; go_wp2_with fail; go_ret; exact ⟨rfl, rfl⟩
 ·rw [if_neg h]; go_enter Tryz.func54, Tryz.ntmps54; go_wp2_with fail; go_ret; exact ⟨rfl, rfl⟩
theorem yDU (s : ByteArray) (c : Int) (txt : ByteArray) (num : Int) (w : World) (hs : s.size ≤ 1099511627776) (ht : txt.size ≤ 1099511627776) :
  Calls Tryz.prog 81 #[.string s, .int .i64 c, .string txt, .int .i64 num] w fun e w' => (∃ x, e = .returned (.tuple #[.bool (yHe c (rs txt) (rs s) num), x])) ∧ Below w.heap.size w w' := by
 have l1 := yAX s; obtain ⟨z, hz⟩ := je (yHe c (rs txt) (rs s) num); rw [hz]; have HZ : ∀ q, q = c → Hid (yHe q (rs txt) (rs s) num = z) := fun q hq => jh (by rw [hq]; exact hz)
 by_cases h0 : 0 ≤ c ∧ c ≤ 8
 ·obtain rfl | rfl | rfl | rfl | rfl | rfl | rfl | rfl | rfl : c = 0 ∨ c = 1 ∨ c = 2 ∨ c = 3 ∨ c = 4 ∨ c = 5 ∨ c = 6 ∨ c = 7 ∨ c = 8 := by omega
  all_goals
   have HQ := HZ _ rfl; clear hz HZ h0; go_enter Tryz.func81, Tryz.ntmps81; go_wp2_with fail; refine (yG2 s w hs).mono ?_; rintro e w1 ⟨rfl, hb1⟩; have HB1 := jh hb1
   first
    | (go_wp2_with (first
        | (go_at_call 42; refine (yIH s txt w1 hs ht).mono ?_; rintro e w2 ⟨rfl, hb2⟩; have HB2 := jh (HB1.out.trans (hb2.mono HB1.out.size)))
        | (go_at_call 115; refine (yGy s txt w1 hs ht).mono ?_; rintro e w2 ⟨rfl, hb2⟩; have HB2 := jh (HB1.out.trans (hb2.mono HB1.out.size)))
        | (go_at_call 116; refine (ySw s txt w1 hs ht).mono ?_; rintro e w2 ⟨rfl, hb2⟩; have HB2 := jh (HB1.out.trans (hb2.mono HB1.out.size)))
        | (go_at_call 117; refine (yOw s txt w1 hs ht).mono ?_; rintro e w2 ⟨rfl, hb2⟩; have HB2 := jh (HB1.out.trans (hb2.mono HB1.out.size))))
       go_ret2; exact ⟨⟨_, by rw [← HQ.out]; first | rfl | simp [yHe]⟩, by first | exact HB2.out | exact HB1.out⟩)
 ·have HQ := jh (show false = z by rw [← hz]; unfold yHe; repeat' rw [if_neg (by omega)]); have q0 : (c == 0) = false := jn.2 (by omega); have q1 : (c == 1) = false := jn.2 (by omega); have q2 : (c == 2) = false := jn.2 (by omega); have q3 : (c == 3) = false := jn.2 (by omega); have q4 : (c == 4) = false := jn.2 (by omega); have q5 : (c == 5) = false := jn.2 (by omega); have q6 : (c == 6) = false := jn.2 (by omega); have q7 : (c == 7) = false := jn.2 (by omega); have q8 : (c == 8) = false := jn.2 (by omega); clear hz HZ h0; go_enter Tryz.func81, Tryz.ntmps81; go_wp2_with fail; refine (yG2 s w hs).mono ?_; rintro e w1 ⟨rfl, hb1⟩; go_wp2_with fail; go_ret2; exact ⟨⟨_, by rw [← HQ.out]; first | done | rfl⟩, hb1⟩
theorem yNG (s : ByteArray) (c : Int) (txt : ByteArray) (num : Int) (w : World) (hs : s.size ≤ 1099511627776) (ht : txt.size ≤ 1099511627776) :
  Calls Tryz.prog 84 #[.string s, .int .i64 c, .string txt, .int .i64 num] w fun e w' => e = .returned (.int .i64 (yBL c (rs txt) (rs s) num)) ∧ Below w.heap.size w w' := by
 have l1 := yAX s; obtain ⟨z, hz⟩ := je (yBL c (rs txt) (rs s) num); rw [hz]; have HB1 : Hid (∀ W, Calls Tryz.prog 115 #[.string txt, .string s] W fun e w' => e = .returned (.bool (yAj (rs txt) (rs s) 0)) ∧ Below W.heap.size W w') := jh fun W => yGy txt s W ht hs
 have HB2 : Hid (∀ W, Calls Tryz.prog 115 #[.string s, .string txt] W fun e w' => e = .returned (.bool (yAj (rs s) (rs txt) 0)) ∧ Below W.heap.size W w') := jh fun W => yGy s txt W hs ht
 have HFI : Hid (∀ W, Calls Tryz.prog 117 #[.string s, .string txt] W fun e w' => e = .returned (.int .i64 (yDL (rs s) (rs txt))) ∧ Below W.heap.size W w') := jh fun W => yOw s txt W hs ht
 obtain ⟨n, hn⟩ := je ((rs s).length); have HLN : Hid (Calls Tryz.prog 114 #[.string s] w fun e w' => e = .returned (.int .i64 n) ∧ Below w.heap.size w w') := jh (by have := yG2 s w hs; rw [hn] at this; exact this); clear hs ht; by_cases h0 : 0 ≤ c ∧ c ≤ 8
 ·obtain rfl | rfl | rfl | rfl | rfl | rfl | rfl | rfl | rfl : c = 0 ∨ c = 1 ∨ c = 2 ∨ c = 3 ∨ c = 4 ∨ c = 5 ∨ c = 6 ∨ c = 7 ∨ c = 8 := by omega
  ·have HQ := jh (show (2 : Int) = z by rw [← hz]; rfl); clear hz h0; go_enter Tryz.func84, Tryz.ntmps84; go_wp2_with fail; refine HLN.out.mono ?_; rintro e w1 ⟨rfl, hb1⟩; have HW := jh hb1; clear hb1; go_wp2_with fail; go_ret; exact ⟨by rw [HQ.out]; first | done | rfl, HW.out⟩
  ·cases hB : yAj (rs txt) (rs s) 0 with
   | true =>
    have HQ := jh (show (1 : Int) = z by rw [← hz]; simp [yBL, hB]); clear hz h0; rw [hB] at HB1; go_enter Tryz.func84, Tryz.ntmps84; go_wp2_with fail; refine HLN.out.mono ?_; rintro e w1 ⟨rfl, hb1⟩; have HW := jh hb1; clear hb1; go_wp2_with fail; refine (HB1.out w1).mono ?_; rintro e w2 ⟨rfl, hb2⟩
    replace HW := jh (HW.out.trans (hb2.mono HW.out.size))
    clear hb2; go_wp2_with fail; go_ret; exact ⟨by rw [HQ.out]; first | done | rfl, HW.out⟩
   | false =>
    have HQ := jh (show (0 : Int) = z by rw [← hz]; simp [yBL, hB]); clear hz h0; rw [hB] at HB1; go_enter Tryz.func84, Tryz.ntmps84; go_wp2_with fail; refine HLN.out.mono ?_; rintro e w1 ⟨rfl, hb1⟩; have HW := jh hb1; clear hb1; go_wp2_with fail; refine (HB1.out w1).mono ?_; rintro e w2 ⟨rfl, hb2⟩
    replace HW := jh (HW.out.trans (hb2.mono HW.out.size))
    clear hb2; go_wp2_with fail; go_ret; exact ⟨by rw [HQ.out]; first | done | rfl, HW.out⟩
  ·cases hB : yAj (rs txt) (rs s) 0 with
   | true =>
    have HQ := jh (show (1 : Int) = z by rw [← hz]; simp [yBL, hB]); clear hz h0; rw [hB] at HB1; go_enter Tryz.func84, Tryz.ntmps84; go_wp2_with fail; refine HLN.out.mono ?_; rintro e w1 ⟨rfl, hb1⟩; have HW := jh hb1; clear hb1; go_wp2_with fail; refine (HB1.out w1).mono ?_; rintro e w2 ⟨rfl, hb2⟩
    replace HW := jh (HW.out.trans (hb2.mono HW.out.size))
    clear hb2; go_wp2_with fail; go_ret; exact ⟨by rw [HQ.out]; first | done | rfl, HW.out⟩
   | false =>
    have HQ := jh (show (2 : Int) = z by rw [← hz]; simp [yBL, hB]); clear hz h0; rw [hB] at HB1; go_enter Tryz.func84, Tryz.ntmps84; go_wp2_with fail; refine HLN.out.mono ?_; rintro e w1 ⟨rfl, hb1⟩; have HW := jh hb1; clear hb1; go_wp2_with fail; refine (HB1.out w1).mono ?_; rintro e w2 ⟨rfl, hb2⟩
    replace HW := jh (HW.out.trans (hb2.mono HW.out.size))
    clear hb2; go_wp2_with fail; go_ret; exact ⟨by rw [HQ.out]; first | done | rfl, HW.out⟩
  ·cases hC : yAj (rs s) (rs txt) 0 with
   | true =>
    have HQ := jh (show (2 : Int) = z by rw [← hz]; simp [yBL, hC]); clear hz h0; rw [hC] at HB2; go_enter Tryz.func84, Tryz.ntmps84; go_wp2_with fail; refine HLN.out.mono ?_; rintro e w1 ⟨rfl, hb1⟩; have HW := jh hb1; clear hb1; go_wp2_with fail; refine (HB2.out w1).mono ?_; rintro e w2 ⟨rfl, hb2⟩
    replace HW := jh (HW.out.trans (hb2.mono HW.out.size))
    clear hb2; go_wp2_with fail; go_ret; exact ⟨by rw [HQ.out]; first | done | rfl, HW.out⟩
   | false =>
    cases hB : yAj (rs txt) (rs s) 0 with
    | true =>
     have HQ := jh (show (1 : Int) = z by rw [← hz]; simp [yBL, hB, hC]); clear hz h0; rw [hB] at HB1; rw [hC] at HB2; go_enter Tryz.func84, Tryz.ntmps84; go_wp2_with fail; refine HLN.out.mono ?_; rintro e w1 ⟨rfl, hb1⟩; have HW := jh hb1; clear hb1; go_wp2_with fail; refine (HB2.out w1).mono ?_; rintro e w2 ⟨rfl, hb2⟩
     replace HW := jh (HW.out.trans (hb2.mono HW.out.size))
     clear hb2; go_wp2_with fail; refine (HB1.out w2).mono ?_; rintro e w3 ⟨rfl, hb2⟩
     replace HW := jh (HW.out.trans (hb2.mono HW.out.size))
     clear hb2; go_wp2_with fail; go_ret; exact ⟨by rw [HQ.out]; first | done | rfl, HW.out⟩
    | false =>
     have HQ := jh (show (0 : Int) = z by rw [← hz]; simp [yBL, hB, hC]); clear hz h0; rw [hB] at HB1; rw [hC] at HB2; go_enter Tryz.func84, Tryz.ntmps84; go_wp2_with fail; refine HLN.out.mono ?_; rintro e w1 ⟨rfl, hb1⟩; have HW := jh hb1; clear hb1; go_wp2_with fail; refine (HB2.out w1).mono ?_; rintro e w2 ⟨rfl, hb2⟩
     replace HW := jh (HW.out.trans (hb2.mono HW.out.size))
     clear hb2; go_wp2_with fail; refine (HB1.out w2).mono ?_; rintro e w3 ⟨rfl, hb2⟩
     replace HW := jh (HW.out.trans (hb2.mono HW.out.size))
     clear hb2; go_wp2_with fail; go_ret; exact ⟨by rw [HQ.out]; first | done | rfl, HW.out⟩
  ·have HQ := jh (show (1 : Int) = z by rw [← hz]; rfl); clear hz h0; go_enter Tryz.func84, Tryz.ntmps84; go_wp2_with fail; refine HLN.out.mono ?_; rintro e w1 ⟨rfl, hb1⟩; have HW := jh hb1; clear hb1; go_wp2_with fail; go_ret; exact ⟨by rw [HQ.out]; first | done | rfl, HW.out⟩
  ·obtain ⟨f, hf⟩ := je (yDL (rs s) (rs txt)); rw [hf] at HFI; by_cases hB : 0 ≤ f
   ·have HQ := jh (show (2 : Int) = z by rw [← hz]; simp [yBL, hf, hB]); clear hz h0 hf; go_enter Tryz.func84, Tryz.ntmps84; go_wp2_with fail; refine HLN.out.mono ?_; rintro e w1 ⟨rfl, hb1⟩; have HW := jh hb1; clear hb1; go_wp2_with fail; refine (HFI.out w1).mono ?_; rintro e w2 ⟨rfl, hb2⟩
    replace HW := jh (HW.out.trans (hb2.mono HW.out.size))
    clear hb2; go_wp2_with fail; go_ret; exact ⟨by rw [HQ.out]; first | done | rfl, HW.out⟩
   ·have HQ := jh (show (1 : Int) = z by rw [← hz]; simp [yBL, hf, hB]); clear hz h0 hf; go_enter Tryz.func84, Tryz.ntmps84; go_wp2_with fail; refine HLN.out.mono ?_; rintro e w1 ⟨rfl, hb1⟩; have HW := jh hb1; clear hb1; go_wp2_with fail; refine (HFI.out w1).mono ?_; rintro e w2 ⟨rfl, hb2⟩
    replace HW := jh (HW.out.trans (hb2.mono HW.out.size))
    clear hb2; go_wp2_with fail; go_ret; exact ⟨by rw [HQ.out]; first | done | rfl, HW.out⟩
  ·by_cases hB : num < (n : Int)
   ·have HQ := jh (show (0 : Int) = z by rw [← hz]; simp [yBL, hn, hB]); clear hz h0 hn; go_enter Tryz.func84, Tryz.ntmps84; go_wp2_with fail; refine HLN.out.mono ?_; rintro e w1 ⟨rfl, hb1⟩; have HW := jh hb1; clear hb1; go_wp2_with fail; go_ret; exact ⟨by rw [HQ.out]; first | done | rfl, HW.out⟩
   ·have HQ := jh (show (1 : Int) = z by rw [← hz]; simp [yBL, hn, hB]); clear hz h0 hn; go_enter Tryz.func84, Tryz.ntmps84; go_wp2_with fail; refine HLN.out.mono ?_; rintro e w1 ⟨rfl, hb1⟩; have HW := jh hb1; clear hb1; go_wp2_with fail; go_ret; exact ⟨by rw [HQ.out]; first | done | rfl, HW.out⟩
  ·by_cases hB : num < (n : Int)
   ·have HQ := jh (show (2 : Int) = z by rw [← hz]; simp [yBL, hn, hB]); clear hz h0 hn; go_enter Tryz.func84, Tryz.ntmps84; go_wp2_with fail; refine HLN.out.mono ?_; rintro e w1 ⟨rfl, hb1⟩; have HW := jh hb1; clear hb1; go_wp2_with fail; go_ret; exact ⟨by rw [HQ.out]; first | done | rfl, HW.out⟩
   ·have HQ := jh (show (1 : Int) = z by rw [← hz]; simp [yBL, hn, hB]); clear hz h0 hn; go_enter Tryz.func84, Tryz.ntmps84; go_wp2_with fail; refine HLN.out.mono ?_; rintro e w1 ⟨rfl, hb1⟩; have HW := jh hb1; clear hb1; go_wp2_with fail; go_ret; exact ⟨by rw [HQ.out]; first | done | rfl, HW.out⟩
  ·by_cases hB : num ≤ (n : Int)
   ·have HQ := jh (show (0 : Int) = z by rw [← hz]; simp [yBL, hn, hB]); clear hz h0 hn; go_enter Tryz.func84, Tryz.ntmps84; go_wp2_with fail; refine HLN.out.mono ?_; rintro e w1 ⟨rfl, hb1⟩; have HW := jh hb1; clear hb1; go_wp2_with fail; go_ret; exact ⟨by rw [HQ.out]; first | done | rfl, HW.out⟩
   ·have HQ := jh (show (1 : Int) = z by rw [← hz]; simp [yBL, hn, hB]); clear hz h0 hn; go_enter Tryz.func84, Tryz.ntmps84; go_wp2_with fail; refine HLN.out.mono ?_; rintro e w1 ⟨rfl, hb1⟩; have HW := jh hb1; clear hb1; go_wp2_with fail; go_ret; exact ⟨by rw [HQ.out]; first | done | rfl, HW.out⟩
 ·have HQ := jh (show (1 : Int) = z by rw [← hz]; unfold yBL; repeat' rw [if_neg (by omega)]); have q0 : (c == 0) = false := jn.2 (by omega); have q1 : (c == 1) = false := jn.2 (by omega); have q2 : (c == 2) = false := jn.2 (by omega); have q3 : (c == 3) = false := jn.2 (by omega); have q4 : (c == 4) = false := jn.2 (by omega); have q5 : (c == 5) = false := jn.2 (by omega); have q6 : (c == 6) = false := jn.2 (by omega); have q7 : (c == 7) = false := jn.2 (by omega); have q8 : (c == 8) = false := jn.2 (by omega); clear hz h0; go_enter Tryz.func84, Tryz.ntmps84; go_wp2_with fail; refine HLN.out.mono ?_; rintro e w1 ⟨rfl, hb1⟩; have HW := jh hb1; clear hb1; go_wp2_with fail; go_ret; exact ⟨by rw [HQ.out]; first | done | rfl, HW.out⟩
theorem yGj (a : ByteArray × ByteArray) (r : List (ByteArray × ByteArray)) (nm : ByteArray) : yBC (a :: r) nm = if a.1 = nm then some a.2 else yBC r nm := by
 unfold yBC; rw [List.find?_cons]; by_cases e : a.1 = nm
 ·rw [if_pos e, decide_eq_true e]; rfl
 ·rw [if_neg e, decide_eq_false e]
theorem yJY {nm : ByteArray} : ∀ {l : List (ByteArray × ByteArray)} {i : Nat}, i < l.length → (∀ j, j < i → (l.getD j za).1 ≠ nm) → (l.getD i za).1 = nm → yBC l nm = some (l.getD i za).2
 | a :: r, 0, _, _, h => by have h : a.1 = nm := h; rw [yGj, if_pos h]; rfl
 | a :: r, i + 1, hi, hlo, h => by have h0 : a.1 ≠ nm := hlo 0 (Nat.succ_pos _); rw [yGj, if_neg h0, yJY (l := r) (i := i) (by simpa using hi) (fun j hj => by simpa using hlo (j + 1) (by omega)) (by simpa using h)]; simp
theorem yHi {nm : ByteArray} : ∀ {l : List (ByteArray × ByteArray)}, (∀ j, j < l.length → (l.getD j za).1 ≠ nm) → yBC l nm = none
 | [], _ => rfl
 | a :: r, h => by have h0 : a.1 ≠ nm := h 0 (Nat.succ_pos _); rw [yGj, if_neg h0, yHi (l := r) fun j hj => by simpa using h (j + 1) (by simpa using hj)]
section
variable {D : yAn} {a : Option Addr} {n cap : Nat}
def yEK (D : yAn) (m : Int) (nm : ByteArray) : Option ByteArray := if m < 0 then none else yBC (yAf D m).ev.ats nm
theorem yKG (w : World) (h : yDH w D a n cap) {m : Int} (nm : ByteArray) (h2 : m < n) (hal : ∀ x ∈ D.nodes, x.ev.ats.length ≤ 1099511627776) :
  Calls Tryz.prog 80 #[.slice a n cap, .int .i64 m, .string nm] w fun e w' => (∃ s, e = .returned (.tuple #[.string s, .bool (yEK D m nm).isSome]) ∧ ∀ v, yEK D m nm = some v → s = v) ∧ w' = w := by
 have hle := h.ns.le; have hcl := h.ns.cap_le; by_cases hm : m < 0
 ·have HV := jh (show yEK D m nm = none by unfold yEK; rw [if_pos hm]); clear h; go_enter Tryz.func80, Tryz.ntmps80; go_wp2_with fail; go_ret2; exact ⟨⟨_, by rw [HV.out]; rfl, fun v hv => by rw [HV.out] at hv; cases hv⟩, rfl⟩
 ·obtain ⟨k, rfl⟩ := Int.eq_ofNat_of_zero_le (show 0 ≤ m by omega); obtain ⟨b, o, rfl, hb, hN⟩ := h.ns.el (show k < n by omega); have hk : k < D.nodes.length := by rw [h.ns.len]; omega
  obtain ⟨aa, an, ac, c4, hA⟩ := hN.ev.c4; have hz := hal (D.nodes.getD k zn) (by rw [jg, jk hk]; exact List.getElem_mem hk); obtain ⟨ats, hats⟩ := je ((D.nodes.getD k zn).ev.ats); rw [hats] at hA hz; have HV := jh (show yEK D (k : Int) nm = yBC ats nm by unfold yEK; rw [if_neg hm]; unfold yAf; rw [Int.toNat_natCast, hats]); have HA := jh hA; have HL := jh hA.len; have hale := hA.le; have hacl := hA.cap_le; have han : an ≤ 1099511627776 := by have := hA.len; omega
  clear h hN hats hA hal hz; go_enter Tryz.func80, Tryz.ntmps80; go_wp2_with fail; go_loopw [8] (fun v wr => ∃ i : Nat, v = .int .i64 i ∧ i ≤ an ∧ wr = w ∧ Hid (∀ j, j < i → (ats.getD j za).1 ≠ nm)) (fun v _ => an - (intOf v).toNat)
  case atStart => exact ⟨0, rfl, jz _, rfl, jh fun j hj => absurd hj (Nat.not_lt_zero _)⟩
  case round =>
   obtain ⟨i, rfl, hi, rfl, HT⟩ := hrel; by_cases hin : i < an
   ·have hin' : (i : Int) < an := by omega
    obtain ⟨b2, o2, rfl, hbs, g1, g2⟩ := yCa HA.out hin; obtain ⟨xn, hxn⟩ := je ((ats.getD i za).1); obtain ⟨xv, hxv⟩ := je ((ats.getD i za).2); rw [hxn] at g1; rw [hxv] at g2; by_cases hnm : xn = nm
    ·have HF := jh (show yBC ats nm = some xv by rw [← hxv]; exact yJY (by rw [HL.out]; exact hin) HT.out (hxn.trans hnm)); have qn : (xn.toList == nm.toList) = true := by rw [hnm]; exact beq_self_eq_true _
     clear hnm hxn hxv; go_wp2_with fail; go_ret2; exact ⟨⟨_, by rw [HV.out, HF.out]; rfl, fun v hv => by rw [HV.out, HF.out] at hv; injection hv⟩, rfl⟩
    ·have qn : (xn.toList == nm.toList) = false := jn.2 (fun e => hnm (toList_inj e)); have HT2 : Hid (∀ j, j < i + 1 → (ats.getD j za).1 ≠ nm) := jh fun j hj => by
      by_cases e : j = i
      ·subst e; rw [hxn]; exact hnm
      ·exact HT.out j (by omega)
     clear hnm hxn hxv; go_wp2_with fail; go_roundw
     case rel => exact ⟨i + 1, by go_num, hin, trivial, HT2⟩
     case measure => simp [intOf]; omega
   ·obtain rfl : i = an := by omega
    have HF := jh (show yBC ats nm = none from yHi fun j hj => HT.out j (by have := HL.out; omega)); go_wp2_with fail; go_ret2; exact ⟨⟨_, by rw [HV.out, HF.out]; rfl, fun v hv => by rw [HV.out, HF.out] at hv; cases hv⟩, rfl⟩
theorem yMP (w : World) (h : yDH w D a n cap) {m : Int} (h2 : m < n) (ax ts : Int) (nm : ByteArray) (xa : Option Addr) (xn xc : Nat) :
  Calls Tryz.prog 118 #[.slice a n cap, .int .i64 m, .agg #[.int .i64 ax, .int .i64 ts, .string nm, .slice xa xn xc]] w fun e w' => e = .returned (.bool (yAZ D ts nm m)) ∧ Below w.heap.size w w' := by
 have hle := h.ns.le; have hcl := h.ns.cap_le; obtain ⟨W1, hW1⟩ := je (w.alloc (.cells #[.int .i64 ax, .int .i64 ts, .string nm, .slice xa xn xc] 64)); have b1 : Below w.heap.size w W1 := by rw [← hW1]; exact (jf _ _).alloc (jr _) _
 have hX1 : W1.heap[w.heap.size]? = some (.cells #[.int .i64 ax, .int .i64 ts, .string nm, .slice xa xn xc] 64) := by rw [← hW1]; exact jw _ _
 have y1 := jc hX1 1 rfl; have y2 := jc hX1 2 rfl; have hXs : w.heap.size < W1.heap.size := jl hX1; have HB := jh b1; have HW1 := jh hW1; by_cases h3 : ts = 3
 ·subst h3; have HV := jh (show yAZ D 3 nm m = true by unfold yAZ; rw [if_pos rfl]); clear h hX1 hW1 b1; go_enter Tryz.func118, Tryz.ntmps118; go_upto_region 1 with fail; rw [HW1.out]; go_wp2_with fail; go_ret; exact ⟨by rw [HV.out]; first | done | rfl, HB.out⟩
 ·have q3 : (ts == 3) = false := jn.2 h3; by_cases hm : m < 0
  ·have HV := jh (show yAZ D ts nm m = false by unfold yAZ; rw [if_neg h3, if_pos hm]); clear h hX1 hW1 b1; go_enter Tryz.func118, Tryz.ntmps118; go_upto_region 1 with fail; rw [HW1.out]; go_wp2_with fail; go_ret; exact ⟨by rw [HV.out]; first | done | rfl, HB.out⟩
  ·obtain ⟨k, rfl⟩ := Int.eq_ofNat_of_zero_le (show 0 ≤ m by omega); obtain ⟨b, o, e0, hb, hN⟩ := (h.ns.below b1).el (show k < n by omega); subst e0; have c0 := hN.ev.c0; have c3 := hN.ev.c3; obtain ⟨kd, hkd⟩ := je ((D.nodes.getD k zn).ev.kd); obtain ⟨en, hen⟩ := je ((D.nodes.getD k zn).ev.nm); rw [hkd] at c0; rw [hen] at c3; have HV0 : Hid (∀ z, (if ts = 0 then decide (kd = 0) && decide (en = nm) else if ts = 1 then decide (kd = 0) else !decide (kd = 0)) = z → yAZ D ts nm (k : Int) = z) := jh fun z hz => by rw [← hz, ← hkd, ← hen]; unfold yAZ; rw [if_neg h3, if_neg hm]; rfl
   have HC3 := jh c3; clear h hX1 hW1 b1 hN hkd hen c3; by_cases t0 : ts = 0
   ·subst t0; by_cases hk0 : kd = 0
    ·subst hk0; have c3 := HC3.out; by_cases hn : en = nm
     ·have HV := jh (HV0.out true (by simp [hn])); have qn : (en.toList == nm.toList) = true := by rw [hn]; exact beq_self_eq_true _
      clear hn; go_enter Tryz.func118, Tryz.ntmps118; go_upto_region 1 with fail; rw [HW1.out]; go_wp2_with fail; go_quiet (fail); go_wp2_with fail; go_ret; exact ⟨by rw [HV.out]; first | done | rfl, by first | exact HB.out | exact HB.out.trans (((yAJ.refl _).drewN _).below _)⟩
     ·have HV := jh (HV0.out false (by simp [hn])); have qn : (en.toList == nm.toList) = false := jn.2 (fun e => hn (toList_inj e)); clear hn; go_enter Tryz.func118, Tryz.ntmps118; go_upto_region 1 with fail; rw [HW1.out]; go_wp2_with fail; go_quiet (fail); go_wp2_with fail; go_ret; exact ⟨by rw [HV.out]; first | done | rfl, by first | exact HB.out | exact HB.out.trans (((yAJ.refl _).drewN _).below _)⟩
    ·have qk : (kd == 0) = false := jn.2 hk0; have HV := jh (HV0.out false (by simp [hk0])); clear hk0; go_enter Tryz.func118, Tryz.ntmps118; go_upto_region 1 with fail; rw [HW1.out]; go_wp2_with fail; go_quiet (fail); go_wp2_with fail; go_ret; exact ⟨by rw [HV.out]; first | done | rfl, by first | exact HB.out | exact HB.out.trans (((yAJ.refl _).drewN _).below _)⟩
   ·have q0 : (ts == 0) = false := jn.2 t0; obtain ⟨z, hz⟩ := je ((kd == 0)); by_cases t1 : ts = 1
    ·have HV := jh (HV0.out z (by rw [if_neg t0, if_pos t1, ← hz]; rfl)); subst t1; go_enter Tryz.func118, Tryz.ntmps118; go_upto_region 1 with fail; rw [HW1.out]; go_wp2_with fail; go_ret; exact ⟨by rw [HV.out]; first | done | rfl, HB.out⟩
    ·have q1 : (ts == 1) = false := jn.2 t1; have HV := jh (HV0.out (!z) (by rw [if_neg t0, if_neg t1, ← hz]; rfl)); go_enter Tryz.func118, Tryz.ntmps118; go_upto_region 1 with fail; rw [HW1.out]; go_wp2_with fail; go_ret; exact ⟨by rw [HV.out]; first | done | rfl, HB.out⟩
end
theorem yMg (a : Int) (n : Nat) : upI a (n + 1) = upI a n ++ [a + n] := by unfold upI; rw [List.range_succ, List.map_append]; rfl
def axB (D : yAn) (m ax k : Int) : Bool := decide (ax = 1 ∨ ax = 2 ∨ ax = 0 ∧ (yAf D k).par = m)
def yTj (m ax : Int) : List Int := if ax = 2 ∨ ax = 3 then [m] else []
def yC1 (D : yAn) (m ax : Int) (i : Nat) : List Int := yTj m ax ++ (upI (m + 1) i).filter (axB D m ax)
theorem ySL (D : yAn) (m ax : Int) : yC1 D m ax 0 = yTj m ax := by simp [yC1, upI]
theorem yRy {D : yAn} {m ax : Int} {i : Nat} (h : axB D m ax (m + 1 + i) = true) : yC1 D m ax (i + 1) = yC1 D m ax i ++ [m + 1 + i] := by unfold yC1; rw [yMg, List.filter_append, List.append_assoc]; simp [h]
theorem yQB {D : yAn} {m ax : Int} {i : Nat} (h : axB D m ax (m + 1 + i) = false) : yC1 D m ax (i + 1) = yC1 D m ax i := by unfold yC1; rw [yMg, List.filter_append]; simp [h]
theorem yJF (D : yAn) (m ax : Int) : yC1 D m ax (yAY D m - m).toNat = yBS D m ax := rfl
theorem yKh (D : yAn) (m ax : Int) (i : Nat) : (yC1 D m ax i).length ≤ i + 1 := by
 unfold yC1 yTj; rw [jp]; have h1 := List.length_filter_le (axB D m ax) (upI (m + 1) i); have h2 : (upI (m + 1) i).length = i := by simp [upI]
 split <;> simp <;> omega
section
variable {D : yAn} {a : Option Addr} {n cap : Nat}
theorem yKW (w : World) (h : yDH w D a n cap) {m ax : Int} (h1 : -1 ≤ m) (h2 : m < n) (h3 : yAY D m < n) (h4 : m ≤ yAY D m) :
  Calls Tryz.prog 86 #[.slice a n cap, .int .i64 m, .int .i64 ax] w (yIJ w 3 .i64 (yBS D m ax)) := by
 have hle := h.ns.le; have hcl := h.ns.cap_le; have hsm := h.small; have HD := jh h; obtain ⟨la, hla⟩ := je (yAY D m); have HLA := jh hla; rw [hla] at h3 h4; have q1 : (m < -1) = False := eq_false (by omega); have q2 : ¬ (n : Int) ≤ m := by omega
 have q3 : ¬ m < -1 := by omega
 have e1 : IntKind.i64.wrap (m + 1) = m + 1 := IntWalk.i64_in _ (by omega); have e2 : IntKind.i64.wrap ((n : Int) - 1) = (n : Int) - 1 := IntWalk.i64_in _ (by omega); have HM : Hid ((m < 0 ∧ (n : Int) - 1 = la) ∨ 0 ≤ m ∧ ∃ (b o : Nat), a = some ⟨b, o, none⟩ ∧ b < w.heap.size ∧ ∀ W, Below w.heap.size w W → W.cell? ⟨b, o + m.toNat * 13 + 9, none⟩ = some (.int .i64 la)) := jh (by
  by_cases hm : m < 0
  ·exact .inl ⟨hm, by rw [← hla]; unfold yAY; rw [if_pos hm, h.ns.len]⟩
  ·obtain ⟨b, o, e, hb, hN⟩ := h.ns.el (show m.toNat < n by omega); refine .inr ⟨by omega, b, o, e, hb, fun W hW => ?_⟩; rw [hW.cell (p := ⟨b, o + m.toNat * 13 + 9, none⟩) hb, hN.last, ← hla, yCh (by omega)]; rfl)
 have HN : Hid (∀ W, Below w.heap.size w W → ∀ k : Int, 0 ≤ k → k < n → ∃ b o, a = some ⟨b, o, none⟩ ∧ b < W.heap.size ∧ W.cell? ⟨b, o + k.toNat * 13 + 8, none⟩ = some (.int .i64 (yAf D k).par)) := jh fun W hW k k0 hk => by obtain ⟨b, o, e, hb, hN⟩ := (h.ns.below hW).el (show k.toNat < n by omega); exact ⟨b, o, e, hb, hN.par⟩
 have H0 : Row w w.heap.size 3 .i64 (.slice none 0 0) [] := World.ownsRow_nil _ _ _ _; obtain ⟨S, hS⟩ := je (yC1 D m ax); obtain ⟨L, hL⟩ := je (yBS D m ax); have HIO : Hid (∀ i : Nat, (S (i + 1) = S i ++ [m + 1 + (i : Int)] ∧ (ax = 0 → ((yAf D (m + 1 + i)).par == m) = true) ∧ (ax = 0 ∨ ax = 1 ∨ ax = 2)) ∨ (S (i + 1) = S i ∧ (ax = 0 → ((yAf D (m + 1 + i)).par == m) = false) ∧ ax ≠ 1 ∧ ax ≠ 2)) := jh fun i => by
  rw [← hS]; by_cases hi : axB D m ax (m + 1 + i) = true
  ·refine .inl ⟨yRy hi, ?_, ?_⟩
   all_goals unfold axB at hi
   all_goals have hi := of_decide_eq_true hi
   ·exact fun e => beq_iff_eq.2 (by omega)
   ·omega
  ·have hi := Bool.eq_false_iff.2 hi; refine .inr ⟨yQB hi, ?_⟩; unfold axB at hi; have hi := of_decide_eq_false hi; exact ⟨fun e => jn.2 (by omega), by omega, by omega⟩
 have HS0 : Hid (S 0 = if ax = 2 ∨ ax = 3 then [m] else []) := jh (by rw [← hS]; exact ySL D m ax); have HLEN : Hid (∀ i, (S i).length ≤ i + 1) := jh fun i => by rw [← hS]; exact yKh D m ax i
 have HEND : Hid (S (la - m).toNat = L) := jh (by rw [← hS, ← hL, ← hla]; exact yJF D m ax); rw [hL]; clear hla h hS hL; have h5 : ax = 0 ∨ ax = 1 ∨ ax = 2 ∨ ax = 3 ∨ (Hid (ax ≠ 0 ∧ ax ≠ 1 ∧ ax ≠ 2 ∧ ax ≠ 3) ∧ (ax == 0) = false ∧ (ax == 1) = false ∧ (ax == 2) = false ∧ (ax == 3) = false) := by
  by_cases h0 : ax = 0 ∨ ax = 1 ∨ ax = 2 ∨ ax = 3
  ·omega
  ·exact .inr (.inr (.inr (.inr ⟨jh (by omega), jn.2 (by omega), jn.2 (by omega), jn.2 (by omega), jn.2 (by omega)⟩)))
 rcases h5 with rfl | rfl | rfl | rfl | ⟨HNE, c0, c1, c2, c3⟩
 all_goals rcases HM.out with ⟨hm, hl⟩ | ⟨hm, b, o, rfl, hbs, hc⟩
 all_goals
  try replace hl := jh hl
  try have c9 := hc _ (jf _ _)
  try replace hc := jh hc
  have hown' := H0; have hbB := jf w.heap.size w; go_enter Tryz.func86, Tryz.ntmps86; go_wp2_with (at_builtin; refine yOx _ rfl _ _ 53 rfl w.heap.size 3 .i64 8 yDT Tryz.underlying53 _ _ rfl H0 _ rfl (by simp) (by decide) (by omega) ?_; clear hown' hbB; intro v' w3 hown' hgrow3; have hbB : Below w.heap.size w w3 := (jf _ _).grown hgrow3 (jr _) (fun j hj => by cases hj); (try have c9 := hc.out _ hbB); (try have hbs3 := jt hbs hbB.size))
  try rw [hl.out]
  clear q1 q2 q3 e2
  try clear c9
  go_loopw [7, 9] (fun v7 v9 wr => ∃ i : Nat, v9 = .int .i64 (m + 1 + i) ∧ m + 1 + (i : Int) ≤ la + 1 ∧ Row wr w.heap.size 3 .i64 v7 (S i) ∧ Below w.heap.size w wr) (fun _ v9 _ => (la + 1 - intOf v9).toNat)
  case atStart =>
   try have hne := HNE.out
   exact ⟨0, by simp, by omega, by rw [HS0.out]; first | exact hown' | (rw [if_neg (by omega)]; exact hown'), hbB⟩
  case round =>
   obtain ⟨i, rfl, hi, hrow9, hb9⟩ := hrel; have hsz9 := hb9.size; by_cases hin : m + 1 + (i : Int) ≤ la
   ·have hz := HIO.out i; obtain ⟨k2, hk⟩ := je (m + 1 + (i : Int)); have hlen := HLEN.out i; have hk0 : 0 ≤ k2 := by omega
    have hkn : k2 < n := by omega
    have e3 : IntKind.i64.wrap (k2 + 1) = k2 + 1 := IntWalk.i64_in _ (by omega); obtain ⟨ys, hys⟩ := je (S i); rw [hys] at hrow9 hlen hz; have HK := jh hk; have HI : Hid (k2 + 1 = m + 1 + ((i + 1 : Nat) : Int)) := jh (by push_cast; omega); obtain ⟨pv, hpv⟩ := je ((yAf D k2).par); obtain ⟨b2, o2, e5, hbs2, c8⟩ := HN.out wr hb9 k2 hk0 hkn; rw [hk, hpv] at hz; rw [hpv] at c8
    first | subst e5 | (injection e5 with e5; injection e5 with e6 e7; subst e6; subst e7)
    clear hpv hys; rw [hk] at hin ⊢; rcases hz with ⟨hF, hz1, hz2⟩ | ⟨hF, hz1, hz2⟩
    ·try (exfalso; (try have hne := HNE.out); omega)
     all_goals
      have HF := jh hF
      (try have zp := hz1 trivial)
      clear hz1 hz2 hF; go_wp2_with (at_builtin; refine yOx _ rfl _ _ 53 rfl w.heap.size 3 .i64 8 yDT Tryz.underlying53 _ _ rfl hrow9 _ rfl (by omega) (by decide) (by omega) ?_; intro v' w3 hown' hgrow3); have hb3 := hb9.grown hgrow3 hsz9 (fun j hj => (hrow9.lt _ hj).1); go_roundw
      case rel => exact ⟨i + 1, by rw [HI.out], by rw [← HI.out]; omega, by rw [HF.out]; exact hown', hb3⟩
      case measure => simp [intOf]; omega
    ·try (exfalso; (try have hne := HNE.out); omega)
     all_goals
      have HF := jh hF
      (try have zp := hz1 trivial)
      clear hz1 hz2 hF; go_wp2_with fail; go_roundw
      case rel => exact ⟨i + 1, by rw [HI.out], by rw [← HI.out]; omega, by rw [HF.out]; exact hrow9, hb9⟩
      case measure => simp [intOf]; omega
   ·have HE := jh (show S i = L by rw [← HEND.out]; congr 1; omega); rw [HE.out] at hrow9; go_wp2_with fail; go_ret; exact ⟨_, rfl, hrow9, hb9⟩
end
structure yJK (D : yAn) : Prop where
 val : ∀ x ∈ D.nodes, x.val.size ≤ 1099511627776
 al : ∀ x ∈ D.nodes, x.ev.ats.length ≤ 1099511627776
 at_ : ∀ x ∈ D.nodes, ∀ y ∈ x.ev.ats, y.2.size ≤ 1099511627776
theorem yKA {l : List NdD} {k : Nat} (h : k < l.length) : l.getD k zn ∈ l := by rw [jg, jk h]; exact List.getElem_mem h
theorem yJK.valD {D : yAn} (h : yJK D) {m : Int} (h2 : m < D.nodes.length) : (valD D m).size ≤ 1099511627776 := by
 unfold Proofs.YtkhejkfjhddobaaGreatDoor.valD; split
 ·split
  ·exact jz _
  ·exact h.val _ (yKA (by omega))
 ·exact h.val _ (yKA (by omega))
theorem yI1 {nm s : ByteArray} : ∀ {l : List (ByteArray × ByteArray)}, yBC l nm = some s → ∃ y ∈ l, y.2 = s
 | [], h => by cases h
 | a :: r, h => by
  rw [yGj] at h; split at h
  ·injection h with h; exact ⟨a, List.mem_cons_self, h⟩
  ·obtain ⟨y, hy, e⟩ := yI1 h; exact ⟨y, List.mem_cons_of_mem _ hy, e⟩
section
variable {D : yAn} {a : Option Addr} {n cap : Nat}
theorem yIj (w : World) (h : yDH w D a n cap) (hz : yJK D) {m : Int} (h1 : -1 ≤ m) (h2 : m < n) (op : Int) (xa : Option Addr) (xn xc : Nat) (ya : Option Addr) (yn yc : Nat) (nm : ByteArray) (cmp : Int) (txt : ByteArray) (num : Int) (ht : txt.size ≤ 1099511627776) :
  Calls Tryz.prog 50 #[.agg #[.slice a n cap, .bool D.closed], .int .i64 m, .agg #[.int .i64 op, .slice xa xn xc, .slice ya yn yc, .string nm, .int .i64 cmp, .string txt, .int .i64 num]] w fun e w' => e = .returned (.int .i64 (yC2 D nm cmp txt num m)) ∧ Below w.heap.size w w' := by
 obtain ⟨c, hc⟩ := je (D.closed); obtain ⟨W1, hW1⟩ := je ((w.alloc (.cells #[.slice a n cap, .bool c] 78)).alloc (.cells #[.int .i64 op, .slice xa xn xc, .slice ya yn yc, .string nm, .int .i64 cmp, .string txt, .int .i64 num] 66)); obtain ⟨hX1, hY1, hsz1, b1⟩ := yDj w (.cells #[.slice a n cap, .bool c] 78) (.cells #[.int .i64 op, .slice xa xn xc, .slice ya yn yc, .string nm, .int .i64 cmp, .string txt, .int .i64 num] 66); rw [hW1] at hX1 hY1 hsz1 b1; have hXs : w.heap.size < W1.heap.size := by omega
 have hYs : w.heap.size + 1 < W1.heap.size := by omega
 have HK : Hid (∀ W, Below W1.heap.size W1 W → W.cell? ⟨w.heap.size, 0, none⟩ = some (.slice a n cap) ∧ W.cell? ⟨w.heap.size, 1, none⟩ = some (.bool c) ∧ W.cell? ⟨w.heap.size + 1, 3, none⟩ = some (.string nm) ∧ W.cell? ⟨w.heap.size + 1, 4, none⟩ = some (.int .i64 cmp) ∧ W.cell? ⟨w.heap.size + 1, 5, none⟩ = some (.string txt) ∧ W.cell? ⟨w.heap.size + 1, 6, none⟩ = some (.int .i64 num) ∧ w.heap.size < W.heap.size ∧ w.heap.size + 1 < W.heap.size) := jh fun W hW => by have e1 := (hW.block _ hXs).trans hX1; have e2 := (hW.block _ hYs).trans hY1; have := hW.size; exact ⟨by simp [World.cell?, e1], by simp [World.cell?, e1], by simp [World.cell?, e2], by simp [World.cell?, e2], by simp [World.cell?, e2], by simp [World.cell?, e2], by omega, by omega⟩
 have HD := jh (h.below b1); have HB1 := jh b1; have HW1 := jh hW1; have hlen := h.ns.len; obtain ⟨y0, y1, y3, y4, y5, y6, _, _⟩ := HK.out W1 (jf _ _); obtain ⟨z, hZ⟩ := je (yC2 D nm cmp txt num m); have HC : Hid (D.closed = c) := jh hc; rw [hc, hZ]; by_cases hnm : nm.toList ≠ []
 ·have q1 : (nm.toList != []) = true := by simpa using hnm
  have q2 : (nm.toList == []) = false := jn.2 hnm; have hAT := yKG (D := D) W1 (h.below b1) nm h2 hz.al; have HZ : Hid (∀ z', (match yEK D m nm with | none => 0 | some s => trD (yHe cmp (rs txt) (rs s) num)) = z' → z' = z) := jh fun z' hz' => by
   rw [← hz', ← hZ]; unfold yC2 yEK; rw [if_pos hnm]; by_cases hm : m < 0
   ·rw [if_pos hm, if_pos hm]
   ·rw [if_neg hm, if_neg hm]; rfl
  have HSZ : Hid (∀ s, yEK D m nm = some s → s.size ≤ 1099511627776) := jh fun s hs => by
   unfold yEK at hs; split at hs
   ·cases hs
   ·obtain ⟨y, hy, rfl⟩ := yI1 hs; exact hz.at_ (yAf D m) (yKA (by omega)) y hy
  obtain ⟨av, hav⟩ := je (yEK D m nm); rw [hav] at hAT HZ HSZ; have HAT := jh hAT; clear h hz b1 hX1 hY1 hZ hAT hav hW1 hnm hc; cases av with
  | none =>
   have HF := jh (HZ.out 0 rfl); go_enter Tryz.func50, Tryz.ntmps50; go_upto_region 1 with fail; rw [HW1.out]; go_wp2_with fail; refine HAT.out.mono ?_; rintro e w2 ⟨⟨s, rfl, _⟩, rfl⟩; go_wp2_with fail; go_ret; exact ⟨by rw [← HF.out]; first | done | rfl, HB1.out⟩
  | some s =>
   have HF := jh (HZ.out _ rfl); have hss := HSZ.out s rfl; go_enter Tryz.func50, Tryz.ntmps50; go_upto_region 1 with fail; rw [HW1.out]; go_wp2_with fail; refine HAT.out.mono ?_; rintro e w2 ⟨⟨s', rfl, hs'⟩, rfl⟩; obtain rfl := hs' s rfl; clear hs'; go_wp2_with fail; refine (yDU s' cmp txt num w2 hss ht).mono ?_; rintro e w3 ⟨⟨x, rfl⟩, hb3⟩; have HB3 := jh (HB1.out.trans (hb3.mono HB1.out.size)); clear hb3; go_wp2_with fail; refine (yCM _ w3).mono ?_; rintro e w4 ⟨rfl, rfl⟩; go_wp2_with fail; go_ret; exact ⟨by rw [← HF.out]; first | done | rfl, HB3.out⟩
 ·have q1 : (nm.toList != []) = false := by simpa using hnm
  have q2 : (nm.toList == []) = true := by simpa using hnm
  have hV := yMA (D := D) W1 (h.below b1) h1 h2; have hvs := hz.valD (m := m) (by omega); obtain ⟨v, hv⟩ := je (valD D m); obtain ⟨o, ho⟩ := je (yB7 D m); have HZ : Hid ((if o = true then yBL cmp (rs txt) (rs v) num else trD (yHe cmp (rs txt) (rs v) num)) = z) := jh (by rw [← hZ, ← ho, ← hv]; unfold yC2; rw [if_neg hnm]); have HO : Hid (Calls Tryz.prog 83 #[.agg #[.slice a n cap, .bool c], .int .i64 m] W1 fun e w' => e = .returned (.bool o) ∧ Below W1.heap.size W1 w') := jh (by have := yHp (D := D) W1 (h.below b1) h1 h2; rw [ho, hc] at this; exact this); rw [hv] at hV hvs; have HV := jh hV; clear h hz b1 hX1 hY1 hZ hV hv ho hW1 hnm hc; cases o with
  | true =>
   go_enter Tryz.func50, Tryz.ntmps50; go_upto_region 1 with fail; rw [HW1.out]; go_wp2_with fail; refine HV.out.mono ?_; rintro e w2 ⟨rfl, rfl⟩; go_wp2_with fail; refine HO.out.mono ?_; rintro e w3 ⟨rfl, hb3⟩; obtain ⟨y0, y1, y3, y4, y5, y6, hs3, hs3'⟩ := HK.out w3 hb3; have HB3 := jh (HB1.out.trans (hb3.mono HB1.out.size)); clear hb3; go_wp2_with fail; refine (yNG v cmp txt num w3 hvs ht).mono ?_; rintro e w4 ⟨rfl, hb4⟩; go_wp2_with fail; go_ret; exact ⟨by rw [← HZ.out]; first | done | rfl, HB3.out.trans (hb4.mono HB3.out.size)⟩
  | false =>
   go_enter Tryz.func50, Tryz.ntmps50; go_upto_region 1 with fail; rw [HW1.out]; go_wp2_with fail; refine HV.out.mono ?_; rintro e w2 ⟨rfl, rfl⟩; go_wp2_with fail; refine HO.out.mono ?_; rintro e w3 ⟨rfl, hb3⟩; obtain ⟨y0, y1, y3, y4, y5, y6, hs3, hs3'⟩ := HK.out w3 hb3; have HB3 := jh (HB1.out.trans (hb3.mono HB1.out.size)); clear hb3; go_wp2_with fail; refine (yDU v cmp txt num w3 hvs ht).mono ?_; rintro e w4 ⟨⟨x, rfl⟩, hb4⟩; have HB4 := jh (HB3.out.trans (hb4.mono HB3.out.size)); clear hb4; go_wp2_with fail; refine (yCM _ w4).mono ?_; rintro e w5 ⟨rfl, rfl⟩; go_wp2_with fail; go_ret; exact ⟨by rw [← HZ.out, if_neg (by decide)]; first | done | rfl, HB4.out⟩
end
end Go.Proofs.YtkhejkfjhddobaaGreatDoor
