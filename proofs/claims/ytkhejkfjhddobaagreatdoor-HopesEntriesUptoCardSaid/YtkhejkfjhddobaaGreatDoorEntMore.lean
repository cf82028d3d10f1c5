/- HopesEntries: the bound behind each event. -/
import Derived.Test.YtkhejkfjhddobaaGreatDoorEntLawM
namespace Go.Proofs.YtkhejkfjhddobaaGreatDoor
open Go.RowKit Gim
theorem EntR.below {n0 : Nat} {w0 wr W : World} {H : Nat} {nd : NetD} {es : List EvD} {i : Nat} {s : CkS} {fs : List FrS} (h : EntR n0 w0 wr H nd es i s fs) (hb : Below wr.heap.size wr W) : EntR n0 w0 W H nd es i s fs := by
  obtain ⟨hbg, ⟨tg, ex, hx⟩, hlen, hhb, hlow⟩ := h
  exact ⟨hbg, ⟨_, ex, hx.below hb⟩, hlen, hhb, hlow.trans (hb.mono hx.low.1)⟩
theorem EntR.entries {n0 : Nat} {w0 wr : World} {H : Nat} {nd : NetD} {es : List EvD} {i : Nat} {s : CkS} {fs : List FrS} (h : EntR n0 w0 wr H nd es i s fs) (hn : es.length ≤ 4000) (hr : nd.rows.length + nd.preds.length ≤ 1099511627776) :
    Calls Tryz.prog 16 #[.pointer (some ⟨H, 0, none⟩)] wr fun e w' => e = .returned (.int .i64 ((fs.length * (nd.rows.length + nd.preds.length) : Nat) : Int)) ∧ EntR n0 w0 w' H nd es i s fs := by
  have h' := h
  obtain ⟨hbg, ⟨tg, ex, hx⟩, hlen, hhb, hlow⟩ := h
  have hsz := (begS_len _ _ _ hbg).1
  have hsz1 : s.os.length ≤ 0 + (es.take i).length := hsz
  rw [List.length_take] at hsz1
  obtain ⟨K, vF, vX, vK, ps, vO, h1, _⟩ := hx
  refine (entries_calls wr h1 (by omega) hr).mono ?_
  rintro e w' ⟨rfl, hb⟩
  exact ⟨rfl, h'.below hb⟩
theorem depth_top {s : CkS} {e : EvD} (hck : CkOk s) (hn : nxtB s e = true) : 0 ≤ e.dep ∧ e.dep ≤ (s.os.length : Int) + 1 := by
  unfold nxtB at hn
  rw [Bool.and_eq_true] at hn
  obtain ⟨_, hn⟩ := hn
  by_cases h0 : e.kd = 0
  · rw [if_pos h0] at hn
    simp only [opnB, Bool.and_eq_true, decide_eq_true_eq] at hn
    have := hn.1.1.1.1.2
    omega
  · rw [if_neg h0] at hn
    by_cases h1 : e.kd = 1
    · rw [if_pos h1] at hn
      simp only [txtB, Bool.and_eq_true, decide_eq_true_eq] at hn
      have := hn.1.1.1.1.1.1.2
      omega
    · rw [if_neg h1] at hn
      by_cases h2 : e.kd = 2
      · rw [if_pos h2] at hn
        simp only [clsB, Bool.and_eq_true, decide_eq_true_eq] at hn
        have hl := hn.1
        have hd := hn.2.1.1.1.2
        have hx : s.os[s.os.length - 1]? = some (s.os.getD (s.os.length - 1) zo) := by
          rw [List.getD_eq_getElem?_getD, List.getElem?_eq_getElem (by omega)]
          rfl
        have := hck.dep _ _ hx
        omega
      · rw [if_neg h2] at hn
        cases hn
/-- behind event i: the frames, the depth -/
theorem EntR.depth {n0 : Nat} {w0 wr wr2 : World} {H : Nat} {nd : NetD} {es : List EvD} {i : Nat} {s s' : CkS} {fs fs' : List FrS} (h : EntR n0 w0 wr H nd es i s fs) {e : EvD} (he : es[i]? = some e) (hall : begS ck0 es = some s') (h2 : EntR n0 w0 wr2 H nd es (i + 1) (stp s e) fs') (hn : es.length ≤ 4000) :
    (fs'.length : Int) ≤ e.dep + 1 ∧ 0 ≤ e.dep ∧ e.dep ≤ 4001 := by
  obtain ⟨t, t1, t2, t3⟩ := begS_next hall he
  rw [h.beg] at t1
  injection t1 with t1
  subst t1
  have hck := ckOk_beg _ ckOk_0 h.beg
  have hsz := (begS_len _ _ _ h.beg).1
  have hsz1 : s.os.length ≤ 0 + (es.take i).length := hsz
  rw [List.length_take] at hsz1
  have h3 := depth_ok hck t2
  have h4 := depth_top hck t2
  have h5 := h2.len
  omega
theorem EntR.depth0 {n0 : Nat} {w0 wr : World} {H : Nat} {nd : NetD} {es : List EvD} {i : Nat} {s s' : CkS} {fs : List FrS} (h : EntR n0 w0 wr H nd es i s fs) {e : EvD} (he : es[i]? = some e) (hall : begS ck0 es = some s') (hn : es.length ≤ 4000) :
    (((takeFs nd (stp s e).dn fs e).1.length : Nat) : Int) ≤ e.dep + 1 ∧ 0 ≤ e.dep ∧ e.dep ≤ 4001 := by
  obtain ⟨t, t1, t2, t3⟩ := begS_next hall he
  rw [h.beg] at t1
  injection t1 with t1
  subst t1
  have hck := ckOk_beg _ ckOk_0 h.beg
  have hsz := (begS_len _ _ _ h.beg).1
  have hsz1 : s.os.length ≤ 0 + (es.take i).length := hsz
  rw [List.length_take] at hsz1
  have h3 := depth_ok hck t2
  have h4 := depth_top hck t2
  have h5 := takeFs_len nd s fs e t2 h.len
  omega
/-- the bound's numbers -/
theorem bound_nums {S : Nat} {d : Int} (hS : S ≤ 2000) (h0 : 0 ≤ d) (h1 : d ≤ 4001) : IntKind.i64.wrap (d + 1) = d + 1 ∧ IntKind.i64.wrap (8 * (d + 1)) = 8 * (d + 1) ∧ IntKind.i64.wrap (8 * (d + 1) * (S : Int)) = 8 * (d + 1) * S ∧ IntKind.i64.wrap (8 * (d + 1) * (S : Int) * S) = 8 * (d + 1) * S * S := by
  obtain ⟨n, hn⟩ := Int.eq_ofNat_of_zero_le (show 0 ≤ d + 1 by omega)
  rw [hn]
  have hn2 : n ≤ 4002 := by omega
  have k1 : 8 * n ≤ 8 * 4002 := Nat.mul_le_mul_left _ hn2
  have k2 : 8 * n * S ≤ 8 * 4002 * 2000 := Nat.mul_le_mul k1 hS
  have k3 : 8 * n * S * S ≤ 8 * 4002 * 2000 * 2000 := Nat.mul_le_mul k2 hS
  refine ⟨IntWalk.i64_in _ (by omega), IntWalk.i64_in _ (by omega), IntWalk.i64_in _ ?_, IntWalk.i64_in _ ?_⟩
  · have e : 8 * (n : Int) * S = ((8 * n * S : Nat) : Int) := by push_cast; rfl
    omega
  · have e : 8 * (n : Int) * S * S = ((8 * n * S * S : Nat) : Int) := by push_cast; rfl
    omega
end Go.Proofs.YtkhejkfjhddobaaGreatDoor

