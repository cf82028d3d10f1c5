/- HopesEntries: what is kept is within the bound; how long hunted texts get: plain. -/
import Derived.Test.YtkhejkfjhddobaaGreatDoorHoEntriesM
import Derived.Test.YtkhejkfjhddobaaGreatDoorEntSzM
section
namespace Go.Proofs.YtkhejkfjhddobaaGreatDoor
open Go.RowKit Gim
/-- hunts that are not closed, of texts not longer than T -/
def HB (T : Nat) (fs : List FrS) : Prop := ∀ f ∈ fs, ∀ (i : Nat) (s : HuS), f.hunts[i]? = some (some s) → s.whole = false ∧ s.l.length ≤ T
theorem HB.mono {T T' : Nat} {fs : List FrS} (h : HB T fs) (ht : T ≤ T') : HB T' fs := fun f hf i s hs => ⟨(h f hf i s hs).1, Nat.le_trans (h f hf i s hs).2 ht⟩
theorem HB.huns {T : Nat} {fs : List FrS} (h : HB T fs) {t : ByteArray} (ht : T + t.size ≤ 2 ^ 62) : ∀ f ∈ fs, HunsOk t f := fun f hf i s hs => by
  have := h f hf i s hs
  exact ⟨this.1, by omega⟩
theorem mem_modify {α : Type} (g : α → α) : ∀ (l : List α) (n : Nat) (x : α), x ∈ l.modify n g → ∃ y ∈ l, x = y ∨ x = g y
  | [], n, x, h => by simp at h
  | a :: l, 0, x, h => by
    rw [List.modify_zero_cons, List.mem_cons] at h
    rcases h with h | h
    · exact ⟨a, List.mem_cons_self, .inr h⟩
    · exact ⟨x, List.mem_cons_of_mem _ h, .inl rfl⟩
  | a :: l, n + 1, x, h => by
    rw [List.modify_succ_cons, List.mem_cons] at h
    rcases h with h | h
    · exact ⟨a, List.mem_cons_self, .inl h⟩
    · obtain ⟨y, hy, e⟩ := mem_modify g l n x h
      exact ⟨y, List.mem_cons_of_mem _ hy, e⟩
theorem HB.met {T : Nat} {fs : List FrS} (h : HB T fs) (here : List Int) (f : FrS) : HB T (onLast (metFr here f) fs) := fun g hg i s hs => by
  obtain ⟨y, hy, e⟩ := mem_modify _ _ _ _ hg
  rcases e with e | e
  · subst e
    exact h _ hy i s hs
  · subst e
    exact h _ hy i s hs
theorem openF_hunt0 (nd : NetD) (kind : Int) (name : ByteArray) (ats : List (ByteArray × ByteArray)) {T : Nat} : HB T [openF nd kind name ats] := fun f hf i s hs => by
  rw [List.mem_singleton] at hf
  subst hf
  have h := openF_huns nd kind name ats ByteArray.empty (by decide) i s hs
  refine ⟨h.1, ?_⟩
  have hs : (preL nd.preds.length (huntG nd) none nd.preds.length)[i]? = some (some s) := hs
  rw [preL_all, List.getElem?_map] at hs
  cases e : (List.range nd.preds.length)[i]? with
  | none => rw [e] at hs; cases hs
  | some k =>
    rw [e] at hs
    simp only [Option.map_some, Option.some.injEq] at hs
    unfold huntG at hs
    split at hs <;> simp_all
    all_goals (subst hs; simp)
theorem HB.next {nd : NetD} {T : Nat} {fs : List FrS} {s : CkS} {e : EvD} (h : HB T fs) (hd : (stp s e).dn = false) : HB (T + e.tx.size) (takeFs nd (stp s e).dn fs e).1 := by
  rw [hd]
  unfold takeFs
  split
  · intro f hf
    rw [List.mem_append] at hf
    rcases hf with hf | hf
    · exact h.mono (Nat.le_add_right _ _) f hf
    · exact openF_hunt0 nd 1 e.nm e.ats f hf
  · split
    · unfold leaveFs
      refine HB.met ?_ _ _
      intro f hf i t ht
      rw [if_neg (by simp)] at hf
      rw [List.mem_map] at hf
      obtain ⟨g, hg, rfl⟩ := hf
      have ht : (g.hunts.map (Option.map (addHu e.tx)))[i]? = some (some t) := ht
      rw [List.getElem?_map] at ht
      cases hx : g.hunts[i]? with
      | none => rw [hx] at ht; cases ht
      | some x =>
        cases x with
        | none => rw [hx] at ht; cases ht
        | some u =>
          rw [hx] at ht
          simp only [Option.map_some, Option.some.injEq] at ht
          subst ht
          have h1 := h g hg i u hx
          refine ⟨h1.1, ?_⟩
          show (u.l ++ rs e.tx).length ≤ _
          rw [List.length_append]
          have := rs_length e.tx
          omega
    · unfold leaveFs
      refine HB.met ?_ _ _
      rw [if_neg (by simp)]
      exact fun f hf => h.mono (Nat.le_add_right _ _) f ((List.dropLast_sublist fs).subset hf)
/-- open nodes and the depth -/
theorem depth_ok {s : CkS} {e : EvD} (hck : CkOk s) (hn : nxtB s e = true) : ((stp s e).os.length : Int) ≤ e.dep := by
  unfold nxtB at hn
  rw [Bool.and_eq_true] at hn
  obtain ⟨_, hn⟩ := hn
  unfold stp
  by_cases h0 : e.kd = 0
  · rw [if_pos h0] at hn ⊢
    simp only [opnB, Bool.and_eq_true, decide_eq_true_eq] at hn
    have := hn.1.1.1.1.2
    simp only [List.length_append, List.length_singleton]
    omega
  · rw [if_neg h0] at hn ⊢
    by_cases h1 : e.kd = 1
    · rw [if_pos h1] at hn ⊢
      simp only [txtB, Bool.and_eq_true, decide_eq_true_eq] at hn
      have := hn.1.1.1.1.1.1.2
      simp only
      omega
    · rw [if_neg h1] at hn ⊢
      by_cases h2 : e.kd = 2
      · rw [if_pos h2] at hn
        simp only [clsB, Bool.and_eq_true, decide_eq_true_eq] at hn
        have hl := hn.1
        have hd := hn.2.1.1.1.2
        have hx : s.os[s.os.length - 1]? = some (s.os.getD (s.os.length - 1) zo) := by
          rw [List.getD_eq_getElem?_getD, List.getElem?_eq_getElem (by omega)]
          rfl
        have := hck.dep _ _ hx
        simp only [List.length_dropLast]
        omega
      · rw [if_neg h2] at hn
        cases hn
theorem within {F S : Nat} {D : Int} (h : (F : Int) ≤ D + 1) : ((F * S : Nat) : Int) ≤ 8 * (D + 1) * S * S := by
  obtain ⟨d, hd⟩ := Int.eq_ofNat_of_zero_le (show 0 ≤ D + 1 by omega)
  rw [hd] at h ⊢
  have hF : F ≤ d := by omega
  have h1 : F * S ≤ d * S := Nat.mul_le_mul_right _ hF
  have h2 : d * S ≤ d * S * S := by
    cases S with
    | zero => simp
    | succ k => exact Nat.le_mul_of_pos_right _ (Nat.succ_pos _)
  have h3 : d * S * S ≤ 8 * d * S * S := by
    have : d * S * S ≤ 8 * (d * S * S) := Nat.le_mul_of_pos_left _ (by decide)
    rwa [← Nat.mul_assoc, ← Nat.mul_assoc] at this
  have : F * S ≤ 8 * d * S * S := by omega
  exact_mod_cast this
end Go.Proofs.YtkhejkfjhddobaaGreatDoor

end

section
namespace Go.Proofs.YtkhejkfjhddobaaGreatDoor
open Go.RowKit Gim
theorem stp_len (s : CkS) (e : EvD) : (stp s e).os.length ≤ s.os.length + 1 ∧ (stp s e).num ≤ s.num + 1 := by
  unfold stp
  split
  · simp
  · split
    · simp
    · simp only [List.length_dropLast]
      omega
theorem begS_len : ∀ (l : List EvD) (s t : CkS), begS s l = some t → t.os.length ≤ s.os.length + l.length ∧ t.num ≤ s.num + l.length
  | [], s, t, h => by
    injection h with h
    subst h
    simp
  | e :: l, s, t, h => by
    have h : (if nxtB s e then begS (stp s e) l else none) = some t := h
    split at h
    · have h1 := begS_len l _ t h
      have h2 := stp_len s e
      rw [List.length_cons]
      omega
    · cases h
structure EntR (n0 : Nat) (w0 wr : World) (H : Nat) (nd : NetD) (es : List EvD) (i : Nat) (s : CkS) (fs : List FrS) : Prop where
  beg : begS ck0 (es.take i) = some s
  ho : ∃ tg ex, HoX n0 wr tg H nd fs s ex
  len : fs.length = s.os.length + 1
  hb : s.dn = false → HB (i * 1099511627776) fs
  low : Below n0 w0 wr
theorem EntR.take {n0 : Nat} {w0 wr : World} {H : Nat} {nd : NetD} {es : List EvD} {i : Nat} {s s' : CkS} {fs : List FrS} (h : EntR n0 w0 wr H nd es i s fs) (hok : NetOk nd) (hT : Laid w0) (h0 : w0.heap.size = n0) {e : EvD} (he : es[i]? = some e) (hall : begS ck0 es = some s') (hz : EvSz e) (hn : es.length ≤ 4000)
    (aa : Option Addr) (an ac : Nat) (hA : FitAt w0 e.ats aa an ac) (hA6 : 0 < an → ∀ b o, aa = some ⟨b, o, none⟩ → b < n0) :
    Calls Tryz.prog 13 #[.pointer (some ⟨H, 0, none⟩), .agg #[.int .i64 e.kd, .int .i64 e.num, .int .i64 e.dep, .string e.nm, .slice aa an ac, .string e.tx, .int .i64 e.fr, .int .i64 e.tu]] wr fun r w' => r = .returned (.int .i64 0) ∧ EntR n0 w0 w' H nd es (i + 1) (stp s e) (takeFs nd (stp s e).dn fs e).1 := by
  obtain ⟨hbg, ⟨tg, ex, hx⟩, hlen, hhb, hlow⟩ := h
  have hi := (List.getElem?_eq_some_iff.1 he).1
  obtain ⟨t, t1, t2, t3⟩ := begS_next hall he
  rw [hbg] at t1
  injection t1 with t1
  subst t1
  have hck := ckOk_beg _ ckOk_0 hbg
  have hsz := begS_len _ _ _ hbg
  have hsz1 : s.os.length ≤ 0 + (es.take i).length := hsz.1
  have hsz2 : s.num ≤ 0 + ((es.take i).length : Int) := hsz.2
  rw [List.length_take] at hsz1 hsz2
  have hd : s.dn = false := by
    unfold nxtB at t2
    rw [Bool.and_eq_true] at t2
    simpa using t2.1
  have hB := hhb hd
  have hlo := hx.low
  have hlow' : Below w0.heap.size w0 wr := by rw [h0]; exact hlow
  have htx := hz.tx
  have hmul : i * 1099511627776 + e.tx.size ≤ 2 ^ 62 := by
    have hi2 : i ≤ 4000 := by omega
    clear hsz hsz1 hsz2 hlen hi hn
    have : (2 : Nat) ^ 62 = 4611686018427387904 := by decide
    rw [this]
    omega
  refine (take_next wr hx hok (hT.below hlow') e t2 hz hck hlen (by omega) (by omega) aa an ac (hA.below hlow') (fun h0 b o hb => hlo.2 b (hA6 h0 b o hb)) (hB.huns hmul)).mono ?_
  rintro r w' ⟨rfl, tg', g1, g2⟩
  refine ⟨rfl, t3, ⟨tg', _, g1⟩, ?_, fun hd2 => (HB.next hB hd2).mono (by omega), hlow.trans (g2.below hlo.2 hlo.1)⟩
  exact takeFs_len nd s fs e t2 hlen
end Go.Proofs.YtkhejkfjhddobaaGreatDoor

end

