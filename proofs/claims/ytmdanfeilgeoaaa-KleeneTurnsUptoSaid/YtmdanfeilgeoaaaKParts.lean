/- Slices of formulas that the call owns: sorted, compacted, looked through, grown by the parts of another formula. -/
import Derived.Test.YtmdanfeilgeoaaaKCompact2
namespace Gim
open Go Go.RowKit Go.Sort Go.Proofs Go.Lib
/-- a formula's parts, one by one -/
theorem FitR.elems {lo hi : Nat} {W : World} {gs : List Fm} {a : Option Addr} {n cap : Nat} (h : FitR lo hi W gs a n cap) (hn : 0 < n) :
    ∃ (b o : Nat) (cs : List N4), a = some ⟨b, o, none⟩ ∧ b < W.heap.size ∧ cs.length = n ∧ (∀ i c, cs[i]? = some c → W.cell? ⟨b, o + i * 4, none⟩ = some (.int .i64 c.1) ∧ W.cell? ⟨b, o + i * 4 + 1, none⟩ = some (.int .i64 c.2.1) ∧ W.cell? ⟨b, o + i * 4 + 2, none⟩ = some (.int .i64 c.2.2.1) ∧ W.cell? ⟨b, o + i * 4 + 3, none⟩ = some (.slice c.2.2.2.1 c.2.2.2.2.1 c.2.2.2.2.2)) ∧
      ∀ (i : Nat) (c : N4) (f : Fm), cs[i]? = some c → gs[i]? = some f → ∃ bs, f = Fm.mk c.1 c.2.1 c.2.2.1 bs ∧ FitR lo hi W bs c.2.2.2.1 c.2.2.2.2.1 c.2.2.2.2.2 := by
  obtain ⟨b, o, e, _⟩ := h.here.fit 0 hn
  have hbl : lo ≤ b ∧ b < hi := by
    refine Classical.byContradiction fun hc => ?_
    let W2 : World := { W with heap := W.heap.modify b (fun _ => .cells #[] 0 (0, 0)) }
    have hk : Keeps lo hi W W2 := ⟨by simp [W2], fun j h1 h2 => by
      show (W.heap.modify b _)[j]? = _
      rw [Array.getElem?_modify, if_neg (fun e => hc (by omega))]⟩
    obtain ⟨b', o', op, _, _, _, _, _, _, e', hb', _, k0, _⟩ := (h.fit W2 hk).elem 0 hn
    rw [e] at e'
    have hbb : b = b' := by
      have := congrArg Addr.block (Option.some.inj e')
      exact this
    subst hbb
    have hb'' : b < W.heap.size := by simpa [W2] using hb'
    simp [World.cell?, W2, Array.getElem?_modify, Array.getElem?_eq_getElem hb''] at k0
  have each : ∀ i : Fin n, ∃ c : N4, (W.cell? ⟨b, o + i * 4, none⟩ = some (.int .i64 c.1) ∧ W.cell? ⟨b, o + i * 4 + 1, none⟩ = some (.int .i64 c.2.1) ∧ W.cell? ⟨b, o + i * 4 + 2, none⟩ = some (.int .i64 c.2.2.1) ∧ W.cell? ⟨b, o + i * 4 + 3, none⟩ = some (.slice c.2.2.2.1 c.2.2.2.2.1 c.2.2.2.2.2)) ∧
      ∀ f : Fm, gs[i.1]? = some f → ∃ bs, f = Fm.mk c.1 c.2.1 c.2.2.1 bs ∧ FitR lo hi W bs c.2.2.2.1 c.2.2.2.2.1 c.2.2.2.2.2 := by
    intro ⟨i, hi1⟩
    obtain ⟨b', o', op, v, x, bs, a2, n2, cap2, e', hb', hel, k0, k1, k2, k3, hF⟩ := h.here.elem i hi1
    rw [e] at e'
    cases e'
    refine ⟨(op, v, x, (a2, n2, cap2)), ⟨k0, k1, k2, k3⟩, fun f hf => ⟨bs, (Option.some.inj (hel.symm.trans hf)).symm, h.top, fun W2 hk => ?_⟩⟩
    obtain ⟨b', o', op', v', x', bs', a2', n2', cap2', e', _, hel', _, _, _, k3', hF'⟩ := (h.fit W2 hk).elem i hi1
    rw [e] at e'
    cases e'
    have hc := hk.2 b hbl.1 hbl.2
    have h3 : W2.cell? ⟨b, o + i * 4 + 3, none⟩ = W.cell? ⟨b, o + i * 4 + 3, none⟩ := by simp [World.cell?, hc]
    rw [h3, k3] at k3'
    cases k3'
    rw [hel] at hel'
    cases hel'
    exact hF'
  obtain ⟨c, hc⟩ := Classical.axiomOfChoice each
  have hb : b < W.heap.size := Nat.lt_of_lt_of_le hbl.2 h.top
  refine ⟨b, o, List.ofFn c, e, hb, List.length_ofFn, fun i d hd => ?_, fun i d f hd hf => ?_⟩
  · rw [List.getElem?_ofFn] at hd
    split at hd
    · rename_i hlt
      cases hd
      exact (hc ⟨i, hlt⟩).1
    · cases hd
  · rw [List.getElem?_ofFn] at hd
    split at hd
    · rename_i hlt
      cases hd
      exact (hc ⟨i, hlt⟩).2 f hf
    · cases hd
theorem TwL.app {N : Nat} {W : World} {g : Option Nat} {cs cs2 : List N4} {fs fs2 : List Fm} (h : TwL N W g cs fs) (k : TwL N W g cs2 fs2) : TwL N W g (cs ++ cs2) (fs ++ fs2) :=
  ⟨by simp [h.len, k.len], fun i c f h1 h2 => by
    have hl := h.len
    by_cases hi : i < cs.length
    · rw [List.getElem?_append_left hi] at h1
      rw [List.getElem?_append_left (by omega)] at h2
      exact h.each i c f h1 h2
    · rw [List.getElem?_append_right (by omega)] at h1
      rw [List.getElem?_append_right (by omega), ← hl] at h2
      exact k.each _ c f h1 h2⟩
end Gim
namespace Go.Proofs.Ytmdanfeilgeoaaa
open Go.RowKit Gim Go.Sort Go.Lib
theorem compact_none (fv : Value) (w : World) : Calls Try.prog 48 #[.slice none 0 0, fv] w fun e w' => e = .returned (.slice none 0 0) ∧ w' = w := by
  go_enter Try.func48, Try.ntmps48
  go_wp2_with fail
  go_ret
  exact ⟨rfl, rfl⟩
theorem row4_cases {w : World} {N : Nat} {v : Value} {cs : List N4} (h : Row4 w N v cs) : (v = .slice none 0 0 ∧ cs = []) ∨ ∃ g cap, v = .slice (some ⟨g, 0, none⟩) cs.length cap ∧ N ≤ g ∧ Rw 26 w g cap cs := by
  rcases h.2 with ⟨h1, h2⟩ | ⟨g, cap, cur, h1, _⟩
  · exact .inl ⟨h1, List.eq_nil_of_length_eq_zero h2⟩
  · subst h1
    obtain ⟨_, h2, h3⟩ := rw_of_row4 h
    exact .inr ⟨g, cap, rfl, h2, h3⟩
theorem sortV_calls (N : Nat) (v : Value) (cs : List N4) (fs : List Fm) (w : World) (hr : Row4 w N v cs) (ht : TwL N w v.ownBlock cs fs) (hs : cs.length < 4611686018427387904) :
    Calls Try.prog 47 #[v, .func (.func 46) #[] #[]] w fun e w' =>
      ∃ cs' fs', e = .returned (.tuple #[]) ∧ w.grownBy w' v.ownBlock ∧ Row4 w' N v cs' ∧ TwL N w' v.ownBlock cs' fs' ∧ cs'.length = cs.length ∧ (∀ f, f ∈ fs' ↔ f ∈ fs) ∧ fs'.Pairwise fun x y => ordF x y ≤ 0 := by
  rcases row4_cases hr with ⟨rfl, rfl⟩ | ⟨g, cap, rfl, hN, hR⟩
  · have hl : fs.length = 0 := by rw [← ht.len]; rfl
    obtain rfl : fs = [] := List.eq_nil_of_length_eq_zero hl
    refine (sort_none _ w).mono ?_
    rintro e w' ⟨rfl, rfl⟩
    exact ⟨[], [], rfl, ⟨rfl, rfl, rfl, Nat.le_refl _, fun _ _ _ => rfl⟩, hr, ht, rfl, fun _ => Iff.rfl, List.Pairwise.nil⟩
  · refine (sortE_calls N g cap cs fs w hR ht hs).mono ?_
    rintro e w' ⟨cs', fs', rfl, hl, hb, hR', ht', hp, hpw⟩
    refine ⟨cs', fs', rfl, hb, ?_, ht', hl, fun f => hp.mem_iff, hpw⟩
    rw [← hl]
    exact row4_of_rw hN hR'
theorem compactV_calls (N : Nat) (v : Value) (cs : List N4) (fs : List Fm) (w : World) (hr : Row4 w N v cs) (ht : TwL N w v.ownBlock cs fs) (hs : fs.Pairwise fun x y => ordF x y ≤ 0) :
    Calls Try.prog 48 #[v, .func (.func 49) #[] #[]] w fun e w' =>
      ∃ v' cs' fs', e = .returned v' ∧ v'.ownBlock = v.ownBlock ∧ w.grownBy w' v.ownBlock ∧ Row4 w' N v' cs' ∧ TwL N w' v.ownBlock cs' fs' ∧ Up fs' ∧ ∀ f, f ∈ fs' ↔ f ∈ fs := by
  rcases row4_cases hr with ⟨rfl, rfl⟩ | ⟨g, cap, rfl, hN, hR⟩
  · have hl : fs.length = 0 := by rw [← ht.len]; rfl
    obtain rfl : fs = [] := List.eq_nil_of_length_eq_zero hl
    refine (compact_none _ w).mono ?_
    rintro e w' ⟨rfl, rfl⟩
    exact ⟨_, [], [], rfl, rfl, ⟨rfl, rfl, rfl, Nat.le_refl _, fun _ _ _ => rfl⟩, hr, ht, by simp [Up], fun _ => Iff.rfl⟩
  · refine (compactE_calls N g cap cs fs w hR ht hs).mono ?_
    rintro e w' ⟨cs', fs', rfl, hb, hR', ht', hu, hm⟩
    exact ⟨_, cs', fs', rfl, rfl, hb, row4_of_rw hN hR', ht', hu, hm⟩
theorem containsV_calls (N B : Nat) (t : Int) (v : Value) (cs : List N4) (fs : List Fm) (w : World) (hr : Row4 w N v cs) (ht : TwL N w v.ownBlock cs fs) (hB : w.heap[B]? = some (.cells #[.int .i64 0, .int .i64 t, .int .i64 0, .slice none 0 0] 26)) :
    Calls Try.prog 50 #[v, .func (.func 51) #[] #[.pointer (some ⟨B, 0, none⟩)]] w fun e w' => e = .returned (.bool (fs.any fun p => decide (ordF p (cst t) = 0))) ∧ Below w.heap.size w w' := by
  rcases row4_cases hr with ⟨rfl, rfl⟩ | ⟨g, cap, rfl, hN, hR⟩
  · have hl : fs.length = 0 := by rw [← ht.len]; rfl
    obtain rfl : fs = [] := List.eq_nil_of_length_eq_zero hl
    refine (contains_none _ w).mono ?_
    rintro e w' ⟨rfl, rfl⟩
    exact ⟨rfl, Below.refl _ _⟩
  · exact containsE_calls N g cap B t cs fs w hR ht hB
/-- 'append(args, a.Args...)' -/
theorem append4s (w : World) {ops : Array Oper} {rest : List Oper} {o : Oper} {a : Act} {Q : Exit → Act → World → Prop} (hg : o.guard = none) (s x : Operand)
    (ho : o.op = .call { callee := .builtin .append, args := #[s, x], argTypes := #[24, 24] }) (B : Nat)
    (v : Value) (cs : List N4) (hs : a.eval s = v) (hrow : Row4 w B v cs) (b o2 n c : Nat) (cs2 : List N4) (hx : a.eval x = .slice (some ⟨b, o2, none⟩) n c) (hn : cs2.length = n)
    (hcell : ∀ i c, cs2[i]? = some c → w.cell? ⟨b, o2 + i * 4, none⟩ = some (.int .i64 c.1) ∧ w.cell? ⟨b, o2 + i * 4 + 1, none⟩ = some (.int .i64 c.2.1) ∧ w.cell? ⟨b, o2 + i * 4 + 2, none⟩ = some (.int .i64 c.2.2.1) ∧ w.cell? ⟨b, o2 + i * 4 + 3, none⟩ = some (.slice c.2.2.2.1 c.2.2.2.2.1 c.2.2.2.2.2))
    (hlen : cs.length + n < 1099511627776) (hB : B ≤ w.heap.size)
    (hK : ∀ v' w', Row4 w' B v' (cs ++ cs2) → w.grownBy w' v.ownBlock → (v'.ownBlock = v.ownBlock ∨ ∃ j, v'.ownBlock = some j ∧ w.heap.size ≤ j) → wpList Try.prog ops Q rest (a.put o.dst v') w') :
    wpList Try.prog ops Q (o :: rest) a w := by
  obtain ⟨i0, hi, hz0, hz1, hz2⟩ := info_parts info_form
  refine wpList_append_own_at _ hg s x 24 ho B 26 i0 _ 4 48 Try.underlying24 hi hz0 hz1 hz2 rfl (by decide) v cs.length (cells4 cs) hs hrow ⟨b, o2, none⟩ n c (cells4 cs2) hx (by rw [cells4_length, hn])
      (fun j u hj => ?_) (cells4_one cs2) (by unfold maxLen; omega) (by omega) hB ?_
  · have hjl := (List.getElem?_eq_some_iff.1 hj).1
    rw [cells4_length] at hjl
    have hi : j / 4 < cs2.length := by omega
    have hc := List.getElem?_eq_getElem hi
    have k2 := cells4_get hc (j % 4) (by omega)
    rw [show j / 4 * 4 + j % 4 = j by omega, hj] at k2
    obtain ⟨c0, c1, c2, c3⟩ := hcell (j / 4) _ hc
    rw [Addr.add_lit]
    match hm : j % 4, (show j % 4 < 4 by omega) with
    | 0, _ =>
      rw [hm] at k2
      rw [show o2 + j = o2 + j / 4 * 4 by omega, c0]
      exact k2.symm
    | 1, _ =>
      rw [hm] at k2
      rw [show o2 + j = o2 + j / 4 * 4 + 1 by omega, c1]
      exact k2.symm
    | 2, _ =>
      rw [hm] at k2
      rw [show o2 + j = o2 + j / 4 * 4 + 2 by omega, c2]
      exact k2.symm
    | 3, _ =>
      rw [hm] at k2
      rw [show o2 + j = o2 + j / 4 * 4 + 3 by omega, c3]
      exact k2.symm
  · intro v' w' h1 h2 _ h5
    refine hK v' w' ?_ h2 ?_
    · unfold Row4
      rw [List.length_append, cells4_app, hn]
      exact h1
    · rcases h5 with h5 | h5
      · exact .inl h5
      · exact .inr ⟨_, h5, Nat.le_refl _⟩
end Go.Proofs.Ytmdanfeilgeoaaa
