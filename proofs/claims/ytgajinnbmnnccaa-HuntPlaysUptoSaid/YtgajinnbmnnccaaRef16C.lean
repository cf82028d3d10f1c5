/- The document's Hunt in memory; the walks of its New, Add, Close, Truth. -/
import Derived.Test.YtgajinnbmnnccaaRef16B
import Derived.Test.YtgajinnbmnnccaaRefRunes
import Derived.Maps.AppendAt
import Derived.Laws.AppendOwnNone
import Derived.Deep.RegionLaw
namespace Go.Proofs.Ytgajinnbmnnccaa
open Go.RowKit Gim
/-- 'append(came, more...)' of numbers, and where the new slice lies -/
theorem run_ints (w : World) (B B2 : Nat) (v v2 : Value) (ys xs : List Int) (hrow : Row w B 3 .i64 v ys) (hrow2 : Row w B2 3 .i64 v2 xs) (hlen : ys.length + xs.length ≤ 17592186044416) (hB : B ≤ w.heap.size) (ty : TypeId) :
    ∃ v' w', (Builtin.append_ #[38, 38] ty #[v, v2]).run Try.prog w = .ok v' w' ∧ Row w' B 3 .i64 v' (ys ++ xs) ∧ w.grownBy w' v.ownBlock ∧ (∀ g, v'.ownBlock = some g → v.ownBlock = some g ∨ w.heap.size ≤ g) := by
  obtain ⟨i0, hi, hz0, hz1, hz2⟩ := info_parts info_int64
  rcases hrow2.2 with ⟨rfl, h0⟩ | ⟨g, cap, cur, rfl, _⟩
  · have hx : xs = [] := List.eq_nil_of_length_eq_zero h0
    subst hx
    refine ⟨v, w, run_append_owned_none (P := Try.prog) (w := w) B 38 ty 3 i0 1 Try.underlying38 hi v ys.length (ys.map (Value.int .i64)) hrow, by rw [List.append_nil]; exact hrow, ⟨rfl, rfl, rfl, Nat.le_refl _, fun _ _ _ => rfl⟩, fun g hg => .inl hg⟩
  · obtain ⟨v', w', hr, h2, h3, h4, h5⟩ := run_append_own_at (P := Try.prog) w B 38 ty 3 i0 (.int .i64 0) 1 8 Try.underlying38 hi hz0 hz1 hz2 rfl (by decide) v ys.length (ys.map (Value.int .i64)) hrow ⟨g, 0, none⟩ xs.length cap (xs.map (Value.int .i64)) (by simp)
      (fun j u hu => World.ownsRow.cells (g := g) hrow2 rfl j u hu) (fun u hu => by
        obtain ⟨z, _, rfl⟩ := List.mem_map.1 hu
        rfl) (by unfold maxLen; omega) (by omega) hB
    refine ⟨v', w', hr, ?_, h3, fun g2 hg2 => ?_⟩
    · unfold Row
      rw [List.length_append, List.map_append]
      exact h2
    · rcases h5 with h | h
      · exact .inl (h ▸ hg2)
      · rw [h] at hg2
        simp only [Option.some.injEq] at hg2
        exact .inr (by omega)
theorem step_ints (w : World) {ops : Array Oper} {o : Oper} {a : Act} {K : Act → World → Prop} {Q : Exit → Act → World → Prop} {E : Prop} (hgd : o.guard = none) (s x : Operand)
    (ho : o.op = .call { callee := .builtin .append, args := #[s, x], argTypes := #[38, 38] }) (B B2 : Nat) (v v2 : Value) (ys xs : List Int) (hs : a.eval s = v) (hrow : Row w B 3 .i64 v ys) (hx : a.eval x = v2) (hrow2 : Row w B2 3 .i64 v2 xs)
    (hlen : ys.length + xs.length ≤ 17592186044416) (hB : B ≤ w.heap.size)
    (hK : ∀ v' w', Row w' B 3 .i64 v' (ys ++ xs) → w.grownBy w' v.ownBlock → (∀ g, v'.ownBlock = some g → v.ownBlock = some g ∨ w.heap.size ≤ g) → K (a.put o.dst v') w') :
    if Region.wanted o (yielded ops a.tmps) = true then Oper.wp Try.prog o a w K Q else E := by
  have hw : Region.wanted o (yielded ops a.tmps) = true := by simp [Region.wanted, hgd]
  rw [if_pos hw]
  obtain ⟨v', w', hr, h2, h3, h4⟩ := run_ints w B B2 v v2 ys xs hrow hrow2 hlen hB o.type
  unfold Oper.wp execOp
  simp only [ho, resolve, invoke, builtin, Sem.run_bind, Sem.run_pure, Result.andThen_ok, List.map_toArray, List.map_cons, List.map_nil, hs, hx, hr]
  exact hK v' w' h2 h3 h4
/-- the document's Hunt in block M -/
structure Mm (w : World) (B M : Nat) (c : Int) (N : Nat) (T : List Int) (tv cv : Value) (l : List Int) (whole : Bool) : Prop where
  hM : w.heap[M]? = some (.cells #[.int .i64 c, .int .i64 N, tv, cv, .bool whole] 69)
  ra : Row w B 3 .i64 tv T
  rc : Row w B 3 .i64 cv l
  ne : ∀ g, tv.ownBlock = some g → cv.ownBlock ≠ some g
  le : B ≤ w.heap.size
theorem Mm.frv {p : Nat → Prop} {w w' : World} {B M : Nat} {c : Int} {N : Nat} {T : List Int} {tv cv : Value} {l : List Int} {whole : Bool} (h : Mm w B M c N T tv cv l whole) (hf : Fr p w w') (hM : ¬ p M)
    (ht : ∀ g, tv.ownBlock = some g → ¬ p g) (hc : ∀ g, cv.ownBlock = some g → ¬ p g) : Mm w' B M c N T tv cv l whole :=
  ⟨(hf.block M (Array.getElem?_eq_some_iff.1 h.hM).1 hM).trans h.hM, rowfrv h.ra hf ht, rowfrv h.rc hf hc, h.ne, Nat.le_trans h.le hf.size⟩
theorem Mm.drewN {w : World} {B M : Nat} {c : Int} {N : Nat} {T : List Int} {tv cv : Value} {l : List Int} {whole : Bool} (h : Mm w B M c N T tv cv l whole) (n : Nat) : Mm (w.drewN n) B M c N T tv cv l whole := ⟨h.hM, h.ra, h.rc, h.ne, h.le⟩
set_option maxHeartbeats 1000000 in
theorem Mm.truth {w : World} {B M : Nat} {c : Int} {N : Nat} {s : ByteArray} {tv cv : Value} {l : List Int} {whole : Bool} (h : Mm w B M c N (rs s) tv cv l whole) (h0 : 0 ≤ c) (h8 : c ≤ 8) (hs : s.size ≤ 1099511627776) (hl : l.length ≤ 1099511627776) :
    Calls Try.prog 19 #[.pointer (some ⟨M, 0, none⟩)] w fun e w' => e = .returned (.int .i64 (tB c N (askedT c s) l whole)) ∧ ∃ m, w' = w.drewN m := by
  obtain ⟨ta, tc, rfl, rt⟩ := h.ra.rd
  obtain ⟨ca, cc, rfl, rl⟩ := h.rc.rd
  have hrl := rs_length s
  have k0 : w.cell? ⟨M, 0, none⟩ = some (.int .i64 c) := by simp [World.cell?, h.hM]
  have k1 : w.cell? ⟨M, 1, none⟩ = some (.int .i64 N) := by simp [World.cell?, h.hM]
  have k2 : w.cell? ⟨M, 2, none⟩ = some (.slice ta (rs s).length tc) := by simp [World.cell?, h.hM]
  have k3 : w.cell? ⟨M, 3, none⟩ = some (.slice ca l.length cc) := by simp [World.cell?, h.hM]
  have k4 : w.cell? ⟨M, 4, none⟩ = some (.bool whole) := by simp [World.cell?, h.hM]
  have hW : Hid (∀ n, Calls Try.prog 36 #[.slice ca l.length cc, .slice ta (rs s).length tc, .int .i64 c, .int .i64 N] (w.drewN n) fun e w' => e = .returned (.bool (wantB c N (rs s) l)) ∧ Drew (w.drewN n) w') := fun n =>
    whole_calls c h0 h8 ca _ cc l ta _ tc (rs s) N (w.drewN n) (rl.drewN n) (rt.drewN n) hl (by omega)
  have hO : Hid (∀ n, Calls Try.prog 37 #[.slice ca l.length cc, .slice ta (rs s).length tc, .int .i64 c, .int .i64 N] (w.drewN n) fun e w' => e = .returned (.int .i64 (openR c N (rs s) l)) ∧ Drew (w.drewN n) w') := fun n =>
    open_calls c h0 h8 ca _ cc l ta _ tc (rs s) N (w.drewN n) (rl.drewN n) (rt.drewN n) hl (by omega)
  clear rt rl h
  cases whole
  · rw [openR_tB h0 h8] at hO
    obtain ⟨t, ht⟩ : ∃ t, Hid (t = tB c N (askedT c s) l false) := ⟨_, rfl⟩
    rw [← ht.out] at hO ⊢
    obtain ⟨n1, hn1⟩ : ∃ n, Hid (n = (rs s).length) := ⟨_, rfl⟩
    obtain ⟨n2, hn2⟩ : ∃ n, Hid (n = l.length) := ⟨_, rfl⟩
    rw [← hn1.out] at k2 hO
    rw [← hn2.out] at k3 hO
    clear hW hrl
    go_enter Try.func19, Try.ntmps19
    go_wp2_with fail
    go_quiet ((with_reducible exact Calls.quiet_of (hO.out _)))
    go_wp2
    go_ret
    exact ⟨rfl, _, rfl⟩
  · rw [whole_want h0 h8]
    obtain ⟨b, hb⟩ : ∃ b, Hid (b = wantB c N (rs s) l) := ⟨_, rfl⟩
    rw [← hb.out] at hW ⊢
    obtain ⟨n1, hn1⟩ : ∃ n, Hid (n = (rs s).length) := ⟨_, rfl⟩
    obtain ⟨n2, hn2⟩ : ∃ n, Hid (n = l.length) := ⟨_, rfl⟩
    rw [← hn1.out] at k2 hW
    rw [← hn2.out] at k3 hW
    have hT : Hid (∀ w, Calls Try.prog 35 #[.bool b] w fun e w' => e = .returned (.int .i64 (if b then 2 else 0)) ∧ w' = w) := fun w => tri_truth b w
    obtain ⟨t, ht⟩ : ∃ t : Int, Hid (t = if b then 2 else 0) := ⟨_, rfl⟩
    rw [← ht.out] at hT ⊢
    clear hO hrl
    go_enter Try.func19, Try.ntmps19
    go_wp2_with fail
    go_quiet ((first | with_reducible exact Calls.quiet_of (hW.out _) | with_reducible exact Calls.quiet_of_same (hT.out _)))
    go_wp2
    go_ret
    exact ⟨rfl, _, rfl⟩
end Go.Proofs.Ytgajinnbmnnccaa
