/- Slices of numbers that were handed in. -/
import Derived.Test.YtkhejkfjhddobaaGreatDoorUtfM
import Derived.Laws.AppendOwnNone
section
namespace Gim
open Go Go.RowKit
/-- a slice of numbers that was handed in is there to be read -/
theorem rd_of_cells {w : World} {k : IntKind} {a : Addr} {len cap : Nat} {zs : List Int} (hl : len ≤ cap) (hm : cap ≤ maxLen) (hz : len ≤ zs.length)
    (hc : ∀ i, i < zs.length → w.cell? (a.add i) = some (.int k (zs.getD i 0))) : Rd w k (some a) len cap (zs.take len) :=
  ⟨by simp; omega, hl, hm, fun j hj => by
    have h0 := hc 0 (by omega)
    have hs : a.spot = none ∧ a.block < w.heap.size := by
      have h1 : w.cell? a = some (.int k (zs.getD 0 0)) := by simpa [Addr.add] using h0
      unfold World.cell? at h1
      split at h1
      · rename_i c hh
        refine ⟨?_, (Array.getElem?_eq_some_iff.1 hh).1⟩
        cases hp : a.spot with
        | none => rfl
        | some v => rw [hp] at h1; simp at h1
      · simp at h1
    obtain ⟨b, o, p⟩ := a
    obtain ⟨hp, hb⟩ := hs
    simp only [] at hp hb
    subst hp
    exact ⟨b, o, rfl, hb, fun i hi => by
      have h1 := hc i (by omega)
      rw [Addr.add_lit] at h1
      rw [h1]
      simp [gt, hi]⟩⟩
theorem wf_u8 {x : Int} (h : (Lit.int .u8 x).wf = true) : 0 ≤ x ∧ x ≤ 255 := by
  simp [Lit.wf, IntKind.min, IntKind.max, IntKind.signed, IntKind.bits] at h
  exact h
theorem gt_all {P : Int → Prop} {xs : List Int} {n : Nat} (hl : xs.length = n) (h : ∀ x ∈ xs, P x) : ∀ j, j < n → P (gt xs j) := fun j hj => by
  rw [gt_lt (by omega)]
  exact h _ (List.getElem_mem _)
end Gim
namespace Go.Proofs.YtkhejkfjhddobaaGreatDoor
open Go.RowKit Gim
theorem info_u8 : (Tryz.prog.info? 5).map (fun i => (i.zero, i.size, i.bytes)) = some (some (.int .u8 0), 1, 1) := by kernel_rfl
/-- 'append(v, b...)': v a slice of the call's own, b any bytes -/
theorem append_rd (w : World) {ops : Array Oper} {rest : List Oper} {o : Oper} {a : Act} {Q : Exit → Act → World → Prop} (hg : o.guard = none) (s x : Operand)
    (ho : o.op = .call { callee := .builtin .append, args := #[s, x], argTypes := #[175, 175] }) (B : Nat)
    (v : Value) (ys : List Int) (hs : a.eval s = v) (hrow : Row w B 5 .u8 v ys) (ao : Option Addr) (n cap : Nat) (xs : List Int) (hx : a.eval x = .slice ao n cap) (hrd : Rd w .u8 ao n cap xs)
    (hnone : ao = none → n = 0 ∧ cap = 0) (hlen : ys.length + n ≤ 140737488355328) (hB : B ≤ w.heap.size)
    (hK : ∀ v' w', Row w' B 5 .u8 v' (ys ++ xs) → w.grownBy w' v.ownBlock → wpList Tryz.prog ops Q rest (a.put o.dst v') w') :
    wpList Tryz.prog ops Q (o :: rest) a w := by
  obtain ⟨i0, hi, hz0, hz1, hz2⟩ := info_parts info_u8
  have hl := hrd.len
  cases ao with
  | none =>
    obtain ⟨rfl, rfl⟩ := hnone rfl
    obtain rfl : xs = [] := List.eq_nil_of_length_eq_zero hl
    refine wpList_append_own_none hg s x 175 ho B 5 i0 1 Tryz.underlying175 hi v ys.length (ys.map (Value.int .u8)) hs hrow hx (hK _ _ (by rw [List.append_nil]; exact hrow) ?_)
    exact ⟨rfl, rfl, rfl, Nat.le_refl _, fun _ _ _ => rfl⟩
  | some ad =>
    refine wpList_append_own _ hg s x 175 ho B 5 i0 (.int .u8 0) 1 1 Tryz.underlying175 hi hz0 hz1 hz2 rfl (by decide) v ys.length (ys.map (Value.int .u8)) hs hrow ad n cap (xs.map (Value.int .u8)) hx (by simp; omega) ?_ ?_ (by unfold maxLen; omega) (by omega) hB ?_
    · intro j u hu
      obtain ⟨hj, rfl⟩ : j < xs.length ∧ u = .int .u8 (gt xs j) := by
        rw [List.getElem?_map] at hu
        cases hj : xs[j]? with
        | none => rw [hj] at hu; simp at hu
        | some y =>
          rw [hj] at hu
          obtain ⟨h1, h2⟩ := List.getElem?_eq_some_iff.1 hj
          exact ⟨h1, by rw [gt_lt h1, h2]; simpa using hu.symm⟩
      obtain ⟨b, o', h1, h2, h3⟩ := hrd.cell j (by omega)
      simp only [Option.some.injEq] at h1
      subst h1
      rw [Addr.add_lit]
      exact h3 j (by omega)
    · intro u hu
      simp only [List.mem_map] at hu
      obtain ⟨y, _, rfl⟩ := hu
      rfl
    · intro v' w' h1 h2 _
      refine hK v' w' ?_ h2
      unfold Row
      rw [List.map_append, List.length_append, hl]
      exact h1
/-- the same behind a guard that lets it be carried out -/
theorem append_rdG (w : World) {ops : Array Oper} {rest : List Oper} {o : Oper} {a : Act} {Q : Exit → Act → World → Prop} (hg : Region.wanted o (yielded ops a.tmps) = true) (s x : Operand)
    (ho : o.op = .call { callee := .builtin .append, args := #[s, x], argTypes := #[175, 175] }) (B : Nat)
    (v : Value) (ys : List Int) (hs : a.eval s = v) (hrow : Row w B 5 .u8 v ys) (ad : Addr) (n cap : Nat) (xs : List Int) (hx : a.eval x = .slice (some ad) n cap) (hrd : Rd w .u8 (some ad) n cap xs)
    (hlen : ys.length + n ≤ 140737488355328) (hB : B ≤ w.heap.size)
    (hK : ∀ v' w', Row w' B 5 .u8 v' (ys ++ xs) → w.grownBy w' v.ownBlock → wpList Tryz.prog ops Q rest (a.put o.dst v') w') :
    wpList Tryz.prog ops Q (o :: rest) a w := by
  obtain ⟨i0, hi, hz0, hz1, hz2⟩ := info_parts info_u8
  have hl := hrd.len
  refine wpList_step fun K hK' => ?_
  rw [if_pos hg]
  refine wp_append_own w s x 175 ho B 5 i0 (.int .u8 0) 1 1 Tryz.underlying175 hi hz0 hz1 hz2 rfl (by decide) v ys.length (ys.map (Value.int .u8)) hs hrow ad n cap (xs.map (Value.int .u8)) hx (by simp; omega) ?_ ?_ (by unfold maxLen; omega) (by omega) hB ?_
  · intro j u hu
    obtain ⟨hj, rfl⟩ : j < xs.length ∧ u = .int .u8 (gt xs j) := by
      rw [List.getElem?_map] at hu
      cases hj : xs[j]? with
      | none => rw [hj] at hu; simp at hu
      | some y =>
        rw [hj] at hu
        obtain ⟨h1, h2⟩ := List.getElem?_eq_some_iff.1 hj
        exact ⟨h1, by rw [gt_lt h1, h2]; simpa using hu.symm⟩
    obtain ⟨b, o', h1, h2, h3⟩ := hrd.cell j (by omega)
    simp only [Option.some.injEq] at h1
    subst h1
    rw [Addr.add_lit]
    exact h3 j (by omega)
  · intro u hu
    simp only [List.mem_map] at hu
    obtain ⟨y, _, rfl⟩ := hu
    rfl
  · intro v' w' h1 h2 _
    refine hK' _ _ (hK v' w' ?_ h2)
    unfold Row
    rw [List.map_append, List.length_append, hl]
    exact h1
end Go.Proofs.YtkhejkfjhddobaaGreatDoor

end

section
namespace Gim
open Go Go.RowKit
/-- a value of the three, 1 where it is none of them -/
def seenB (t : Int) : Int := if 0 ≤ t ∧ t ≤ 2 then t else 1
theorem seenB_range (t : Int) : 0 ≤ seenB t ∧ seenB t ≤ 2 := by unfold seenB; split <;> omega
def andF (l : List Int) : Int := l.foldl (fun a t => if seenB t < a then seenB t else a) 2
def orF (l : List Int) : Int := l.foldl (fun a t => if a < seenB t then seenB t else a) 0
theorem take_snoc {l : List Int} {k : Nat} (h : k < l.length) : l.take (k + 1) = l.take k ++ [gt l k] := by rw [gt_lt h, List.take_append_getElem h]
theorem andF_next {l : List Int} {k : Nat} (h : k < l.length) : andF (l.take (k + 1)) = if seenB (gt l k) < andF (l.take k) then seenB (gt l k) else andF (l.take k) := by rw [take_snoc h, andF, List.foldl_append]; rfl
theorem orF_next {l : List Int} {k : Nat} (h : k < l.length) : orF (l.take (k + 1)) = if orF (l.take k) < seenB (gt l k) then seenB (gt l k) else orF (l.take k) := by rw [take_snoc h, orF, List.foldl_append]; rfl
theorem wrap64_tiny {x : Int} (h : -10 ≤ x) (h2 : x ≤ 10) : wrap64 x = x := by unfold wrap64; omega
end Gim
namespace Go.Proofs.YtkhejkfjhddobaaGreatDoor
open Go.RowKit Gim
theorem row_empty (w : World) (t : TypeId) (k : IntKind) (B : Nat) (hB : B ≤ w.heap.size) : Row (w.alloc (.cells #[] t)) B t k (.slice (some ⟨w.heap.size, 0, none⟩) 0 0) [] :=
  ⟨by simp, .inr ⟨w.heap.size, 0, #[], rfl, hB, heap_alloc_new w _, by simp, by unfold maxLen; omega, by simp, by simp⟩⟩
theorem info_truth : (Tryz.prog.info? 67).map (fun i => (i.zero, i.size, i.bytes)) = some (some (.int .i64 0), 1, 8) := by kernel_rfl
/-- 'append(v, b...)': v a slice of the call's own, b any bytes -/
theorem append_rt (w : World) {ops : Array Oper} {rest : List Oper} {o : Oper} {a : Act} {Q : Exit → Act → World → Prop} (hg : o.guard = none) (s x : Operand)
    (ho : o.op = .call { callee := .builtin .append, args := #[s, x], argTypes := #[84, 84] }) (B : Nat)
    (v : Value) (ys : List Int) (hs : a.eval s = v) (hrow : Row w B 67 .i64 v ys) (ao : Option Addr) (n cap : Nat) (xs : List Int) (hx : a.eval x = .slice ao n cap) (hrd : Rd w .i64 ao n cap xs)
    (hnone : ao = none → n = 0 ∧ cap = 0) (hlen : ys.length + n ≤ 17592186044416) (hB : B ≤ w.heap.size)
    (hK : ∀ v' w', Row w' B 67 .i64 v' (ys ++ xs) → w.grownBy w' v.ownBlock → wpList Tryz.prog ops Q rest (a.put o.dst v') w') :
    wpList Tryz.prog ops Q (o :: rest) a w := by
  obtain ⟨i0, hi, hz0, hz1, hz2⟩ := info_parts info_truth
  have hl := hrd.len
  cases ao with
  | none =>
    obtain ⟨rfl, rfl⟩ := hnone rfl
    obtain rfl : xs = [] := List.eq_nil_of_length_eq_zero hl
    refine wpList_append_own_none hg s x 84 ho B 67 i0 1 Tryz.underlying84 hi v ys.length (ys.map (Value.int .i64)) hs hrow hx (hK _ _ (by rw [List.append_nil]; exact hrow) ?_)
    exact ⟨rfl, rfl, rfl, Nat.le_refl _, fun _ _ _ => rfl⟩
  | some ad =>
    refine wpList_append_own _ hg s x 84 ho B 67 i0 (.int .i64 0) 1 8 Tryz.underlying84 hi hz0 hz1 hz2 rfl (by decide) v ys.length (ys.map (Value.int .i64)) hs hrow ad n cap (xs.map (Value.int .i64)) hx (by simp; omega) ?_ ?_ (by unfold maxLen; omega) (by omega) hB ?_
    · intro j u hu
      obtain ⟨hj, rfl⟩ : j < xs.length ∧ u = .int .i64 (gt xs j) := by
        rw [List.getElem?_map] at hu
        cases hj : xs[j]? with
        | none => rw [hj] at hu; simp at hu
        | some y =>
          rw [hj] at hu
          obtain ⟨h1, h2⟩ := List.getElem?_eq_some_iff.1 hj
          exact ⟨h1, by rw [gt_lt h1, h2]; simpa using hu.symm⟩
      obtain ⟨b, o', h1, h2, h3⟩ := hrd.cell j (by omega)
      simp only [Option.some.injEq] at h1
      subst h1
      rw [Addr.add_lit]
      exact h3 j (by omega)
    · intro u hu
      simp only [List.mem_map] at hu
      obtain ⟨y, _, rfl⟩ := hu
      rfl
    · intro v' w' h1 h2 _
      refine hK v' w' ?_ h2
      unfold Row
      rw [List.map_append, List.length_append, hl]
      exact h1

theorem kinfo_int : (Tryz.prog.info? 3).map (fun i => (i.zero, i.size, i.bytes)) = some (some (.int .i64 0), 1, 8) := by kernel_rfl
theorem good_calls (t : Int) (w : World) : Calls Tryz.prog 126 #[.int .i64 t] w fun e w' => e = .returned (.bool (decide (0 ≤ t ∧ t ≤ 2))) ∧ w' = w := by
  by_cases h0 : 0 ≤ t
  · by_cases h2 : t ≤ 2
    · have HD := Lib.hid (show decide (0 ≤ t ∧ t ≤ 2) = true by simp [h0, h2])
      go_enter Tryz.func126, Tryz.ntmps126
      go_wp2
      go_ret
      exact ⟨by rw [HD.out]; rfl, rfl⟩
    · have HD := Lib.hid (show decide (0 ≤ t ∧ t ≤ 2) = false by simp; omega)
      go_enter Tryz.func126, Tryz.ntmps126
      go_wp2
      go_ret
      exact ⟨by rw [show decide (t ≤ 2) = false by simp; omega]; rfl, rfl⟩
  · have HD := Lib.hid (show decide (0 ≤ t ∧ t ≤ 2) = false by simp; omega)
    go_enter Tryz.func126, Tryz.ntmps126
    go_wp2
    go_ret
    exact ⟨by rw [show decide (0 ≤ t) = false by simp; omega]; rfl, rfl⟩
theorem seen_calls (t : Int) (w : World) : Calls Tryz.prog 107 #[.int .i64 t] w fun e w' => e = .returned (.int .i64 (seenB t)) ∧ w' = w := by
  have hG := good_calls t w
  by_cases h : 0 ≤ t ∧ t ≤ 2
  · have HS := Lib.hid (show seenB t = t by unfold seenB; rw [if_pos h])
    rw [decide_eq_true h] at hG
    clear h
    go_enter Tryz.func107, Tryz.ntmps107
    go_wp2_with fail
    refine hG.mono ?_
    rintro e w1 ⟨rfl, rfl⟩
    go_wp2_with fail
    go_ret
    exact ⟨by rw [HS.out]; rfl, rfl⟩
  · have HS := Lib.hid (show seenB t = 1 by unfold seenB; rw [if_neg h])
    rw [decide_eq_false h] at hG
    clear h
    go_enter Tryz.func107, Tryz.ntmps107
    go_wp2_with fail
    refine hG.mono ?_
    rintro e w1 ⟨rfl, rfl⟩
    go_wp2_with fail
    go_ret
    exact ⟨by rw [HS.out]; rfl, rfl⟩
theorem knot_calls (t : Int) (w : World) : Calls Tryz.prog 103 #[.int .i64 t] w fun e w' => e = .returned (.int .i64 (2 - seenB t)) ∧ w' = w := by
  have hS := seen_calls t w
  have hr := seenB_range t
  obtain ⟨s, hs⟩ : ∃ s, seenB t = s := ⟨_, rfl⟩
  rw [hs] at hS hr
  have HW := Lib.hid (wrap64_tiny (x := 2 - s) (by omega) (by omega))
  have hw := HW.out
  have HSS := Lib.hid hs
  clear hs
  go_enter Tryz.func103, Tryz.ntmps103
  go_wp2_with fail
  refine hS.mono ?_
  rintro e w1 ⟨rfl, rfl⟩
  go_wp2_with fail
  go_ret
  exact ⟨by rw [HSS.out]; rfl, rfl⟩
theorem and_calls (ao : Option Addr) (n cap : Nat) (xs : List Int) (w : World) (h : Rd w .i64 ao n cap xs) : Calls Tryz.prog 102 #[.slice ao n cap] w fun e w' => e = .returned (.int .i64 (andF xs)) ∧ w' = w := by
  have HL := Lib.hid h.len
  have HR := Lib.hid h
  have hle := h.le
  have hcm := h.cap_le
  have hnb : n ≤ 9223372036854775807 := by unfold maxLen at hcm; omega
  clear h
  go_enter Tryz.func102, Tryz.ntmps102
  go_wp2_with fail
  go_loopw [3, 8] (fun a i wr => ∃ q : Nat, i = .int .i64 q ∧ q ≤ n ∧ Hid (wr = w) ∧ ∃ s : Int, a = .int .i64 s ∧ Hid (s = andF (xs.take q))) (fun _ i _ => n - (RowKit.intOf i).toNat)
  case atStart => exact ⟨0, rfl, Nat.zero_le _, Lib.hid rfl, _, rfl, Lib.hid rfl⟩
  case round =>
    obtain ⟨q, rfl, hq, HW, s, rfl, HSU⟩ := hrel
    obtain rfl := HW.out
    clear HW
    by_cases hqn : q < n
    · have hqn' : (q : Int) < n := by omega
      obtain ⟨b, o, rfl, hb, hc⟩ := HR.out.cell q hqn
      have hcell := hc q hqn
      obtain ⟨t, ht⟩ : ∃ t, gt xs q = t := ⟨_, rfl⟩
      rw [ht] at hcell
      have hN := andF_next (l := xs) (k := q) (by rw [HL.out]; exact hqn)
      rw [ht, ← HSU.out] at hN
      have hS := seen_calls t wr
      obtain ⟨u, hu⟩ : ∃ u, seenB t = u := ⟨_, rfl⟩
      rw [hu] at hS hN
      have HN := Lib.hid hN
      clear hN hu ht hc HSU
      go_wp2_with fail
      refine hS.mono ?_
      rintro e w1 ⟨rfl, rfl⟩
      go_wp2_with fail
      go_roundw
      case rel => exact ⟨q + 1, by go_num, by omega, Lib.hid trivial, _, rfl, Lib.hid HN.out.symm⟩
      case measure => simp [RowKit.intOf]; omega
    · obtain rfl : q = n := by omega
      have HE := Lib.hid (show s = andF xs by rw [HSU.out, List.take_of_length_le (by rw [HL.out]; exact Nat.le_refl _)])
      clear HSU
      go_wp2_with fail
      go_ret
      exact ⟨by rw [← HE.out]; rfl, rfl⟩
theorem or_calls (ao : Option Addr) (n cap : Nat) (xs : List Int) (w : World) (h : Rd w .i64 ao n cap xs) : Calls Tryz.prog 68 #[.slice ao n cap] w fun e w' => e = .returned (.int .i64 (orF xs)) ∧ w' = w := by
  have HL := Lib.hid h.len
  have HR := Lib.hid h
  have hle := h.le
  have hcm := h.cap_le
  have hnb : n ≤ 9223372036854775807 := by unfold maxLen at hcm; omega
  clear h
  go_enter Tryz.func68, Tryz.ntmps68
  go_wp2_with fail
  go_loopw [3, 8] (fun a i wr => ∃ q : Nat, i = .int .i64 q ∧ q ≤ n ∧ Hid (wr = w) ∧ ∃ s : Int, a = .int .i64 s ∧ Hid (s = orF (xs.take q))) (fun _ i _ => n - (RowKit.intOf i).toNat)
  case atStart => exact ⟨0, rfl, Nat.zero_le _, Lib.hid rfl, _, rfl, Lib.hid rfl⟩
  case round =>
    obtain ⟨q, rfl, hq, HW, s, rfl, HSU⟩ := hrel
    obtain rfl := HW.out
    clear HW
    by_cases hqn : q < n
    · have hqn' : (q : Int) < n := by omega
      obtain ⟨b, o, rfl, hb, hc⟩ := HR.out.cell q hqn
      have hcell := hc q hqn
      obtain ⟨t, ht⟩ : ∃ t, gt xs q = t := ⟨_, rfl⟩
      rw [ht] at hcell
      have hN := orF_next (l := xs) (k := q) (by rw [HL.out]; exact hqn)
      rw [ht, ← HSU.out] at hN
      have hS := seen_calls t wr
      obtain ⟨u, hu⟩ : ∃ u, seenB t = u := ⟨_, rfl⟩
      rw [hu] at hS hN
      have HN := Lib.hid hN
      clear hN hu ht hc HSU
      go_wp2_with fail
      refine hS.mono ?_
      rintro e w1 ⟨rfl, rfl⟩
      go_wp2_with fail
      go_roundw
      case rel => exact ⟨q + 1, by go_num, by omega, Lib.hid trivial, _, rfl, Lib.hid HN.out.symm⟩
      case measure => simp [RowKit.intOf]; omega
    · obtain rfl : q = n := by omega
      have HE := Lib.hid (show s = orF xs by rw [HSU.out, List.take_of_length_le (by rw [HL.out]; exact Nat.le_refl _)])
      clear HSU
      go_wp2_with fail
      go_ret
      exact ⟨by rw [← HE.out]; rfl, rfl⟩
end Go.Proofs.YtkhejkfjhddobaaGreatDoor

end

