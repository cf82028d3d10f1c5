/- Lists of truths: kleene.And, Or, Not, and the document's. -/
import Derived.Test.YtmdanfeilgeoaaaBase
import Derived.Test.YtmdanfeilgeoaaaHanded
namespace Gim
open Go Go.RowKit
/-- a value of the three, 1 where it is none of them -/
def seenB (t : Int) : Int := if 0 ≤ t ∧ t ≤ 2 then t else 1
theorem seenB_range (t : Int) : 0 ≤ seenB t ∧ seenB t ≤ 2 := by unfold seenB; split <;> omega
def andF (l : List Int) : Int := l.foldl (fun a t => if seenB t < a then seenB t else a) 2
def orF (l : List Int) : Int := l.foldl (fun a t => if a < seenB t then seenB t else a) 0
theorem take_snoc {l : List Int} {k : Nat} (h : k < l.length) : l.take (k + 1) = l.take k ++ [gt l k] := by rw [gt_lt h, List.take_append_getElem h]
theorem andF_next {l : List Int} {k : Nat} (h : k < l.length) : andF (l.take (k + 1)) = if seenB (gt l k) < andF (l.take k) then seenB (gt l k) else andF (l.take k) := by rw [take_snoc h, andF, List.foldl_append]; rfl
theorem orF_next {l : List Int} {k : Nat} (h : k < l.length) : orF (l.take (k + 1)) = if orF (l.take k) < seenB (gt l k) then seenB (gt l k) else orF (l.take k) := by rw [take_snoc h, orF, List.foldl_append]; rfl
theorem wrap64_tiny {x : Int} (h : -10 ≤ x) (h2 : x ≤ 10) : wrap64 x = x := by unfold wrap64; omega
end Gim
namespace Go.Proofs.Ytmdanfeilgeoaaa
open Go.RowKit Gim
theorem row_empty (w : World) (t : TypeId) (k : IntKind) (B : Nat) (hB : B ≤ w.heap.size) : Row (w.alloc (.cells #[] t)) B t k (.slice (some ⟨w.heap.size, 0, none⟩) 0 0) [] :=
  ⟨by simp, .inr ⟨w.heap.size, 0, #[], rfl, hB, heap_alloc_new w _, by simp, by unfold maxLen; omega, by simp, by simp⟩⟩
theorem info_truth : (Try.prog.info? 23).map (fun i => (i.zero, i.size, i.bytes)) = some (some (.int .i64 0), 1, 8) := by kernel_rfl
/-- 'append(v, b...)': v a slice of the call's own, b any bytes -/
theorem append_rt (w : World) {ops : Array Oper} {rest : List Oper} {o : Oper} {a : Act} {Q : Exit → Act → World → Prop} (hg : o.guard = none) (s x : Operand)
    (ho : o.op = .call { callee := .builtin .append, args := #[s, x], argTypes := #[27, 27] }) (B : Nat)
    (v : Value) (ys : List Int) (hs : a.eval s = v) (hrow : Row w B 23 .i64 v ys) (ao : Option Addr) (n cap : Nat) (xs : List Int) (hx : a.eval x = .slice ao n cap) (hrd : Rd w .i64 ao n cap xs)
    (hnone : ao = none → n = 0 ∧ cap = 0) (hlen : ys.length + n ≤ 17592186044416) (hB : B ≤ w.heap.size)
    (hK : ∀ v' w', Row w' B 23 .i64 v' (ys ++ xs) → w.grownBy w' v.ownBlock → wpList Try.prog ops Q rest (a.put o.dst v') w') :
    wpList Try.prog ops Q (o :: rest) a w := by
  obtain ⟨i0, hi, hz0, hz1, hz2⟩ := info_parts info_truth
  have hl := hrd.len
  cases ao with
  | none =>
    obtain ⟨rfl, rfl⟩ := hnone rfl
    obtain rfl : xs = [] := List.eq_nil_of_length_eq_zero hl
    refine wpList_append_own_none hg s x 27 ho B 23 i0 1 Try.underlying27 hi v ys.length (ys.map (Value.int .i64)) hs hrow hx (hK _ _ (by rw [List.append_nil]; exact hrow) ?_)
    exact ⟨rfl, rfl, rfl, Nat.le_refl _, fun _ _ _ => rfl⟩
  | some ad =>
    refine wpList_append_own _ hg s x 27 ho B 23 i0 (.int .i64 0) 1 8 Try.underlying27 hi hz0 hz1 hz2 rfl (by decide) v ys.length (ys.map (Value.int .i64)) hs hrow ad n cap (xs.map (Value.int .i64)) hx (by simp; omega) ?_ ?_ (by unfold maxLen; omega) (by omega) hB ?_
    · intro j u hu
      obtain ⟨hj, rfl⟩ : j < xs.length ∧ u = .int .i64 (gt xs j) := by
        rw [List.getElem?_map] at hu
        cases hj : xs[j]? with
        | none => rw [hj] at hu; simp at hu
        | some y =>
          rw [hj] at hu
          obtain ⟨h1, h2⟩ := List.getElem?_eq_some_iff.1 hj
          exact ⟨h1, by rw [gt_lt h1, h2]; simpa using hu.symm⟩
      obtain ⟨b, o', h1, h2, h3⟩ := hrd.cell j (by omega)
      simp only [Option.some.injEq] at h1
      subst h1
      rw [Addr.add_lit]
      exact h3 j (by omega)
    · intro u hu
      simp only [List.mem_map] at hu
      obtain ⟨y, _, rfl⟩ := hu
      rfl
    · intro v' w' h1 h2 _
      refine hK v' w' ?_ h2
      unfold Row
      rw [List.map_append, List.length_append, hl]
      exact h1

theorem info_int : (Try.prog.info? 3).map (fun i => (i.zero, i.size, i.bytes)) = some (some (.int .i64 0), 1, 8) := by kernel_rfl
theorem good_calls (t : Int) (w : World) : Calls Try.prog 38 #[.int .i64 t] w fun e w' => e = .returned (.bool (decide (0 ≤ t ∧ t ≤ 2))) ∧ w' = w := by
  by_cases h0 : 0 ≤ t
  · by_cases h2 : t ≤ 2
    · have HD := Lib.hid (show decide (0 ≤ t ∧ t ≤ 2) = true by simp [h0, h2])
      go_enter Try.func38, Try.ntmps38
      go_wp2
      go_ret
      exact ⟨by rw [HD.out]; rfl, rfl⟩
    · have HD := Lib.hid (show decide (0 ≤ t ∧ t ≤ 2) = false by simp; omega)
      go_enter Try.func38, Try.ntmps38
      go_wp2
      go_ret
      exact ⟨by rw [show decide (t ≤ 2) = false by simp; omega]; rfl, rfl⟩
  · have HD := Lib.hid (show decide (0 ≤ t ∧ t ≤ 2) = false by simp; omega)
    go_enter Try.func38, Try.ntmps38
    go_wp2
    go_ret
    exact ⟨by rw [show decide (0 ≤ t) = false by simp; omega]; rfl, rfl⟩
theorem seen_calls (t : Int) (w : World) : Calls Try.prog 39 #[.int .i64 t] w fun e w' => e = .returned (.int .i64 (seenB t)) ∧ w' = w := by
  have hG := good_calls t w
  by_cases h : 0 ≤ t ∧ t ≤ 2
  · have HS := Lib.hid (show seenB t = t by unfold seenB; rw [if_pos h])
    rw [decide_eq_true h] at hG
    clear h
    go_enter Try.func39, Try.ntmps39
    go_wp2_with fail
    refine hG.mono ?_
    rintro e w1 ⟨rfl, rfl⟩
    go_wp2_with fail
    go_ret
    exact ⟨by rw [HS.out]; rfl, rfl⟩
  · have HS := Lib.hid (show seenB t = 1 by unfold seenB; rw [if_neg h])
    rw [decide_eq_false h] at hG
    clear h
    go_enter Try.func39, Try.ntmps39
    go_wp2_with fail
    refine hG.mono ?_
    rintro e w1 ⟨rfl, rfl⟩
    go_wp2_with fail
    go_ret
    exact ⟨by rw [HS.out]; rfl, rfl⟩
theorem not_calls (t : Int) (w : World) : Calls Try.prog 22 #[.int .i64 t] w fun e w' => e = .returned (.int .i64 (2 - seenB t)) ∧ w' = w := by
  have hS := seen_calls t w
  have hr := seenB_range t
  obtain ⟨s, hs⟩ : ∃ s, seenB t = s := ⟨_, rfl⟩
  rw [hs] at hS hr
  have HW := Lib.hid (wrap64_tiny (x := 2 - s) (by omega) (by omega))
  have hw := HW.out
  have HSS := Lib.hid hs
  clear hs
  go_enter Try.func22, Try.ntmps22
  go_wp2_with fail
  refine hS.mono ?_
  rintro e w1 ⟨rfl, rfl⟩
  go_wp2_with fail
  go_ret
  exact ⟨by rw [HSS.out]; rfl, rfl⟩
theorem of_calls (t : Int) (w : World) : Calls Try.prog 52 #[.int .i64 t] w fun e w' => e = .returned (.int .i64 (seenB t)) ∧ w' = w := by
  by_cases h0 : t = 0
  · subst h0
    go_enter Try.func52, Try.ntmps52
    go_wp2
    go_ret
    exact ⟨rfl, rfl⟩
  · have h0' : (t == 0) = false := beq_eq_false_iff_ne.2 h0
    by_cases h2 : t = 2
    · subst h2
      go_enter Try.func52, Try.ntmps52
      go_wp2
      go_ret
      exact ⟨rfl, rfl⟩
    · have h2' : (t == 2) = false := beq_eq_false_iff_ne.2 h2
      have HS := Lib.hid (show seenB t = 1 by unfold seenB; split <;> omega)
      go_enter Try.func52, Try.ntmps52
      go_wp2
      go_ret
      exact ⟨by rw [HS.out]; rfl, rfl⟩
theorem turned_calls (t : Int) (w : World) : Calls Try.prog 35 #[.int .i64 t] w fun e w' => e = .returned (.int .i64 (2 - seenB t)) ∧ w' = w := by
  have hS := of_calls t w
  have hr := seenB_range t
  obtain ⟨s, hs⟩ : ∃ s, seenB t = s := ⟨_, rfl⟩
  rw [hs] at hS hr
  have HW := Lib.hid (wrap64_tiny (x := 2 - s) (by omega) (by omega))
  have hw := HW.out
  have HSS := Lib.hid hs
  clear hs
  go_enter Try.func35, Try.ntmps35
  go_wp2_with fail
  refine hS.mono ?_
  rintro e w1 ⟨rfl, rfl⟩
  go_wp2_with fail
  go_ret
  exact ⟨by rw [HSS.out]; rfl, rfl⟩
theorem and_calls (ao : Option Addr) (n cap : Nat) (xs : List Int) (w : World) (h : Rd w .i64 ao n cap xs) : Calls Try.prog 28 #[.slice ao n cap] w fun e w' => e = .returned (.int .i64 (andF xs)) ∧ w' = w := by
  have HL := Lib.hid h.len
  have HR := Lib.hid h
  have hle := h.le
  have hcm := h.cap_le
  have hnb : n ≤ 9223372036854775807 := by unfold maxLen at hcm; omega
  clear h
  go_enter Try.func28, Try.ntmps28
  go_wp2_with fail
  go_loopw [3, 8] (fun a i wr => ∃ q : Nat, i = .int .i64 q ∧ q ≤ n ∧ Hid (wr = w) ∧ ∃ s : Int, a = .int .i64 s ∧ Hid (s = andF (xs.take q))) (fun _ i _ => n - (RowKit.intOf i).toNat)
  case atStart => exact ⟨0, rfl, Nat.zero_le _, Lib.hid rfl, _, rfl, Lib.hid rfl⟩
  case round =>
    obtain ⟨q, rfl, hq, HW, s, rfl, HSU⟩ := hrel
    obtain rfl := HW.out
    clear HW
    by_cases hqn : q < n
    · have hqn' : (q : Int) < n := by omega
      obtain ⟨b, o, rfl, hb, hc⟩ := HR.out.cell q hqn
      have hcell := hc q hqn
      obtain ⟨t, ht⟩ : ∃ t, gt xs q = t := ⟨_, rfl⟩
      rw [ht] at hcell
      have hN := andF_next (l := xs) (k := q) (by rw [HL.out]; exact hqn)
      rw [ht, ← HSU.out] at hN
      have hS := seen_calls t wr
      obtain ⟨u, hu⟩ : ∃ u, seenB t = u := ⟨_, rfl⟩
      rw [hu] at hS hN
      have HN := Lib.hid hN
      clear hN hu ht hc HSU
      go_wp2_with fail
      refine hS.mono ?_
      rintro e w1 ⟨rfl, rfl⟩
      go_wp2_with fail
      go_roundw
      case rel => exact ⟨q + 1, by go_num, by omega, Lib.hid trivial, _, rfl, Lib.hid HN.out.symm⟩
      case measure => simp [RowKit.intOf]; omega
    · obtain rfl : q = n := by omega
      have HE := Lib.hid (show s = andF xs by rw [HSU.out, List.take_of_length_le (by rw [HL.out]; exact Nat.le_refl _)])
      clear HSU
      go_wp2_with fail
      go_ret
      exact ⟨by rw [← HE.out]; rfl, rfl⟩
theorem or_calls (ao : Option Addr) (n cap : Nat) (xs : List Int) (w : World) (h : Rd w .i64 ao n cap xs) : Calls Try.prog 44 #[.slice ao n cap] w fun e w' => e = .returned (.int .i64 (orF xs)) ∧ w' = w := by
  have HL := Lib.hid h.len
  have HR := Lib.hid h
  have hle := h.le
  have hcm := h.cap_le
  have hnb : n ≤ 9223372036854775807 := by unfold maxLen at hcm; omega
  clear h
  go_enter Try.func44, Try.ntmps44
  go_wp2_with fail
  go_loopw [3, 8] (fun a i wr => ∃ q : Nat, i = .int .i64 q ∧ q ≤ n ∧ Hid (wr = w) ∧ ∃ s : Int, a = .int .i64 s ∧ Hid (s = orF (xs.take q))) (fun _ i _ => n - (RowKit.intOf i).toNat)
  case atStart => exact ⟨0, rfl, Nat.zero_le _, Lib.hid rfl, _, rfl, Lib.hid rfl⟩
  case round =>
    obtain ⟨q, rfl, hq, HW, s, rfl, HSU⟩ := hrel
    obtain rfl := HW.out
    clear HW
    by_cases hqn : q < n
    · have hqn' : (q : Int) < n := by omega
      obtain ⟨b, o, rfl, hb, hc⟩ := HR.out.cell q hqn
      have hcell := hc q hqn
      obtain ⟨t, ht⟩ : ∃ t, gt xs q = t := ⟨_, rfl⟩
      rw [ht] at hcell
      have hN := orF_next (l := xs) (k := q) (by rw [HL.out]; exact hqn)
      rw [ht, ← HSU.out] at hN
      have hS := seen_calls t wr
      obtain ⟨u, hu⟩ : ∃ u, seenB t = u := ⟨_, rfl⟩
      rw [hu] at hS hN
      have HN := Lib.hid hN
      clear hN hu ht hc HSU
      go_wp2_with fail
      refine hS.mono ?_
      rintro e w1 ⟨rfl, rfl⟩
      go_wp2_with fail
      go_roundw
      case rel => exact ⟨q + 1, by go_num, by omega, Lib.hid trivial, _, rfl, Lib.hid HN.out.symm⟩
      case measure => simp [RowKit.intOf]; omega
    · obtain rfl : q = n := by omega
      have HE := Lib.hid (show s = orF xs by rw [HSU.out, List.take_of_length_le (by rw [HL.out]; exact Nat.le_refl _)])
      clear HSU
      go_wp2_with fail
      go_ret
      exact ⟨by rw [← HE.out]; rfl, rfl⟩
theorem all_calls (ao : Option Addr) (n cap : Nat) (xs : List Int) (w : World) (h : Rd w .i64 ao n cap xs) : Calls Try.prog 33 #[.slice ao n cap] w fun e w' => e = .returned (.int .i64 (andF xs)) ∧ w' = w := by
  have HL := Lib.hid h.len
  have HR := Lib.hid h
  have hle := h.le
  have hcm := h.cap_le
  have hnb : n ≤ 9223372036854775807 := by unfold maxLen at hcm; omega
  clear h
  go_enter Try.func33, Try.ntmps33
  go_wp2_with fail
  go_loopw [3, 8] (fun a i wr => ∃ q : Nat, i = .int .i64 q ∧ q ≤ n ∧ Hid (wr = w) ∧ ∃ s : Int, a = .int .i64 s ∧ Hid (s = andF (xs.take q))) (fun _ i _ => n - (RowKit.intOf i).toNat)
  case atStart => exact ⟨0, rfl, Nat.zero_le _, Lib.hid rfl, _, rfl, Lib.hid rfl⟩
  case round =>
    obtain ⟨q, rfl, hq, HW, s, rfl, HSU⟩ := hrel
    obtain rfl := HW.out
    clear HW
    by_cases hqn : q < n
    · have hqn' : (q : Int) < n := by omega
      obtain ⟨b, o, rfl, hb, hc⟩ := HR.out.cell q hqn
      have hcell := hc q hqn
      obtain ⟨t, ht⟩ : ∃ t, gt xs q = t := ⟨_, rfl⟩
      rw [ht] at hcell
      have hN := andF_next (l := xs) (k := q) (by rw [HL.out]; exact hqn)
      rw [ht, ← HSU.out] at hN
      have hS := of_calls t wr
      obtain ⟨u, hu⟩ : ∃ u, seenB t = u := ⟨_, rfl⟩
      rw [hu] at hS hN
      have HN := Lib.hid hN
      clear hN hu ht hc HSU
      go_wp2_with fail
      refine hS.mono ?_
      rintro e w1 ⟨rfl, rfl⟩
      go_wp2_with fail
      go_roundw
      case rel => exact ⟨q + 1, by go_num, by omega, Lib.hid trivial, _, rfl, Lib.hid HN.out.symm⟩
      case measure => simp [RowKit.intOf]; omega
    · obtain rfl : q = n := by omega
      have HE := Lib.hid (show s = andF xs by rw [HSU.out, List.take_of_length_le (by rw [HL.out]; exact Nat.le_refl _)])
      clear HSU
      go_wp2_with fail
      go_ret
      exact ⟨by rw [← HE.out]; rfl, rfl⟩
theorem any_calls (ao : Option Addr) (n cap : Nat) (xs : List Int) (w : World) (h : Rd w .i64 ao n cap xs) : Calls Try.prog 34 #[.slice ao n cap] w fun e w' => e = .returned (.int .i64 (orF xs)) ∧ w' = w := by
  have HL := Lib.hid h.len
  have HR := Lib.hid h
  have hle := h.le
  have hcm := h.cap_le
  have hnb : n ≤ 9223372036854775807 := by unfold maxLen at hcm; omega
  clear h
  go_enter Try.func34, Try.ntmps34
  go_wp2_with fail
  go_loopw [3, 8] (fun a i wr => ∃ q : Nat, i = .int .i64 q ∧ q ≤ n ∧ Hid (wr = w) ∧ ∃ s : Int, a = .int .i64 s ∧ Hid (s = orF (xs.take q))) (fun _ i _ => n - (RowKit.intOf i).toNat)
  case atStart => exact ⟨0, rfl, Nat.zero_le _, Lib.hid rfl, _, rfl, Lib.hid rfl⟩
  case round =>
    obtain ⟨q, rfl, hq, HW, s, rfl, HSU⟩ := hrel
    obtain rfl := HW.out
    clear HW
    by_cases hqn : q < n
    · have hqn' : (q : Int) < n := by omega
      obtain ⟨b, o, rfl, hb, hc⟩ := HR.out.cell q hqn
      have hcell := hc q hqn
      obtain ⟨t, ht⟩ : ∃ t, gt xs q = t := ⟨_, rfl⟩
      rw [ht] at hcell
      have hN := orF_next (l := xs) (k := q) (by rw [HL.out]; exact hqn)
      rw [ht, ← HSU.out] at hN
      have hS := of_calls t wr
      obtain ⟨u, hu⟩ : ∃ u, seenB t = u := ⟨_, rfl⟩
      rw [hu] at hS hN
      have HN := Lib.hid hN
      clear hN hu ht hc HSU
      go_wp2_with fail
      refine hS.mono ?_
      rintro e w1 ⟨rfl, rfl⟩
      go_wp2_with fail
      go_roundw
      case rel => exact ⟨q + 1, by go_num, by omega, Lib.hid trivial, _, rfl, Lib.hid HN.out.symm⟩
      case measure => simp [RowKit.intOf]; omega
    · obtain rfl : q = n := by omega
      have HE := Lib.hid (show s = orF xs by rw [HSU.out, List.take_of_length_le (by rw [HL.out]; exact Nat.le_refl _)])
      clear HSU
      go_wp2_with fail
      go_ret
      exact ⟨by rw [← HE.out]; rfl, rfl⟩
theorem truths_calls (ao : Option Addr) (n cap : Nat) (xs : List Int) (w : World) (h : Rd w .i64 ao n cap xs) (hnone : ao = none → n = 0 ∧ cap = 0) (hn : n ≤ 17592186044416) :
    Calls Try.prog 11 #[.slice ao n cap] w (GivesRow w 23 .i64 xs) := by
  have HN := Lib.hid hnone
  have hl := Lib.hid h.len
  go_enter Try.func11, Try.ntmps11
  go_wp2_with (at_builtin; refine append_rt _ rfl _ _ rfl w.heap.size _ [] rfl (row_empty w _ _ _ (Nat.le_refl _)) ao n cap xs rfl (h.below ((Below.refl _ _).alloc (Nat.le_refl _) _)) HN.out (by simp; omega) (by simp) ?_; intro v' w1 hrow hgrow)
  rw [List.nil_append] at hrow
  have hb1 : Below w.heap.size w w1 := ((Below.refl _ _).alloc (Nat.le_refl _) _).grown hgrow (by simp) (fun j hj => ((row_empty w 23 .i64 w.heap.size (Nat.le_refl _)).lt j hj).1)
  go_ret
  exact ⟨_, rfl, hrow, hb1⟩
theorem equal_calls (ao bo : Option Addr) (n cap cap2 : Nat) (xs : List Int) (w : World) (h : Rd w .i64 ao n cap xs) (h2 : Rd w .i64 bo n cap2 xs) :
    Calls Try.prog 15 #[.slice ao n cap, .slice bo n cap2] w fun e w' => e = .returned (.bool true) ∧ Drew w w' := by
  have HR := Lib.hid h
  have HR2 := Lib.hid h2
  have hle := h.le
  have hcm := h.cap_le
  have hnb : n ≤ 9223372036854775807 := by unfold maxLen at hcm; omega
  have hle2 := h2.le
  have hcm2 := h2.cap_le
  clear h h2
  go_enter Try.func15, Try.ntmps15
  go_wp2_with fail
  go_loopw [13] (fun i wr => ∃ q : Nat, i = .int .i64 q ∧ q ≤ n ∧ Drew w wr) (fun i _ => n - (RowKit.intOf i).toNat)
  case atStart => exact ⟨0, rfl, Nat.zero_le _, Drew.refl _⟩
  case round =>
    obtain ⟨q, rfl, hq, hd⟩ := hrel
    by_cases hqn : q < n
    · have hqn' : (q : Int) < n := by omega
      obtain ⟨b, o, rfl, hb1, hc⟩ := (HR.out.below (hd.below _)).cell q hqn
      obtain ⟨b2, o2, rfl, hb2, hc2⟩ := (HR2.out.below (hd.below _)).cell q hqn
      have k1 := hc q hqn
      have k2 := hc2 q hqn
      obtain ⟨t, ht⟩ : ∃ t, gt xs q = t := ⟨_, rfl⟩
      rw [ht] at k1 k2
      clear ht hc hc2
      go_wp2
      go_quiet (fail)
      go_wp2
      go_roundw
      case rel => exact ⟨q + 1, by go_num, by omega, hd.drewN _⟩
      case measure => simp [RowKit.intOf]; omega
    · obtain rfl : q = n := by omega
      go_wp2_with fail
      go_ret
      exact ⟨rfl, hd⟩
end Go.Proofs.Ytmdanfeilgeoaaa
