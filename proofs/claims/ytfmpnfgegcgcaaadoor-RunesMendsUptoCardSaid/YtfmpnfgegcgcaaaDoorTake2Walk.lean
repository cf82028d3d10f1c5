/- The walk of runes.Decoder.Take, whatever it answers; what it leaves as it was. -/
import Derived.Test.YtfmpnfgegcgcaaaDoorTakesLaw
import Derived.Test.YtfmpnfgegcgcaaaDoorTakeWalk
import Derived.Maps.AppendAt
namespace Gim
open Go Go.RowKit
/-- 'append(out, x)' of one number, and where the answer lies -/
theorem append1_at {P : Program} (w : World) {ops : Array Oper} {rest : List Oper} {o : Oper} {a : Act} {Q : Exit → Act → World → Prop} (hg : o.guard = none) (s x : Operand) (t : TypeId)
    (ho : o.op = .call { callee := .builtin .append, args := #[s, x], argTypes := #[t, t] }) (B : Nat) (e : TypeId) (k : IntKind) (bytes : Nat)
    (hinfo : (P.info? e).map (fun i => (i.zero, i.size, i.bytes)) = some (some (.int k 0), 1, bytes)) (ht : P.underlying t = some (.slice e))
    (v : Value) (xs : List Int) (hs : a.eval s = v) (hrow : Row w B e k v xs) (z : Int) (hx : a.eval x = .slice (some ⟨w.heap.size, 0, none⟩) 1 1)
    (hlen : xs.length < 1099511627776) (hby : bytes ≤ 8) (hB : B ≤ w.heap.size)
    (hK : ∀ v' w', Row w' B e k v' (xs ++ [z]) → w.grownBy w' v.ownBlock → (∀ g, v'.ownBlock = some g → v.ownBlock = some g ∨ w.heap.size ≤ g) → wpList P ops Q rest (a.put o.dst v') w') :
    wpList P ops Q (o :: rest) a (w.alloc (.cells #[.int k z] e)) := by
  obtain ⟨i0, hi, hz0, hz1, hz2⟩ := info_parts hinfo
  refine wpList_append_own_at _ hg s x t ho B e i0 (.int k 0) 1 bytes ht hi hz0 hz1 hz2 rfl (by decide) v xs.length (xs.map (Value.int k)) hs (World.ownsRow.alloc hrow _) ⟨w.heap.size, 0, none⟩ 1 1 [.int k z] hx rfl (one_new _ _ _)
    (fun x hx => by simp at hx; rcases hx with rfl; rfl) (by unfold maxLen; omega) (by have := Nat.mul_le_mul_left (xs.length + 1) hby; omega) (by simp; omega) ?_
  intro v' w' h1 h2 _ hat
  refine hK v' w' ?_ ?_ ?_
  · unfold Row
    simpa using h1
  · have h3 := World.grownBy_alloc w (.cells #[.int k z] e) v.ownBlock
    exact ⟨h2.os.trans h3.os, h2.tape.trans h3.tape, h2.output.trans h3.output, Nat.le_trans h3.size h2.size,
      fun j hj hne => (h2.block j (Nat.lt_of_lt_of_le hj h3.size) hne).trans (h3.block j hj hne)⟩
  · intro g hg
    rcases hat with h | h
    · exact .inl (h ▸ hg)
    · rw [h] at hg
      simp only [Option.some.injEq, World.alloc, Array.size_push] at hg
      exact .inr (by omega)
end Gim
namespace Go.Proofs.YtfmpnfgegcgcaaaDoor
open Go.RowKit Gim
/-- a Decoder in block D that lives, and has taken xs -/
structure DecL (w : World) (B D : Nat) (v : Value) (xs : List Int) : Prop where
  hD : w.heap[D]? = some (.cells #[v, .bool false] 110)
  row : Row w B 5 .u8 v xs
  lt : D < B
  le : B ≤ w.heap.size
def DecD (w : World) (D : Nat) (n : Nat) : Prop := ∃ ao cp, w.heap[D]? = some (.cells #[.slice ao n cp, .bool true] 110)
def TakeP (w : World) (B D : Nat) (v : Value) (xs : List Int) (x : Int) (q u : Bool) (e : Ending) (w' : World) : Prop :=
      Fr (fun j => j = D ∨ v.ownBlock = some j) w w' ∧
      (q = false → e = .returned (.tuple #[.int .i32 0, .int .i64 2]) ∧ DecD w' D xs.length) ∧
      (q = true → u = true → e = .returned (.tuple #[.int .i32 (decB (xs ++ [x])).1, .int .i64 0]) ∧ DecL w' B D (.slice none 0 0) []) ∧
      (q = true → u = false → e = .returned (.tuple #[.int .i32 0, .int .i64 1]) ∧ ∃ v', DecL w' B D v' (xs ++ [x]) ∧ ∀ g, v'.ownBlock = some g → v.ownBlock = some g ∨ w.heap.size ≤ g)
set_option maxHeartbeats 2000000 in
theorem takeL_calls (w0 w : World) (B D : Nat) (v : Value) (xs : List Int) (x : Int) (h : DecL w B D v xs) (_ : 0 ≤ x ∧ x ≤ 255) (hlen : xs.length ≤ 3) (hall : ∀ y ∈ xs ++ [x], 0 ≤ y ∧ y ≤ 255) (hT0 : U8 w0) (h0 : Below w0.heap.size w0 w) (hD0 : w0.heap.size ≤ D) :
    Calls Tryd.prog 35 #[.pointer (some ⟨D, 0, none⟩), .int .u8 x] w (TakeP w B D v xs x (beginsB (xs ++ [x])) (fullB (xs ++ [x]))) := by
  obtain ⟨hD, hrow, hDB, hBw⟩ := h
  have hDz := (Array.getElem?_eq_some_iff.1 hD).1
  have c0 : w.cell? ⟨D, 0, none⟩ = some v := by simp [World.cell?, hD]
  have c1 : w.cell? ⟨D, 1, none⟩ = some (.bool false) := by simp [World.cell?, hD]
  obtain ⟨P, hP⟩ : ∃ P, P = TakeP w B D v xs x := ⟨_, rfl⟩
  rw [← hP]
  have HPP := Lib.hid hP
  clear hP
  obtain ⟨ys, hys⟩ : ∃ ys, ys = xs ++ [x] := ⟨_, rfl⟩
  rw [← hys] at hall ⊢
  have hly : ys.length = xs.length + 1 := by rw [hys]; simp
  have HY := Lib.hid hys
  have HLY := Lib.hid hly
  clear hys hly
  obtain ⟨q, hq⟩ : ∃ q, q = beginsB ys := ⟨_, rfl⟩
  obtain ⟨u, hu⟩ : ∃ u, u = fullB ys := ⟨_, rfl⟩
  rw [← hq, ← hu]
  have HQ := Lib.hid hq
  have HU := Lib.hid hu
  clear hq hu
  have hp : ∀ j, (j = D ∨ v.ownBlock = some j) → w0.heap.size ≤ j := fun j hj => by
    rcases hj with rfl | hj
    · exact hD0
    · have := (hrow.lt _ hj).1; omega
  obtain ⟨ax, nx, cx, hvx⟩ : ∃ ao n cp, v = .slice ao n cp := by
    obtain ⟨ao, cp, e, _⟩ := hrow.rd
    exact ⟨_, _, _, e⟩
  have HVX := Lib.hid hvx
  have hnx : nx = xs.length := by
    obtain ⟨ao, cp, e, _⟩ := hrow.rd
    rw [hvx] at e
    simp only [Value.slice.injEq] at e
    exact e.2.1
  have HNX := Lib.hid hnx
  clear hvx hnx
  go_enter Tryd.func35, Tryd.ntmps35
  go_wp2_with (at_builtin; refine append1_at _ rfl _ _ 34 rfl B 5 .u8 1 info_u8 Tryd.underlying34 _ _ rfl hrow _ rfl (by omega) (by decide) (by omega) ?_; intro v' w3 hown' hgrow3 hat)
  replace hgrow3 : w.grownBy w3 v.ownBlock := hgrow3
  have hD3 := (hgrow3.block D hDz (fun e => by have := (hrow.lt _ e.symm).1; omega)).trans hD
  have hF3 : Fr (fun j => j = D ∨ v.ownBlock = some j) w w3 := (Fr.refl _ w).grown hgrow3 (fun g hg => .inl (.inr hg))
  have hT3 := U8.below hT0 (h0.trans (hF3.below h0.size hp))
  have hz3 := hF3.size
  rw [← HY.out] at hown'
  obtain ⟨ao, cp, rfl, rd3⟩ := hown'.rd
  have rb3 : Rb w3 ao ys.length cp ys := ⟨rd3, gt_all rfl hall⟩
  have HAT := Lib.hid hat
  have HP := Lib.hid hp
  clear rd3 hgrow3 hrow hD c0 c1 hat hp
  have cB := begins_calls _ _ _ _ _ rb3 hT3
  rw [← HQ.out] at cB
  refine cB.mono ?_
  rintro e w4 ⟨rfl, hb4⟩
  have hF4 := hF3.trans (.of hb4)
  have rb4 := rb3.below hb4
  have hD4 := (hb4.block D (by omega)).trans hD3
  have hown4 := hown'.stays hb4
  have hT4 := U8.below hT3 hb4
  have hz4 := hb4.size
  clear cB hown' rb3 hD3 hF3 hT3 hb4
  cases q
  · have f0 : w4.frozen? ⟨D, 1, none⟩ = false := by simp [World.frozen?, hD4]
    have c0 : w4.cell? ⟨D, 1, none⟩ = some (.bool false) := by simp [World.cell?, hD4]
    have hset := one_set hD4 (.bool true)
    go_wp2
    rw [HPP.out]
    unfold TakeP
    rw [← HY.out]
    refine ⟨hF4.set D 1 _ (.inl rfl), fun _ => ⟨rfl, ax, cx, ?_⟩, fun hh => (by cases hh), fun hh => (by cases hh)⟩
    rw [hset, HVX.out, HNX.out]
  · have cF := full_calls _ _ _ _ _ rb4 hT4
    rw [← HU.out] at cF
    clear HU HQ
    cases u
    · go_wp2_with fail
      refine cF.mono ?_
      rintro e w5 ⟨rfl, hb5⟩
      have hD5 := (hb5.block D (Array.getElem?_eq_some_iff.1 hD4).1).trans hD4
      have hz5 := hb5.size
      have hF5 := hF4.trans (.of hb5)
      have hown5 := hown4.stays hb5
      have c0 : w5.cell? ⟨D, 0, none⟩ = some v := by simp [World.cell?, hD5]
      have f0 : w5.frozen? ⟨D, 0, none⟩ = false := by simp [World.frozen?, hD5]
      clear cF hb5 hF4 hD4 hown4 rb4 hT4
      go_wp2
      rw [HPP.out]
      unfold TakeP
      rw [← HY.out]
      refine ⟨hF5.set D 0 _ (.inl rfl), fun hh => (by cases hh), fun _ hh => (by cases hh), fun _ _ => ⟨rfl, _, ⟨two_set hD5 _, ?_, hDB, by simp [World.setCell]; omega⟩, HAT.out⟩⟩
      exact ownsRow_setCell_below hown5 hDB _
    · go_wp2_with fail
      refine cF.mono ?_
      rintro e w5 ⟨rfl, hb5⟩
      have cD := decode_calls _ _ _ _ _ (rb4.below hb5) (U8.below hT4 hb5)
      go_wp2_with fail
      refine cD.mono ?_
      rintro e w6 ⟨rfl, hb6⟩
      have hD5 := (hb5.block D (Array.getElem?_eq_some_iff.1 hD4).1).trans hD4
      have hD6 := (hb6.block D (Array.getElem?_eq_some_iff.1 hD5).1).trans hD5
      have hz5 := hb5.size
      have hz6 := hb6.size
      have hF6 := (hF4.trans (.of hb5)).trans (.of hb6)
      have c0 : w6.cell? ⟨D, 0, none⟩ = some v := by simp [World.cell?, hD6]
      have f0 : w6.frozen? ⟨D, 0, none⟩ = false := by simp [World.frozen?, hD6]
      clear cF cD hb5 hb6 hF4 hD4 hD5 hown4 rb4 hT4
      go_wp2
      rw [HPP.out]
      unfold TakeP
      rw [← HY.out]
      refine ⟨hF6.set D 0 _ (.inl rfl), fun hh => (by cases hh), fun _ _ => ⟨rfl, ⟨two_set hD6 _, World.ownsRow_nil _ _ _ _, hDB, by simp [World.setCell]; omega⟩⟩, fun _ hh => (by cases hh)⟩
set_option maxHeartbeats 1000000 in
theorem takeD_calls (w : World) (D n : Nat) (x : Int) (h : DecD w D n) : Calls Tryd.prog 35 #[.pointer (some ⟨D, 0, none⟩), .int .u8 x] w fun e w' => e = .returned (.tuple #[.int .i32 0, .int .i64 2]) ∧ w' = w := by
  obtain ⟨ao, cp, hD⟩ := h
  have c1 : w.cell? ⟨D, 1, none⟩ = some (.bool true) := by simp [World.cell?, hD]
  go_enter Tryd.func35, Tryd.ntmps35
  go_wp2
  (try simp only [Exit.inBlock, Exit.then]); refine bodyPost_ret (results_tmp2 rfl _ _ _) rfl ?_
  exact ⟨rfl, rfl⟩
set_option maxHeartbeats 1000000 in
theorem pend_calls (w : World) (D n : Nat) (ao : Option Addr) (cp : Nat) (b : Value) (hD : w.heap[D]? = some (.cells #[.slice ao n cp, b] 110)) : Calls Tryd.prog 36 #[.pointer (some ⟨D, 0, none⟩)] w fun e w' => e = .returned (.int .i64 n) ∧ w' = w := by
  have c0 : w.cell? ⟨D, 0, none⟩ = some (.slice ao n cp) := by simp [World.cell?, hD]
  go_enter Tryd.func36, Tryd.ntmps36
  go_wp2
  go_ret
  exact ⟨rfl, rfl⟩
set_option maxHeartbeats 1000000 in
theorem nil_take_calls (w : World) (x : Int) : Calls Tryd.prog 35 #[.pointer none, .int .u8 x] w fun e w' => e = .returned (.tuple #[.int .i32 0, .int .i64 0]) ∧ w' = w := by
  go_enter Tryd.func35, Tryd.ntmps35
  go_wp2
  (try simp only [Exit.inBlock, Exit.then]); refine bodyPost_ret (results_tmp2 rfl _ _ _) rfl ?_
  exact ⟨rfl, rfl⟩
set_option maxHeartbeats 1000000 in
theorem nil_pend_calls (w : World) : Calls Tryd.prog 36 #[.pointer none] w fun e w' => e = .returned (.int .i64 0) ∧ w' = w := by
  go_enter Tryd.func36, Tryd.ntmps36
  go_wp2
  go_ret
  exact ⟨rfl, rfl⟩
end Go.Proofs.YtfmpnfgegcgcaaaDoor
