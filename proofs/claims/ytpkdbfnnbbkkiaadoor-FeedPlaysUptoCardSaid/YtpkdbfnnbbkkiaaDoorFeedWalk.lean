/- A Feed in memory; the walks of its New, Push, End. -/
import Derived.Test.YtpkdbfnnbbkkiaaDoorFeedMem
import Derived.Deep.RegionHeld3
namespace Go.Proofs.YtpkdbfnnbbkkiaaDoor
open Go.RowKit Gim
/-- 'f.lies = append(f.lies, b...)': the append -/
theorem wpList_bytes (w : World) {ops : Array Oper} {rest : List Oper} {o : Oper} {a : Act} {Q : Exit → Act → World → Prop} (hg : o.guard = none) (s x : Operand)
    (ho : o.op = .call { callee := .builtin .append, args := #[s, x], argTypes := #[22, 22] }) (B : Nat) (v : Value) (xs : List Int) (hs : a.eval s = v) (hv : OwnB w B v xs) (ao : Option Addr) (m c : Nat) (ys : List Int) (hx : a.eval x = .slice ao m c) (hr : Rd w .u8 ao m c ys)
    (hnone : ao = none → m = 0 ∧ c = 0) (hlen : xs.length + m ≤ 70368744177664) (hB : B ≤ w.heap.size)
    (hK : ∀ v' w', OwnB w' B v' (xs ++ ys) → Fr (fun j => blk v = some j) w w' → (∀ g, blk v' = some g → blk v = some g ∨ w.heap.size ≤ g) → wpList Tryd.prog ops Q rest (a.put o.dst v') w') :
    wpList Tryd.prog ops Q (o :: rest) a w := by
  refine wpList_plain hg fun K hK' => ?_
  obtain ⟨v', w', hrun, h1, h2, h3⟩ := run_bytes w B v xs hv ao m c ys hr hnone hlen hB o.type
  unfold Oper.wp execOp
  simp only [ho, resolve, invoke, builtin, Sem.run_bind, Sem.run_pure, Result.andThen_ok, List.map_toArray, List.map_cons, List.map_nil, hs, hx, hrun]
  exact hK' _ _ (hK v' w' h1 h2 h3)
/-- a Feed in block F: its bytes, its place, has it ended -/
structure Fm (w : World) (B F : Nat) (v : Value) (xs : List Int) (p : Int × Int × Int × Int) (ended : Bool) : Prop where
  hF : w.heap[F]? = some (.cells #[v, .int .i64 p.1, .int .i64 p.2.1, .int .i64 p.2.2.1, .int .i64 p.2.2.2, .bool ended] 70)
  own : OwnB w B v xs
  by_ : ∀ x ∈ xs, 0 ≤ x ∧ x ≤ 255
  lo : B ≤ F
  le : B ≤ w.heap.size
theorem Fm.ne {w : World} {B F : Nat} {v : Value} {xs : List Int} {p : Int × Int × Int × Int} {ended : Bool} (h : Fm w B F v xs p ended) : ∀ g, blk v = some g → g ≠ F := by
  rintro g hg rfl
  obtain ⟨_, cur, hc⟩ := h.own.lt g hg
  rw [h.hF] at hc
  injection hc with hc
  injection hc with _ h2
  exact absurd h2 (by decide)
theorem Fm.lt {w : World} {B F : Nat} {v : Value} {xs : List Int} {p : Int × Int × Int × Int} {ended : Bool} (h : Fm w B F v xs p ended) : F < w.heap.size ∧ ∀ g, blk v = some g → B ≤ g ∧ g < w.heap.size :=
  ⟨(Array.getElem?_eq_some_iff.1 h.hF).1, fun g hg => ⟨(h.own.lt g hg).1, by obtain ⟨_, hc⟩ := (h.own.lt g hg).2; exact (Array.getElem?_eq_some_iff.1 hc).1⟩⟩
theorem Fm.frv {q : Nat → Prop} {w w' : World} {B F : Nat} {v : Value} {xs : List Int} {p : Int × Int × Int × Int} {ended : Bool} (h : Fm w B F v xs p ended) (hf : Fr q w w') (hF : ¬ q F) (hv : ∀ g, blk v = some g → ¬ q g) : Fm w' B F v xs p ended :=
  ⟨(hf.block F h.lt.1 hF).trans h.hF, h.own.block (fun g hg => hf.block g (h.lt.2 g hg).2 (hv g hg)), h.by_, h.lo, Nat.le_trans h.le hf.size⟩
theorem Fm.fresh {w w' : World} {B F : Nat} {v : Value} {xs : List Int} {p : Int × Int × Int × Int} {ended : Bool} (h : Fm w B F v xs p ended) (b : Below w.heap.size w w') : Fm w' B F v xs p ended :=
  h.frv (Fr.of (p := fun _ => False) b) (fun x => x) (fun _ _ x => x)
set_option maxHeartbeats 1000000 in
theorem feedNew (w : World) : Calls Tryd.prog 13 #[] w fun e w' => e = .returned (.pointer (some ⟨w.heap.size, 0, none⟩)) ∧ Fm w' w.heap.size w.heap.size (.slice none 0 0) [] (0, 0, 1, 1) false ∧ Below w.heap.size w w' := by
  go_enter Tryd.func13, Tryd.ntmps13
  go_wp2
  go_ret
  exact ⟨rfl, ⟨heap_alloc_new _ _, .inl ⟨rfl, rfl⟩, fun x hx => (by cases hx), Nat.le_refl _, by simp⟩, (Below.refl _ _).alloc (Nat.le_refl _) _⟩
/-- what Push of more leaves -/
def Pushed (w : World) (B F : Nat) (v : Value) (xs : List Int) (p : Int × Int × Int × Int) (e : Ending) (w' : World) : Prop :=
  e = .returned (.int .i64 0) ∧ ∃ v', Fm w' B F v' xs p false ∧ Fr (fun j => j = F ∨ blk v = some j) w w' ∧ (∀ g, blk v' = some g → blk v = some g ∨ w.heap.size ≤ g)
set_option maxHeartbeats 1000000 in
theorem push_calls (w : World) (B F : Nat) (v : Value) (xs : List Int) (p : Int × Int × Int × Int) (h : Fm w B F v xs p false) (ao : Option Addr) (m c : Nat) (ys : List Int) (hr : Rd w .u8 ao m c ys) (hby : ∀ x ∈ ys, 0 ≤ x ∧ x ≤ 255) (hnone : ao = none → m = 0 ∧ c = 0) (hlen : xs.length + m ≤ 70368744177664) :
    Calls Tryd.prog 14 #[.pointer (some ⟨F, 0, none⟩), .slice ao m c] w (Pushed w B F v (xs ++ ys) p) := by
  have hne := h.ne
  have hlt := h.lt
  obtain ⟨hF, hown, hxs, hlo, hle⟩ := h
  obtain ⟨va, vc, rfl, _⟩ := hown.rd
  have k0 : w.cell? ⟨F, 0, none⟩ = some (.slice va xs.length vc) := by simp [World.cell?, hF]
  have k5 : w.cell? ⟨F, 5, none⟩ = some (.bool false) := by simp [World.cell?, hF]
  unfold Pushed
  go_enter Tryd.func14, Tryd.ntmps14
  go_wp2_with (at_builtin; refine wpList_bytes _ rfl _ _ rfl B _ xs rfl hown _ _ _ ys rfl hr hnone hlen hle ?_; intro v3 w3 ho3 hf3 hat3; obtain ⟨a3, c3, rfl, _⟩ := ho3.rd; have x3 : w3.heap[F]? = _ := (hf3.block F hlt.1 (fun e => hne F e rfl)).trans hF; have z4 : w3.cell? ⟨F, 0, none⟩ = some (.slice va xs.length vc) := (by simp [World.cell?, x3]); have z5 : w3.frozen? ⟨F, 0, none⟩ = false := (by simp [World.frozen?, x3]))
  go_ret
  rw [List.length_append] at ho3 hat3
  have hfA : Fr (fun j => j = F ∨ blk (.slice va xs.length vc) = some j) w (w3.setCell ⟨F, 0, none⟩ (.slice a3 (xs.length + ys.length) c3)) := (hf3.mono (fun j e => .inr e)).set F 0 _ (.inl rfl)
  refine ⟨rfl, _, ⟨?_, ho3.block (fun g hg => ?_), fun x hx => (List.mem_append.1 hx).elim (hxs x) (hby x), hlo, Nat.le_trans hle hfA.size⟩, hfA, hat3⟩
  · rw [Go.Joins.block_setCell x3]; rfl
  · obtain ⟨_, cur, hc⟩ := ho3.lt g hg
    simp only [World.setCell, Array.getElem?_modify]
    rw [if_neg (fun e => by
      subst e
      rw [x3] at hc
      injection hc with hc
      injection hc with _ h2
      exact absurd h2 (by decide))]
theorem push_ended (w : World) (B F : Nat) (v : Value) (xs : List Int) (p : Int × Int × Int × Int) (u : Value) (h : Fm w B F v xs p true) :
    Calls Tryd.prog 14 #[.pointer (some ⟨F, 0, none⟩), u] w fun e w' => e = .returned (.int .i64 5) ∧ w' = w := by
  have k5 : w.cell? ⟨F, 5, none⟩ = some (.bool true) := by simp [World.cell?, h.hF]
  go_enter Tryd.func14, Tryd.ntmps14
  go_wp2
  go_ret
  exact ⟨rfl, rfl⟩
/-- a cell of the Feed stored anew -/
theorem Fm.set {w : World} {B F : Nat} {v : Value} {xs : List Int} {p : Int × Int × Int × Int} {ended : Bool} (h : Fm w B F v xs p ended) {w' : World} (hf : Fr (fun j => j = F) w w') {v' : Value} {xs' : List Int} {p' : Int × Int × Int × Int} {e' : Bool} (ho : OwnB w B v' xs') (hx : ∀ x ∈ xs', 0 ≤ x ∧ x ≤ 255)
    (hF : w'.heap[F]? = some (.cells #[v', .int .i64 p'.1, .int .i64 p'.2.1, .int .i64 p'.2.2.1, .int .i64 p'.2.2.2, .bool e'] 70)) : Fm w' B F v' xs' p' e' :=
  ⟨hF, ho.block (fun g hg => hf.block g (by obtain ⟨_, _, hc⟩ := ho.lt g hg; exact (Array.getElem?_eq_some_iff.1 hc).1) (fun e => by
    have e : g = F := e
    subst e
    obtain ⟨_, cur, hc⟩ := ho.lt g hg
    rw [h.hF] at hc
    injection hc with hc
    injection hc with _ h2
    exact absurd h2 (by decide))), hx, h.lo, Nat.le_trans h.le hf.size⟩
set_option maxHeartbeats 1000000 in
theorem end_calls (w : World) (B F : Nat) (v : Value) (xs : List Int) (p : Int × Int × Int × Int) (ended : Bool) (h : Fm w B F v xs p ended) :
    Calls Tryd.prog 23 #[.pointer (some ⟨F, 0, none⟩)] w fun e w' => e = .returned (.int .i64 (if ended then 5 else 0)) ∧ Fm w' B F v xs p true ∧ Fr (fun j => j = F) w w' := by
  have k5 : w.cell? ⟨F, 5, none⟩ = some (.bool ended) := by simp [World.cell?, h.hF]
  have kf : w.frozen? ⟨F, 5, none⟩ = false := by simp [World.frozen?, h.hF]
  have hm := Lib.hid h
  clear h
  cases ended
  · go_enter Tryd.func23, Tryd.ntmps23
    go_wp2
    go_ret
    have hf : Fr (fun j => j = F) w (w.setCell ⟨F, 5, none⟩ (.bool true)) := (Fr.refl (fun j => j = F) w).set F 5 _ rfl
    exact ⟨rfl, hm.out.set hf hm.out.own hm.out.by_ (by rw [Go.Joins.block_setCell hm.out.hF]; rfl), hf⟩
  · go_enter Tryd.func23, Tryd.ntmps23
    go_wp2
    go_ret
    exact ⟨rfl, hm.out, Fr.refl _ _⟩
set_option maxHeartbeats 1000000 in
theorem place_calls (w : World) (B F : Nat) (v : Value) (xs : List Int) (p : Int × Int × Int × Int) (ended : Bool) (h : Fm w B F v xs p ended) :
    Calls Tryd.prog 17 #[.pointer (some ⟨F, 0, none⟩)] w fun e w' => e = .returned (.agg #[.int .i64 p.1, .int .i64 p.2.1, .int .i64 p.2.2.1, .int .i64 p.2.2.2]) ∧ Below w.heap.size w w' := by
  have k1 : w.cell? ⟨F, 1, none⟩ = some (.int .i64 p.1) := by simp [World.cell?, h.hF]
  have k2 : w.cell? ⟨F, 2, none⟩ = some (.int .i64 p.2.1) := by simp [World.cell?, h.hF]
  have k3 : w.cell? ⟨F, 3, none⟩ = some (.int .i64 p.2.2.1) := by simp [World.cell?, h.hF]
  have k4 : w.cell? ⟨F, 4, none⟩ = some (.int .i64 p.2.2.2) := by simp [World.cell?, h.hF]
  have hl := h.lt.1
  clear h
  obtain ⟨p1, p2, p3, p4⟩ := p
  simp only [] at k1 k2 k3 k4 ⊢
  go_enter Tryd.func17, Tryd.ntmps17
  go_wp2
  have hb : Below w.heap.size w (w.alloc (Obj.cells #[.int .i64 p1, .int .i64 p2, .int .i64 p3, .int .i64 p4] 27)) := (Below.refl _ _).alloc (Nat.le_refl _) _
  have hh := heap_alloc_new w (Obj.cells #[.int .i64 p1, .int .i64 p2, .int .i64 p3, .int .i64 p4] 27)
  generalize w.alloc (Obj.cells #[.int .i64 p1, .int .i64 p2, .int .i64 p3, .int .i64 p4] 27) = V at hb hh ⊢
  have j0 : V.cell? ⟨w.heap.size, 0, none⟩ = some (.int .i64 p1) := by simp [World.cell?, hh]
  have j1 : V.cell? ⟨w.heap.size, 1, none⟩ = some (.int .i64 p2) := by simp [World.cell?, hh]
  have j2 : V.cell? ⟨w.heap.size, 2, none⟩ = some (.int .i64 p3) := by simp [World.cell?, hh]
  have j3 : V.cell? ⟨w.heap.size, 3, none⟩ = some (.int .i64 p4) := by simp [World.cell?, hh]
  refine ⟨rfl, .agg #[.int .i64 p1, .int .i64 p2, .int .i64 p3, .int .i64 p4], ?_, rfl, hb⟩
  simp [results, Tryd.f17, go_sem, j0, j1, j2, j3]
end Go.Proofs.YtpkdbfnnbbkkiaaDoor
