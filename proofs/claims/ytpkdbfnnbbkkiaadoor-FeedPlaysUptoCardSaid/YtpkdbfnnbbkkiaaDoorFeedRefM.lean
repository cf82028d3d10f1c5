/- The document's Feed (gimletref04) in memory; the walks of its Push, End, place. -/
import Derived.Test.YtpkdbfnnbbkkiaaDoorFeedRead
import Derived.Test.YtpkdbfnnbbkkiaaDoorRefAtWalk
import Derived.Test.YtpkdbfnnbbkkiaaDoorRefNextWalk
import Derived.Test.YtpkdbfnnbbkkiaaDoorFeedWholeLaw
namespace Gim
/-- where a byte lies, as the document says it -/
def plR (bs : List Int) (i : Nat) : Pl := (atB bs i).1
end Gim
namespace Go.Proofs.YtpkdbfnnbbkkiaaDoor
open Go.RowKit Gim
/-- the document's Feed in block F: its bytes, how many are taken, has it ended -/
structure Fd (w : World) (B F : Nat) (v : Value) (bs : List Int) (t : Nat) (ended : Bool) : Prop where
  hF : w.heap[F]? = some (.cells #[v, .int .i64 t, .bool ended] 55)
  own : OwnB w B v bs
  by_ : ∀ x ∈ bs, 0 ≤ x ∧ x ≤ 255
  lo : B ≤ F
  le : B ≤ w.heap.size
theorem Fd.ne {w : World} {B F : Nat} {v : Value} {xs : List Int} {p : Nat} {ended : Bool} (h : Fd w B F v xs p ended) : ∀ g, blk v = some g → g ≠ F := by
  rintro g hg rfl
  obtain ⟨_, cur, hc⟩ := h.own.lt g hg
  rw [h.hF] at hc
  injection hc with hc
  injection hc with _ h2
  exact absurd h2 (by decide)
theorem Fd.lt {w : World} {B F : Nat} {v : Value} {xs : List Int} {p : Nat} {ended : Bool} (h : Fd w B F v xs p ended) : F < w.heap.size ∧ ∀ g, blk v = some g → B ≤ g ∧ g < w.heap.size :=
  ⟨(Array.getElem?_eq_some_iff.1 h.hF).1, fun g hg => ⟨(h.own.lt g hg).1, by obtain ⟨_, hc⟩ := (h.own.lt g hg).2; exact (Array.getElem?_eq_some_iff.1 hc).1⟩⟩
theorem Fd.frv {q : Nat → Prop} {w w' : World} {B F : Nat} {v : Value} {xs : List Int} {p : Nat} {ended : Bool} (h : Fd w B F v xs p ended) (hf : Fr q w w') (hF : ¬ q F) (hv : ∀ g, blk v = some g → ¬ q g) : Fd w' B F v xs p ended :=
  ⟨(hf.block F h.lt.1 hF).trans h.hF, h.own.block (fun g hg => hf.block g (h.lt.2 g hg).2 (hv g hg)), h.by_, h.lo, Nat.le_trans h.le hf.size⟩
theorem Fd.fresh {w w' : World} {B F : Nat} {v : Value} {xs : List Int} {p : Nat} {ended : Bool} (h : Fd w B F v xs p ended) (b : Below w.heap.size w w') : Fd w' B F v xs p ended :=
  h.frv (Fr.of (p := fun _ => False) b) (fun x => x) (fun _ _ x => x)
/-- what the document's Push leaves -/
def PushedR (w : World) (B F : Nat) (v : Value) (bs ys : List Int) (t : Nat) (ended : Bool) (e : Ending) (w' : World) : Prop :=
  e = .returned (.int .i64 (if ended then 5 else 0)) ∧ ∃ v', Fd w' B F v' (if ended then bs else bs ++ ys) t ended ∧ Fr (fun j => j = F ∨ blk v = some j) w w' ∧ (∀ g, blk v' = some g → blk v = some g ∨ w.heap.size ≤ g)
/-- a cell of the Feed stored anew -/
theorem Fd.set {w : World} {B F : Nat} {v : Value} {xs : List Int} {p : Nat} {ended : Bool} (h : Fd w B F v xs p ended) {w' : World} (hf : Fr (fun j => j = F) w w') {p' : Nat} {e' : Bool}
    (hF : w'.heap[F]? = some (.cells #[v, .int .i64 p', .bool e'] 55)) : Fd w' B F v xs p' e' :=
  ⟨hF, h.own.block (fun g hg => hf.block g (h.lt.2 g hg).2 (fun e => h.ne g hg e)), h.by_, h.lo, Nat.le_trans h.le hf.size⟩
set_option maxHeartbeats 1000000 in
theorem pushR_calls (w : World) (B F : Nat) (v : Value) (bs : List Int) (t : Nat) (ended : Bool) (h : Fd w B F v bs t ended) (ao : Option Addr) (m c : Nat) (ys : List Int) (hr : Rd w .u8 ao m c ys) (hby : ∀ x ∈ ys, 0 ≤ x ∧ x ≤ 255) (hnone : ao = none → m = 0 ∧ c = 0) (hlen : bs.length + m ≤ 70368744177664) :
    Calls Tryd.prog 30 #[.pointer (some ⟨F, 0, none⟩), .slice ao m c] w (PushedR w B F v bs ys t ended) := by
  have hne := h.ne
  have hlt := h.lt
  have HM := Lib.hid h
  obtain ⟨hF, hown, hxs, hlo, hle⟩ := h
  obtain ⟨va, vc, rfl, _⟩ := hown.rd
  have k0 : w.cell? ⟨F, 0, none⟩ = some (.slice va bs.length vc) := by simp [World.cell?, hF]
  have k2 : w.cell? ⟨F, 2, none⟩ = some (.bool ended) := by simp [World.cell?, hF]
  unfold PushedR
  go_enter Tryd.func30, Tryd.ntmps30
  cases ended
  · go_wp2_with (at_builtin; refine wpList_bytes _ rfl _ _ rfl B _ bs rfl hown _ _ _ ys rfl hr hnone hlen hle ?_; intro v3 w3 ho3 hf3 hat3; obtain ⟨a3, c3, rfl, _⟩ := ho3.rd; have x3 : w3.heap[F]? = _ := (hf3.block F hlt.1 (fun e => hne F e rfl)).trans hF; have z4 : w3.cell? ⟨F, 0, none⟩ = some (.slice va bs.length vc) := (by simp [World.cell?, x3]); have z5 : w3.frozen? ⟨F, 0, none⟩ = false := (by simp [World.frozen?, x3]))
    go_ret
    rw [List.length_append] at ho3 hat3
    have hfA : Fr (fun j => j = F ∨ blk (.slice va bs.length vc) = some j) w (w3.setCell ⟨F, 0, none⟩ (.slice a3 (bs.length + ys.length) c3)) := (hf3.mono (fun j e => .inr e)).set F 0 _ (.inl rfl)
    refine ⟨rfl, _, ⟨?_, ho3.block (fun g hg => ?_), fun x hx => (List.mem_append.1 hx).elim (hxs x) (hby x), hlo, Nat.le_trans hle hfA.size⟩, hfA, hat3⟩
    · rw [Go.Joins.block_setCell x3]; rfl
    · obtain ⟨_, cur, hc⟩ := ho3.lt g hg
      simp only [World.setCell, Array.getElem?_modify]
      rw [if_neg (fun e => by
        subst e
        rw [x3] at hc
        injection hc with hc
        injection hc with _ h2
        exact absurd h2 (by decide))]
  · go_wp2_with fail
    go_ret
    exact ⟨rfl, _, HM.out, Fr.refl _ _, fun g hg => .inl hg⟩
set_option maxHeartbeats 1000000 in
theorem endR_calls (w : World) (B F : Nat) (v : Value) (bs : List Int) (t : Nat) (ended : Bool) (h : Fd w B F v bs t ended) :
    Calls Tryd.prog 31 #[.pointer (some ⟨F, 0, none⟩)] w fun e w' => e = .returned (.int .i64 (if ended then 5 else 0)) ∧ Fd w' B F v bs t true ∧ Fr (fun j => j = F) w w' := by
  have k2 : w.cell? ⟨F, 2, none⟩ = some (.bool ended) := by simp [World.cell?, h.hF]
  have kf : w.frozen? ⟨F, 2, none⟩ = false := by simp [World.frozen?, h.hF]
  have hm := Lib.hid h
  go_enter Tryd.func31, Tryd.ntmps31
  cases ended
  · go_wp2
    go_ret
    have hf : Fr (fun j => j = F) w (w.setCell ⟨F, 2, none⟩ (.bool true)) := (Fr.refl _ _).set F 2 _ rfl
    exact ⟨rfl, hm.out.set hf (by rw [Go.Joins.block_setCell hm.out.hF]; rfl), hf⟩
  · go_wp2
    go_ret
    exact ⟨rfl, hm.out, Fr.refl _ _⟩
set_option maxHeartbeats 2000000 in
theorem placeR_calls (w : World) (B F : Nat) (v : Value) (bs : List Int) (t : Nat) (ended : Bool) (h : Fd w B F v bs t ended) (i : Nat) (hn : bs.length ≤ 1099511627770) :
    Calls Tryd.prog 42 #[.pointer (some ⟨F, 0, none⟩), .int .i64 i] w fun e w' => e = .returned (.agg #[.int .i64 (plR bs i).1, .int .i64 (plR bs i).2.1, .int .i64 (plR bs i).2.2.1, .int .i64 (plR bs i).2.2.2]) ∧ Below w.heap.size w w' := by
  have b0 : Below w.heap.size w (w.alloc (Obj.cells #[.int .i64 0, .int .i64 0, .int .i64 0, .int .i64 0] 77)) := (Below.refl _ _).alloc (Nat.le_refl _) _
  have y0 := heap_alloc_new w (Obj.cells #[.int .i64 0, .int .i64 0, .int .i64 0, .int .i64 0] 77)
  have h1 := h.fresh b0
  obtain ⟨va, vc, rfl, rd, _⟩ := h1.own.rd
  have k0 : (w.alloc (Obj.cells #[.int .i64 0, .int .i64 0, .int .i64 0, .int .i64 0] 77)).cell? ⟨F, 0, none⟩ = some (.slice va bs.length vc) := by simp [World.cell?, h1.hF]
  have hA := refAt_calls i _ va bs.length vc bs ⟨rd, gt_all rfl h.by_⟩ h.by_ (by omega)
  obtain ⟨q, hq⟩ : ∃ q, Hid (q = plR bs i) := ⟨_, rfl⟩
  rw [show (atB bs i).1 = q from hq.out.symm] at hA
  rw [← hq.out]
  obtain ⟨p1, p2, p3, p4⟩ := q
  simp only [] at hA ⊢
  have HA := Lib.hid hA
  have HB0 := Lib.hid b0
  have HY0 := Lib.hid y0
  clear hA b0 y0 h1 rd
  go_enter Tryd.func42, Tryd.ntmps42
  go_wp2_with fail
  refine HA.out.mono ?_
  rintro e w2 ⟨rfl, b2⟩
  clear HA
  have b3 := b2.alloc b2.size (Obj.cells #[.int .i64 p1, .int .i64 p2, .int .i64 p3, .int .i64 p4] 77)
  have z3 := heap_alloc_new w2 (Obj.cells #[.int .i64 p1, .int .i64 p2, .int .i64 p3, .int .i64 p4] 77)
  have y3 := (b3.block w.heap.size (Array.getElem?_eq_some_iff.1 HY0.out).1).trans HY0.out
  have hb3 := HB0.out.trans (b3.mono HB0.out.size)
  clear b2 b3
  go_upto_region 2 with fail
  generalize w2.alloc (Obj.cells #[.int .i64 p1, .int .i64 p2, .int .i64 p3, .int .i64 p4] 77) = w3 at z3 y3 hb3 ⊢
  obtain ⟨C, hCC⟩ : ∃ C, Hid (C = w2.heap.size) := ⟨_, rfl⟩
  obtain ⟨R, hRR⟩ : ∃ R, Hid (R = w.heap.size) := ⟨_, rfl⟩
  rw [← hCC.out] at z3 ⊢
  rw [← hRR.out] at y3 ⊢
  have c0 : w3.cell? ⟨C, 0, none⟩ = some (.int .i64 p1) := by simp [World.cell?, z3]
  have c1 : w3.cell? ⟨C, 1, none⟩ = some (.int .i64 p2) := by simp [World.cell?, z3]
  have c2 : w3.cell? ⟨C, 2, none⟩ = some (.int .i64 p3) := by simp [World.cell?, z3]
  have c3 : w3.cell? ⟨C, 3, none⟩ = some (.int .i64 p4) := by simp [World.cell?, z3]
  have r0 : w3.cell? ⟨R, 0, none⟩ = some (.int .i64 0) := by simp [World.cell?, y3]
  have r1 : w3.cell? ⟨R, 1, none⟩ = some (.int .i64 0) := by simp [World.cell?, y3]
  have r2 : w3.cell? ⟨R, 2, none⟩ = some (.int .i64 0) := by simp [World.cell?, y3]
  have r3 : w3.cell? ⟨R, 3, none⟩ = some (.int .i64 0) := by simp [World.cell?, y3]
  have rz : ∀ i, w3.frozen? ⟨R, i, none⟩ = false := fun i => by simp [World.frozen?, y3]
  go_wp2
  have hh4 := four_heap y3 (.int .i64 p1) (.int .i64 p2) (.int .i64 p3) (.int .i64 p4)
  have hg4 := four_fr (p := fun j => j = R) (w := w3) (R := R) rfl (.int .i64 p1) (.int .i64 p2) (.int .i64 p3) (.int .i64 p4)
  generalize hV : ((((w3.setCell ⟨R, 0, none⟩ (.int .i64 p1)).setCell ⟨R, 1, none⟩ (.int .i64 p2)).setCell ⟨R, 2, none⟩ (.int .i64 p3)).setCell ⟨R, 3, none⟩ (.int .i64 p4)) = V at hh4 hg4 ⊢
  have j0 : V.cell? ⟨R, 0, none⟩ = some (.int .i64 p1) := by simp [World.cell?, hh4]
  have j1 : V.cell? ⟨R, 1, none⟩ = some (.int .i64 p2) := by simp [World.cell?, hh4]
  have j2 : V.cell? ⟨R, 2, none⟩ = some (.int .i64 p3) := by simp [World.cell?, hh4]
  have j3 : V.cell? ⟨R, 3, none⟩ = some (.int .i64 p4) := by simp [World.cell?, hh4]
  refine ⟨rfl, .agg #[.int .i64 p1, .int .i64 p2, .int .i64 p3, .int .i64 p4], ?_, rfl, hb3.trans (hg4.below hb3.size (fun j e => by have e : j = R := e; have := hRR.out; omega))⟩
  simp [results, Tryd.f42, go_sem, j0, j1, j2, j3]
set_option maxHeartbeats 2000000 in
theorem placeD_calls (w : World) (B F : Nat) (v : Value) (bs : List Int) (t : Nat) (ended : Bool) (h : Fd w B F v bs t ended) (hn : bs.length ≤ 1099511627770) :
    Calls Tryd.prog 37 #[.pointer (some ⟨F, 0, none⟩)] w fun e w' => e = .returned (.agg #[.int .i64 (plR bs t).1, .int .i64 (plR bs t).2.1, .int .i64 (plR bs t).2.2.1, .int .i64 (plR bs t).2.2.2]) ∧ Below w.heap.size w w' := by
  have b0 : Below w.heap.size w (w.alloc (Obj.cells #[.int .i64 0, .int .i64 0, .int .i64 0, .int .i64 0] 77)) := (Below.refl _ _).alloc (Nat.le_refl _) _
  have y0 := heap_alloc_new w (Obj.cells #[.int .i64 0, .int .i64 0, .int .i64 0, .int .i64 0] 77)
  have h1 := h.fresh b0
  have k1 : (w.alloc (Obj.cells #[.int .i64 0, .int .i64 0, .int .i64 0, .int .i64 0] 77)).cell? ⟨F, 1, none⟩ = some (.int .i64 t) := by simp [World.cell?, h1.hF]
  have hA := placeR_calls _ B F v bs t ended h1 t hn
  obtain ⟨q, hq⟩ : ∃ q, Hid (q = plR bs t) := ⟨_, rfl⟩
  rw [← hq.out] at hA ⊢
  obtain ⟨p1, p2, p3, p4⟩ := q
  simp only [] at hA ⊢
  have HA := Lib.hid hA
  have HB0 := Lib.hid b0
  have HY0 := Lib.hid y0
  clear hA b0 y0 h1
  go_enter Tryd.func37, Tryd.ntmps37
  go_wp2_with fail
  refine HA.out.mono ?_
  rintro e w3 ⟨rfl, b2⟩
  clear HA
  have y3 := (b2.block w.heap.size (Array.getElem?_eq_some_iff.1 HY0.out).1).trans HY0.out
  have hb3 := HB0.out.trans (b2.mono HB0.out.size)
  obtain ⟨R, hRR⟩ : ∃ R, Hid (R = w.heap.size) := ⟨_, rfl⟩
  rw [← hRR.out] at y3 ⊢
  have r0 : w3.cell? ⟨R, 0, none⟩ = some (.int .i64 0) := by simp [World.cell?, y3]
  have r1 : w3.cell? ⟨R, 1, none⟩ = some (.int .i64 0) := by simp [World.cell?, y3]
  have r2 : w3.cell? ⟨R, 2, none⟩ = some (.int .i64 0) := by simp [World.cell?, y3]
  have r3 : w3.cell? ⟨R, 3, none⟩ = some (.int .i64 0) := by simp [World.cell?, y3]
  have rz : ∀ i, w3.frozen? ⟨R, i, none⟩ = false := fun i => by simp [World.frozen?, y3]
  clear b2
  go_wp2
  have hh4 := four_heap y3 (.int .i64 p1) (.int .i64 p2) (.int .i64 p3) (.int .i64 p4)
  have hg4 := four_fr (p := fun j => j = R) (w := w3) (R := R) rfl (.int .i64 p1) (.int .i64 p2) (.int .i64 p3) (.int .i64 p4)
  generalize hV : ((((w3.setCell ⟨R, 0, none⟩ (.int .i64 p1)).setCell ⟨R, 1, none⟩ (.int .i64 p2)).setCell ⟨R, 2, none⟩ (.int .i64 p3)).setCell ⟨R, 3, none⟩ (.int .i64 p4)) = V at hh4 hg4 ⊢
  have j0 : V.cell? ⟨R, 0, none⟩ = some (.int .i64 p1) := by simp [World.cell?, hh4]
  have j1 : V.cell? ⟨R, 1, none⟩ = some (.int .i64 p2) := by simp [World.cell?, hh4]
  have j2 : V.cell? ⟨R, 2, none⟩ = some (.int .i64 p3) := by simp [World.cell?, hh4]
  have j3 : V.cell? ⟨R, 3, none⟩ = some (.int .i64 p4) := by simp [World.cell?, hh4]
  refine ⟨rfl, .agg #[.int .i64 p1, .int .i64 p2, .int .i64 p3, .int .i64 p4], ?_, rfl, hb3.trans (hg4.below hb3.size (fun j e => by have e : j = R := e; have := hRR.out; omega))⟩
  simp [results, Tryd.f37, go_sem, j0, j1, j2, j3]
end Go.Proofs.YtpkdbfnnbbkkiaaDoor


/- The walk of the document's Feed.from. -/
namespace Gim
open Go Go.RowKit
def zeroC : Ch6 := (0, (0, 0, 0, 0), 0)
/-- what lies from a byte on, as the document says it -/
def fromB (bs : List Int) (i : Nat) (e : Bool) : Ch6 × Int :=
  if i = bs.length then (zeroC, if e then 3 else 1)
  else if gt bs i = 13 then
    if i + 1 < bs.length ∧ gt bs (i + 1) = 10 then ((10, plR bs i, 2), 0)
    else if i + 1 < bs.length ∨ e = true then ((10, plR bs i, 1), 0) else (zeroC, 1)
  else if (nextB bs i).2.2.1 = 0 then (((nextB bs i).1, plR bs i, (nextB bs i).2.1), 0)
  else if (nextB bs i).2.2.1 = 2 then ((0, plR bs (i + (frontB bs i).1), 0), 2)
  else if e then ((0, plR bs bs.length, 0), 2) else (zeroC, 1)
/-- the document's character in memory -/
def charR (c : Ch6) : Value := .agg #[.int .i64 c.1, .int .i64 c.2.1.1, .int .i64 c.2.1.2.1, .int .i64 c.2.1.2.2.1, .int .i64 c.2.1.2.2.2, .int .i64 c.2.2]
theorem frF_four {xs : List Int} {at_ n : Nat} (hn : n ≤ 4) : ∀ (f k : Nat), k ≤ 4 → frF xs at_ n f k ≤ 4
  | 0, k, h => h
  | f + 1, k, h => by
    rw [frF]
    split
    · exact frF_four hn f (k + 1) (by omega)
    · exact h
theorem front_four (xs : List Int) (i : Nat) : (frontB xs i).1 ≤ 4 := by
  unfold frontB
  split
  · simp
  · split
    · simp
    · exact frF_four (szR_le _) _ 1 (by omega)
theorem nextB_how (xs : List Int) (i : Int) : (nextB xs i).2.2.1 = 0 ∨ (nextB xs i).2.2.1 = 1 ∨ (nextB xs i).2.2.1 = 2 ∨ (nextB xs i).2.2.1 = 3 := by
  unfold nextB
  repeat' split
  all_goals simp
end Gim
namespace Go.Proofs.YtpkdbfnnbbkkiaaDoor
open Go.RowKit Gim
set_option maxRecDepth 100000 in
set_option maxHeartbeats 8000000 in
theorem from_calls (w : World) (B F : Nat) (v : Value) (bs : List Int) (t : Nat) (ended : Bool) (h : Fd w B F v bs t ended) (i : Nat) (hi : i ≤ bs.length) (hn : bs.length ≤ 1099511627770) :
    Calls Tryd.prog 41 #[.pointer (some ⟨F, 0, none⟩), .int .i64 i] w fun E w' => E = .returned (.tuple #[charR (fromB bs i ended).1, .int .i64 (fromB bs i ended).2]) ∧ Below w.heap.size w w' := by
  have b0 : Below w.heap.size w (w.alloc (Obj.cells #[.int .i64 0, .int .i64 0, .int .i64 0, .int .i64 0, .int .i64 0, .int .i64 0] 79)) := (Below.refl _ _).alloc (Nat.le_refl _) _
  have y0 := heap_alloc_new w (Obj.cells #[.int .i64 0, .int .i64 0, .int .i64 0, .int .i64 0, .int .i64 0, .int .i64 0] 79)
  have h1 := h.fresh b0
  obtain ⟨va, vc, rfl, rd, _⟩ := h1.own.rd
  have HBY := Lib.hid h1.by_
  have HRB := Lib.hid (show Rb (w.alloc (Obj.cells #[.int .i64 0, .int .i64 0, .int .i64 0, .int .i64 0, .int .i64 0, .int .i64 0] 79)) va bs.length vc bs from ⟨rd, gt_all rfl h.by_⟩)
  have k0 : (w.alloc (Obj.cells #[.int .i64 0, .int .i64 0, .int .i64 0, .int .i64 0, .int .i64 0, .int .i64 0] 79)).cell? ⟨F, 0, none⟩ = some (.slice va bs.length vc) := by simp [World.cell?, h1.hF]
  have k2 : (w.alloc (Obj.cells #[.int .i64 0, .int .i64 0, .int .i64 0, .int .i64 0, .int .i64 0, .int .i64 0] 79)).cell? ⟨F, 2, none⟩ = some (.bool ended) := by simp [World.cell?, h1.hF]
  have hP := fun j => placeR_calls _ B F _ bs t ended h1 j hn
  have HP := Lib.hid hP
  have HB0 := Lib.hid b0
  have HY0 := Lib.hid y0
  obtain ⟨n, hnn⟩ : ∃ n, Hid (n = bs.length) := ⟨_, rfl⟩
  obtain ⟨fr, hfr⟩ : ∃ fr, Hid (fr = fromB bs i ended) := ⟨_, rfl⟩
  rw [← hfr.out]
  rw [← hnn.out] at hn k0 hi
  have hcl := rd.cap_le
  have hcle := rd.le
  rw [← hnn.out] at hcle
  by_cases hie : i = n
  · have hf : fr = (zeroC, if ended then 3 else 1) := by rw [hfr.out]; unfold fromB; rw [if_pos (by rw [hie, hnn.out])]
    subst hf
    have HIE := Lib.hid hie
    have hib : ((i : Int) == (n : Int)) = true := by simp [hie]
    clear h1 y0 rd b0 hP hie h
    cases ended
    all_goals
      go_enter Tryd.func41, Tryd.ntmps41
      go_wp2_with fail
      have hz6 := HY0.out
      have hbz := HB0.out
      generalize w.alloc (Obj.cells #[.int .i64 0, .int .i64 0, .int .i64 0, .int .i64 0, .int .i64 0, .int .i64 0] 79) = V at hz6 hbz ⊢
      have j0 : V.cell? ⟨w.heap.size, 0, none⟩ = some (.int .i64 0) := by simp [World.cell?, hz6]
      have j1 : V.cell? ⟨w.heap.size, 1, none⟩ = some (.int .i64 0) := by simp [World.cell?, hz6]
      have j2 : V.cell? ⟨w.heap.size, 2, none⟩ = some (.int .i64 0) := by simp [World.cell?, hz6]
      have j3 : V.cell? ⟨w.heap.size, 3, none⟩ = some (.int .i64 0) := by simp [World.cell?, hz6]
      have j4 : V.cell? ⟨w.heap.size, 4, none⟩ = some (.int .i64 0) := by simp [World.cell?, hz6]
      have j5 : V.cell? ⟨w.heap.size, 5, none⟩ = some (.int .i64 0) := by simp [World.cell?, hz6]
      refine ⟨rfl, .tuple #[charR zeroC, .int .i64 _], ?_, rfl, hbz⟩
      simp [results, Tryd.f41, go_sem, j0, j1, j2, j3, j4, j5, charR, zeroC]
  have hib : ((i : Int) == (n : Int)) = false := beq_eq_false_iff_ne.2 (by omega)
  have hlt : i < n := by omega
  have hlt' : (i : Int) < n := by omega
  obtain ⟨g, o, rfl, hg, hc⟩ := rd.cell i (by rw [← hnn.out]; exact hlt)
  have ki := hc i (by rw [← hnn.out]; exact hlt)
  by_cases h13 : gt bs i = 13
  · rw [h13] at ki
    by_cases h10 : i + 1 < n ∧ gt bs (i + 1) = 10
    · have hf : fr = ((10, plR bs i, 2), 0) := by rw [hfr.out]; unfold fromB; rw [if_neg (by rw [← hnn.out]; exact hie), if_pos h13, if_pos (by rw [← hnn.out]; exact h10)]
      subst hf
      have kj := hc (i + 1) (by rw [← hnn.out]; exact h10.1)
      rw [h10.2] at kj
      have hlt2 : (i : Int) + 1 < n := by have := h10.1; omega
      have HQ := HP.out i
      clear h1 y0 rd b0 hP hie h hc h10 h13
      obtain ⟨q, hq⟩ : ∃ q, Hid (q = plR bs i) := ⟨_, rfl⟩
      rw [← hq.out] at HQ ⊢
      obtain ⟨p1, p2, p3, p4⟩ := q
      simp only [] at HQ
      have HQ2 := Lib.hid HQ
      clear HQ
      go_enter Tryd.func41, Tryd.ntmps41
      go_wp2_with fail
      refine HQ2.out.mono ?_
      rintro E w3 ⟨rfl, b3⟩
      clear HQ2
      have y3 := (b3.block w.heap.size (Array.getElem?_eq_some_iff.1 HY0.out).1).trans HY0.out
      have hb3 := HB0.out.trans (b3.mono HB0.out.size)
      obtain ⟨R, hRR⟩ : ∃ R, Hid (R = w.heap.size) := ⟨_, rfl⟩
      rw [← hRR.out] at y3 ⊢
      have r0 : w3.cell? ⟨R, 0, none⟩ = some (.int .i64 0) := by simp [World.cell?, y3]
      have r1 : w3.cell? ⟨R, 1, none⟩ = some (.int .i64 0) := by simp [World.cell?, y3]
      have r2 : w3.cell? ⟨R, 2, none⟩ = some (.int .i64 0) := by simp [World.cell?, y3]
      have r3 : w3.cell? ⟨R, 3, none⟩ = some (.int .i64 0) := by simp [World.cell?, y3]
      have r4 : w3.cell? ⟨R, 4, none⟩ = some (.int .i64 0) := by simp [World.cell?, y3]
      have r5 : w3.cell? ⟨R, 5, none⟩ = some (.int .i64 0) := by simp [World.cell?, y3]
      have rz : ∀ i, w3.frozen? ⟨R, i, none⟩ = false := fun i => by simp [World.frozen?, y3]
      clear b3
      go_wp2
      have hh6 := six_heap y3 (.int .i64 10) (.int .i64 p1) (.int .i64 p2) (.int .i64 p3) (.int .i64 p4) (.int .i64 2)
      have hg6 := six_fr (p := fun j => j = R) (w := w3) (R := R) rfl (.int .i64 10) (.int .i64 p1) (.int .i64 p2) (.int .i64 p3) (.int .i64 p4) (.int .i64 2)
      generalize hV : ((((((w3.setCell ⟨R, 0, none⟩ (.int .i64 10)).setCell ⟨R, 1, none⟩ (.int .i64 p1)).setCell ⟨R, 2, none⟩ (.int .i64 p2)).setCell ⟨R, 3, none⟩ (.int .i64 p3)).setCell ⟨R, 4, none⟩ (.int .i64 p4)).setCell ⟨R, 5, none⟩ (.int .i64 2)) = V at hh6 hg6 ⊢
      have j0 : V.cell? ⟨R, 0, none⟩ = some (.int .i64 10) := by simp [World.cell?, hh6]
      have j1 : V.cell? ⟨R, 1, none⟩ = some (.int .i64 p1) := by simp [World.cell?, hh6]
      have j2 : V.cell? ⟨R, 2, none⟩ = some (.int .i64 p2) := by simp [World.cell?, hh6]
      have j3 : V.cell? ⟨R, 3, none⟩ = some (.int .i64 p3) := by simp [World.cell?, hh6]
      have j4 : V.cell? ⟨R, 4, none⟩ = some (.int .i64 p4) := by simp [World.cell?, hh6]
      have j5 : V.cell? ⟨R, 5, none⟩ = some (.int .i64 2) := by simp [World.cell?, hh6]
      refine ⟨rfl, .tuple #[.agg #[.int .i64 10, .int .i64 p1, .int .i64 p2, .int .i64 p3, .int .i64 p4, .int .i64 2], .int .i64 0], ?_, rfl, hb3.trans (hg6.below hb3.size (fun j e => by have e : j = R := e; have := hRR.out; omega))⟩
      simp [results, Tryd.f41, go_sem, j0, j1, j2, j3, j4, j5]
    · by_cases hlf : i + 1 < n
      · have hf : fr = ((10, plR bs i, 1), 0) := by rw [hfr.out]; unfold fromB; rw [if_neg (by rw [← hnn.out]; exact hie), if_pos h13, if_neg (by rw [← hnn.out]; exact h10), if_pos (.inl (by rw [← hnn.out]; exact hlf))]
        subst hf
        have kj := hc (i + 1) (by rw [← hnn.out]; exact hlf)
        have hz : (gt bs (i + 1) == 10) = false := beq_eq_false_iff_ne.2 (fun hh => h10 ⟨hlf, hh⟩)
        obtain ⟨z, hzz⟩ : ∃ z, Hid (z = gt bs (i + 1)) := ⟨_, rfl⟩
        rw [← hzz.out] at kj hz
        have hlt2 : (i : Int) + 1 < n := by omega
        have HQ := HP.out i
        clear h1 y0 rd b0 hP hie h hc h10 h13
        obtain ⟨q, hq⟩ : ∃ q, Hid (q = plR bs i) := ⟨_, rfl⟩
        rw [← hq.out] at HQ ⊢
        obtain ⟨p1, p2, p3, p4⟩ := q
        simp only [] at HQ
        have HQ2 := Lib.hid HQ
        clear HQ
        go_enter Tryd.func41, Tryd.ntmps41
        go_wp2_with fail
        refine HQ2.out.mono ?_
        rintro E w3 ⟨rfl, b3⟩
        clear HQ2
        have y3 := (b3.block w.heap.size (Array.getElem?_eq_some_iff.1 HY0.out).1).trans HY0.out
        have hb3 := HB0.out.trans (b3.mono HB0.out.size)
        obtain ⟨R, hRR⟩ : ∃ R, Hid (R = w.heap.size) := ⟨_, rfl⟩
        rw [← hRR.out] at y3 ⊢
        have r0 : w3.cell? ⟨R, 0, none⟩ = some (.int .i64 0) := by simp [World.cell?, y3]
        have r1 : w3.cell? ⟨R, 1, none⟩ = some (.int .i64 0) := by simp [World.cell?, y3]
        have r2 : w3.cell? ⟨R, 2, none⟩ = some (.int .i64 0) := by simp [World.cell?, y3]
        have r3 : w3.cell? ⟨R, 3, none⟩ = some (.int .i64 0) := by simp [World.cell?, y3]
        have r4 : w3.cell? ⟨R, 4, none⟩ = some (.int .i64 0) := by simp [World.cell?, y3]
        have r5 : w3.cell? ⟨R, 5, none⟩ = some (.int .i64 0) := by simp [World.cell?, y3]
        have rz : ∀ i, w3.frozen? ⟨R, i, none⟩ = false := fun i => by simp [World.frozen?, y3]
        clear b3
        go_wp2
        have hh6 := six_heap y3 (.int .i64 10) (.int .i64 p1) (.int .i64 p2) (.int .i64 p3) (.int .i64 p4) (.int .i64 1)
        have hg6 := six_fr (p := fun j => j = R) (w := w3) (R := R) rfl (.int .i64 10) (.int .i64 p1) (.int .i64 p2) (.int .i64 p3) (.int .i64 p4) (.int .i64 1)
        generalize hV : ((((((w3.setCell ⟨R, 0, none⟩ (.int .i64 10)).setCell ⟨R, 1, none⟩ (.int .i64 p1)).setCell ⟨R, 2, none⟩ (.int .i64 p2)).setCell ⟨R, 3, none⟩ (.int .i64 p3)).setCell ⟨R, 4, none⟩ (.int .i64 p4)).setCell ⟨R, 5, none⟩ (.int .i64 1)) = V at hh6 hg6 ⊢
        have j0 : V.cell? ⟨R, 0, none⟩ = some (.int .i64 10) := by simp [World.cell?, hh6]
        have j1 : V.cell? ⟨R, 1, none⟩ = some (.int .i64 p1) := by simp [World.cell?, hh6]
        have j2 : V.cell? ⟨R, 2, none⟩ = some (.int .i64 p2) := by simp [World.cell?, hh6]
        have j3 : V.cell? ⟨R, 3, none⟩ = some (.int .i64 p3) := by simp [World.cell?, hh6]
        have j4 : V.cell? ⟨R, 4, none⟩ = some (.int .i64 p4) := by simp [World.cell?, hh6]
        have j5 : V.cell? ⟨R, 5, none⟩ = some (.int .i64 1) := by simp [World.cell?, hh6]
        refine ⟨rfl, .tuple #[.agg #[.int .i64 10, .int .i64 p1, .int .i64 p2, .int .i64 p3, .int .i64 p4, .int .i64 1], .int .i64 0], ?_, rfl, hb3.trans (hg6.below hb3.size (fun j e => by have e : j = R := e; have := hRR.out; omega))⟩
        simp [results, Tryd.f41, go_sem, j0, j1, j2, j3, j4, j5]
      · have hlt2 : ¬ (i : Int) + 1 < n := by omega
        cases ended
        · have hf : fr = (zeroC, 1) := by rw [hfr.out]; unfold fromB; rw [if_neg (by rw [← hnn.out]; exact hie), if_pos h13, if_neg (by rw [← hnn.out]; exact h10), if_neg (by rw [← hnn.out]; simp; omega)]
          subst hf
          clear h1 y0 rd b0 hP hie h hc h10 h13
          go_enter Tryd.func41, Tryd.ntmps41
          go_wp2_with fail
          have hz6 := HY0.out
          have hbz := HB0.out
          generalize w.alloc (Obj.cells #[.int .i64 0, .int .i64 0, .int .i64 0, .int .i64 0, .int .i64 0, .int .i64 0] 79) = V at hz6 hbz ⊢
          have j0 : V.cell? ⟨w.heap.size, 0, none⟩ = some (.int .i64 0) := by simp [World.cell?, hz6]
          have j1 : V.cell? ⟨w.heap.size, 1, none⟩ = some (.int .i64 0) := by simp [World.cell?, hz6]
          have j2 : V.cell? ⟨w.heap.size, 2, none⟩ = some (.int .i64 0) := by simp [World.cell?, hz6]
          have j3 : V.cell? ⟨w.heap.size, 3, none⟩ = some (.int .i64 0) := by simp [World.cell?, hz6]
          have j4 : V.cell? ⟨w.heap.size, 4, none⟩ = some (.int .i64 0) := by simp [World.cell?, hz6]
          have j5 : V.cell? ⟨w.heap.size, 5, none⟩ = some (.int .i64 0) := by simp [World.cell?, hz6]
          refine ⟨rfl, .tuple #[charR zeroC, .int .i64 _], ?_, rfl, hbz⟩
          simp [results, Tryd.f41, go_sem, j0, j1, j2, j3, j4, j5, charR, zeroC]
        · have hf : fr = ((10, plR bs i, 1), 0) := by rw [hfr.out]; unfold fromB; rw [if_neg (by rw [← hnn.out]; exact hie), if_pos h13, if_neg (by rw [← hnn.out]; exact h10), if_pos (.inr rfl)]
          subst hf
          have HQ := HP.out i
          clear h1 y0 rd b0 hP hie h hc h10 h13
          obtain ⟨q, hq⟩ : ∃ q, Hid (q = plR bs i) := ⟨_, rfl⟩
          rw [← hq.out] at HQ ⊢
          obtain ⟨p1, p2, p3, p4⟩ := q
          simp only [] at HQ
          have HQ2 := Lib.hid HQ
          clear HQ
          go_enter Tryd.func41, Tryd.ntmps41
          go_wp2_with fail
          refine HQ2.out.mono ?_
          rintro E w3 ⟨rfl, b3⟩
          clear HQ2
          have y3 := (b3.block w.heap.size (Array.getElem?_eq_some_iff.1 HY0.out).1).trans HY0.out
          have hb3 := HB0.out.trans (b3.mono HB0.out.size)
          obtain ⟨R, hRR⟩ : ∃ R, Hid (R = w.heap.size) := ⟨_, rfl⟩
          rw [← hRR.out] at y3 ⊢
          have r0 : w3.cell? ⟨R, 0, none⟩ = some (.int .i64 0) := by simp [World.cell?, y3]
          have r1 : w3.cell? ⟨R, 1, none⟩ = some (.int .i64 0) := by simp [World.cell?, y3]
          have r2 : w3.cell? ⟨R, 2, none⟩ = some (.int .i64 0) := by simp [World.cell?, y3]
          have r3 : w3.cell? ⟨R, 3, none⟩ = some (.int .i64 0) := by simp [World.cell?, y3]
          have r4 : w3.cell? ⟨R, 4, none⟩ = some (.int .i64 0) := by simp [World.cell?, y3]
          have r5 : w3.cell? ⟨R, 5, none⟩ = some (.int .i64 0) := by simp [World.cell?, y3]
          have rz : ∀ i, w3.frozen? ⟨R, i, none⟩ = false := fun i => by simp [World.frozen?, y3]
          clear b3
          go_wp2
          have hh6 := six_heap y3 (.int .i64 10) (.int .i64 p1) (.int .i64 p2) (.int .i64 p3) (.int .i64 p4) (.int .i64 1)
          have hg6 := six_fr (p := fun j => j = R) (w := w3) (R := R) rfl (.int .i64 10) (.int .i64 p1) (.int .i64 p2) (.int .i64 p3) (.int .i64 p4) (.int .i64 1)
          generalize hV : ((((((w3.setCell ⟨R, 0, none⟩ (.int .i64 10)).setCell ⟨R, 1, none⟩ (.int .i64 p1)).setCell ⟨R, 2, none⟩ (.int .i64 p2)).setCell ⟨R, 3, none⟩ (.int .i64 p3)).setCell ⟨R, 4, none⟩ (.int .i64 p4)).setCell ⟨R, 5, none⟩ (.int .i64 1)) = V at hh6 hg6 ⊢
          have j0 : V.cell? ⟨R, 0, none⟩ = some (.int .i64 10) := by simp [World.cell?, hh6]
          have j1 : V.cell? ⟨R, 1, none⟩ = some (.int .i64 p1) := by simp [World.cell?, hh6]
          have j2 : V.cell? ⟨R, 2, none⟩ = some (.int .i64 p2) := by simp [World.cell?, hh6]
          have j3 : V.cell? ⟨R, 3, none⟩ = some (.int .i64 p3) := by simp [World.cell?, hh6]
          have j4 : V.cell? ⟨R, 4, none⟩ = some (.int .i64 p4) := by simp [World.cell?, hh6]
          have j5 : V.cell? ⟨R, 5, none⟩ = some (.int .i64 1) := by simp [World.cell?, hh6]
          refine ⟨rfl, .tuple #[.agg #[.int .i64 10, .int .i64 p1, .int .i64 p2, .int .i64 p3, .int .i64 p4, .int .i64 1], .int .i64 0], ?_, rfl, hb3.trans (hg6.below hb3.size (fun j e => by have e : j = R := e; have := hRR.out; omega))⟩
          simp [results, Tryd.f41, go_sem, j0, j1, j2, j3, j4, j5]
  · have h13b : (gt bs i == 13) = false := beq_eq_false_iff_ne.2 h13
    obtain ⟨z, hzz⟩ : ∃ z, Hid (z = gt bs i) := ⟨_, rfl⟩
    rw [← hzz.out] at ki h13b
    have hN := refNext_calls i _ _ _ _ _ HRB.out HBY.out (by rw [← hnn.out]; omega)
    rw [← hnn.out] at hN
    have hhow := nextB_how bs i
    have hh3 : (nextB bs i).2.2.1 ≠ 3 := by
      unfold nextB
      rw [if_neg (by rw [← hnn.out]; omega), if_neg (by rw [← hnn.out]; omega)]
      repeat' split
      all_goals simp
    have hf : fr = (if (nextB bs i).2.2.1 = 0 then (((nextB bs i).1, plR bs i, (nextB bs i).2.1), 0)
        else if (nextB bs i).2.2.1 = 2 then ((0, plR bs (i + (frontB bs i).1), 0), 2)
        else if ended then ((0, plR bs bs.length, 0), 2) else (zeroC, 1)) := by rw [hfr.out]; unfold fromB; rw [if_neg (by rw [← hnn.out]; exact hie), if_neg h13]
    obtain ⟨nx, hnx⟩ : ∃ nx, Hid (nx = nextB bs i) := ⟨_, rfl⟩
    rw [← hnx.out] at hN hhow hh3 hf
    obtain ⟨nr, nw, nh, ne⟩ := nx
    simp only [] at hN hhow hh3 hf
    have HN := Lib.hid hN
    by_cases hh0 : nh = 0
    · subst hh0
      rw [if_pos rfl] at hf
      subst hf
      have HQ := HP.out i
      clear h1 y0 rd b0 hP hie h hc h13 hN hhow hh3
      obtain ⟨q, hq⟩ : ∃ q, Hid (q = plR bs i) := ⟨_, rfl⟩
      rw [← hq.out] at HQ ⊢
      obtain ⟨p1, p2, p3, p4⟩ := q
      simp only [] at HQ
      have HQ2 := Lib.hid HQ
      clear HQ
      go_enter Tryd.func41, Tryd.ntmps41
      go_wp2_with fail
      refine HN.out.mono ?_
      rintro E w2 ⟨rfl, rfl⟩
      go_wp2_with fail
      refine HQ2.out.mono ?_
      rintro E w3 ⟨rfl, b3⟩
      clear HQ2
      have y3 := (b3.block w.heap.size (Array.getElem?_eq_some_iff.1 HY0.out).1).trans HY0.out
      have hb3 := HB0.out.trans (b3.mono HB0.out.size)
      obtain ⟨R, hRR⟩ : ∃ R, Hid (R = w.heap.size) := ⟨_, rfl⟩
      rw [← hRR.out] at y3 ⊢
      have r0 : w3.cell? ⟨R, 0, none⟩ = some (.int .i64 0) := by simp [World.cell?, y3]
      have r1 : w3.cell? ⟨R, 1, none⟩ = some (.int .i64 0) := by simp [World.cell?, y3]
      have r2 : w3.cell? ⟨R, 2, none⟩ = some (.int .i64 0) := by simp [World.cell?, y3]
      have r3 : w3.cell? ⟨R, 3, none⟩ = some (.int .i64 0) := by simp [World.cell?, y3]
      have r4 : w3.cell? ⟨R, 4, none⟩ = some (.int .i64 0) := by simp [World.cell?, y3]
      have r5 : w3.cell? ⟨R, 5, none⟩ = some (.int .i64 0) := by simp [World.cell?, y3]
      have rz : ∀ i, w3.frozen? ⟨R, i, none⟩ = false := fun i => by simp [World.frozen?, y3]
      clear b3
      go_wp2
      have hh6 := six_heap y3 (.int .i64 nr) (.int .i64 p1) (.int .i64 p2) (.int .i64 p3) (.int .i64 p4) (.int .i64 nw)
      have hg6 := six_fr (p := fun j => j = R) (w := w3) (R := R) rfl (.int .i64 nr) (.int .i64 p1) (.int .i64 p2) (.int .i64 p3) (.int .i64 p4) (.int .i64 nw)
      generalize hV : ((((((w3.setCell ⟨R, 0, none⟩ (.int .i64 nr)).setCell ⟨R, 1, none⟩ (.int .i64 p1)).setCell ⟨R, 2, none⟩ (.int .i64 p2)).setCell ⟨R, 3, none⟩ (.int .i64 p3)).setCell ⟨R, 4, none⟩ (.int .i64 p4)).setCell ⟨R, 5, none⟩ (.int .i64 nw)) = V at hh6 hg6 ⊢
      have j0 : V.cell? ⟨R, 0, none⟩ = some (.int .i64 nr) := by simp [World.cell?, hh6]
      have j1 : V.cell? ⟨R, 1, none⟩ = some (.int .i64 p1) := by simp [World.cell?, hh6]
      have j2 : V.cell? ⟨R, 2, none⟩ = some (.int .i64 p2) := by simp [World.cell?, hh6]
      have j3 : V.cell? ⟨R, 3, none⟩ = some (.int .i64 p3) := by simp [World.cell?, hh6]
      have j4 : V.cell? ⟨R, 4, none⟩ = some (.int .i64 p4) := by simp [World.cell?, hh6]
      have j5 : V.cell? ⟨R, 5, none⟩ = some (.int .i64 nw) := by simp [World.cell?, hh6]
      refine ⟨rfl, .tuple #[.agg #[.int .i64 nr, .int .i64 p1, .int .i64 p2, .int .i64 p3, .int .i64 p4, .int .i64 nw], .int .i64 0], ?_, rfl, hb3.trans (hg6.below hb3.size (fun j e => by have e : j = R := e; have := hRR.out; omega))⟩
      simp [results, Tryd.f41, go_sem, j0, j1, j2, j3, j4, j5]
    · rw [if_neg hh0] at hf
      have hb0 : (nh == 0) = false := beq_eq_false_iff_ne.2 hh0
      by_cases hh2 : nh = 2
      · subst hh2
        rw [if_pos rfl] at hf
        subst hf
        have hFT := front_calls _ _ _ _ _ HRB.out i (by rw [← hnn.out]; omega)
        rw [← hnn.out] at hFT
        obtain ⟨fb, hfb⟩ : ∃ fb, Hid (fb = frontB bs i) := ⟨_, rfl⟩
        rw [← hfb.out] at hFT ⊢
        obtain ⟨k1, k3⟩ := fb
        have hk4 : k1 ≤ 4 := by have h1 := front_four bs i; rw [← hfb.out] at h1; exact h1
        simp only [] at hFT ⊢
        have HFT := Lib.hid hFT
        have HQ := HP.out (i + k1)
        rw [show ((i + k1 : Nat) : Int) = (i : Int) + k1 from by omega] at HQ
        clear h1 y0 rd b0 hP hie h hc h13 hN hhow hh3 hFT hh0
        obtain ⟨q, hq⟩ : ∃ q, Hid (q = plR bs (i + k1)) := ⟨_, rfl⟩
        rw [← hq.out] at HQ ⊢
        obtain ⟨p1, p2, p3, p4⟩ := q
        simp only [] at HQ
        have HQ2 := Lib.hid HQ
        clear HQ
        go_enter Tryd.func41, Tryd.ntmps41
        go_wp2_with fail
        refine HN.out.mono ?_
        rintro E w2 ⟨rfl, rfl⟩
        go_wp2_with fail
        refine HFT.out.mono ?_
        rintro E w2 ⟨rfl, rfl⟩
        go_wp2_with fail
        refine HQ2.out.mono ?_
        rintro E w3 ⟨rfl, b3⟩
        clear HQ2
        have y3 := (b3.block w.heap.size (Array.getElem?_eq_some_iff.1 HY0.out).1).trans HY0.out
        have hb3 := HB0.out.trans (b3.mono HB0.out.size)
        obtain ⟨R, hRR⟩ : ∃ R, Hid (R = w.heap.size) := ⟨_, rfl⟩
        rw [← hRR.out] at y3 ⊢
        have r0 : w3.cell? ⟨R, 0, none⟩ = some (.int .i64 0) := by simp [World.cell?, y3]
        have r1 : w3.cell? ⟨R, 1, none⟩ = some (.int .i64 0) := by simp [World.cell?, y3]
        have r2 : w3.cell? ⟨R, 2, none⟩ = some (.int .i64 0) := by simp [World.cell?, y3]
        have r3 : w3.cell? ⟨R, 3, none⟩ = some (.int .i64 0) := by simp [World.cell?, y3]
        have r4 : w3.cell? ⟨R, 4, none⟩ = some (.int .i64 0) := by simp [World.cell?, y3]
        have r5 : w3.cell? ⟨R, 5, none⟩ = some (.int .i64 0) := by simp [World.cell?, y3]
        have rz : ∀ i, w3.frozen? ⟨R, i, none⟩ = false := fun i => by simp [World.frozen?, y3]
        clear b3
        go_wp2
        have hh6 := six_heap y3 (.int .i64 0) (.int .i64 p1) (.int .i64 p2) (.int .i64 p3) (.int .i64 p4) (.int .i64 0)
        have hg6 := six_fr (p := fun j => j = R) (w := w3) (R := R) rfl (.int .i64 0) (.int .i64 p1) (.int .i64 p2) (.int .i64 p3) (.int .i64 p4) (.int .i64 0)
        generalize hV : ((((((w3.setCell ⟨R, 0, none⟩ (.int .i64 0)).setCell ⟨R, 1, none⟩ (.int .i64 p1)).setCell ⟨R, 2, none⟩ (.int .i64 p2)).setCell ⟨R, 3, none⟩ (.int .i64 p3)).setCell ⟨R, 4, none⟩ (.int .i64 p4)).setCell ⟨R, 5, none⟩ (.int .i64 0)) = V at hh6 hg6 ⊢
        have j0 : V.cell? ⟨R, 0, none⟩ = some (.int .i64 0) := by simp [World.cell?, hh6]
        have j1 : V.cell? ⟨R, 1, none⟩ = some (.int .i64 p1) := by simp [World.cell?, hh6]
        have j2 : V.cell? ⟨R, 2, none⟩ = some (.int .i64 p2) := by simp [World.cell?, hh6]
        have j3 : V.cell? ⟨R, 3, none⟩ = some (.int .i64 p3) := by simp [World.cell?, hh6]
        have j4 : V.cell? ⟨R, 4, none⟩ = some (.int .i64 p4) := by simp [World.cell?, hh6]
        have j5 : V.cell? ⟨R, 5, none⟩ = some (.int .i64 0) := by simp [World.cell?, hh6]
        refine ⟨rfl, .tuple #[.agg #[.int .i64 0, .int .i64 p1, .int .i64 p2, .int .i64 p3, .int .i64 p4, .int .i64 0], .int .i64 2], ?_, rfl, hb3.trans (hg6.below hb3.size (fun j e => by have e : j = R := e; have := hRR.out; omega))⟩
        simp [results, Tryd.f41, go_sem, j0, j1, j2, j3, j4, j5]
      · rw [if_neg hh2] at hf
        have hb2 : (nh == 2) = false := beq_eq_false_iff_ne.2 hh2
        obtain rfl : nh = 1 := by omega
        cases ended
        · rw [if_neg (by decide)] at hf
          subst hf
          clear h1 y0 rd b0 hP hie h hc h13 hN hhow hh3 hh0 hh2
          go_enter Tryd.func41, Tryd.ntmps41
          go_wp2_with fail
          refine HN.out.mono ?_
          rintro E w2 ⟨rfl, rfl⟩
          go_wp2_with fail
          have hz6 := HY0.out
          have hbz := HB0.out
          generalize w.alloc (Obj.cells #[.int .i64 0, .int .i64 0, .int .i64 0, .int .i64 0, .int .i64 0, .int .i64 0] 79) = V at hz6 hbz ⊢
          have j0 : V.cell? ⟨w.heap.size, 0, none⟩ = some (.int .i64 0) := by simp [World.cell?, hz6]
          have j1 : V.cell? ⟨w.heap.size, 1, none⟩ = some (.int .i64 0) := by simp [World.cell?, hz6]
          have j2 : V.cell? ⟨w.heap.size, 2, none⟩ = some (.int .i64 0) := by simp [World.cell?, hz6]
          have j3 : V.cell? ⟨w.heap.size, 3, none⟩ = some (.int .i64 0) := by simp [World.cell?, hz6]
          have j4 : V.cell? ⟨w.heap.size, 4, none⟩ = some (.int .i64 0) := by simp [World.cell?, hz6]
          have j5 : V.cell? ⟨w.heap.size, 5, none⟩ = some (.int .i64 0) := by simp [World.cell?, hz6]
          refine ⟨rfl, .tuple #[charR zeroC, .int .i64 _], ?_, rfl, hbz⟩
          simp [results, Tryd.f41, go_sem, j0, j1, j2, j3, j4, j5, charR, zeroC]
        · rw [if_pos rfl, ← hnn.out] at hf
          subst hf
          have HQ := HP.out n
          clear h1 y0 rd b0 hP hie h hc h13 hN hhow hh3 hh0 hh2
          obtain ⟨q, hq⟩ : ∃ q, Hid (q = plR bs n) := ⟨_, rfl⟩
          rw [← hq.out] at HQ ⊢
          obtain ⟨p1, p2, p3, p4⟩ := q
          simp only [] at HQ
          have HQ2 := Lib.hid HQ
          clear HQ
          go_enter Tryd.func41, Tryd.ntmps41
          go_wp2_with fail
          refine HN.out.mono ?_
          rintro E w2 ⟨rfl, rfl⟩
          go_wp2_with fail
          refine HQ2.out.mono ?_
          rintro E w3 ⟨rfl, b3⟩
          clear HQ2
          have y3 := (b3.block w.heap.size (Array.getElem?_eq_some_iff.1 HY0.out).1).trans HY0.out
          have hb3 := HB0.out.trans (b3.mono HB0.out.size)
          obtain ⟨R, hRR⟩ : ∃ R, Hid (R = w.heap.size) := ⟨_, rfl⟩
          rw [← hRR.out] at y3 ⊢
          have r0 : w3.cell? ⟨R, 0, none⟩ = some (.int .i64 0) := by simp [World.cell?, y3]
          have r1 : w3.cell? ⟨R, 1, none⟩ = some (.int .i64 0) := by simp [World.cell?, y3]
          have r2 : w3.cell? ⟨R, 2, none⟩ = some (.int .i64 0) := by simp [World.cell?, y3]
          have r3 : w3.cell? ⟨R, 3, none⟩ = some (.int .i64 0) := by simp [World.cell?, y3]
          have r4 : w3.cell? ⟨R, 4, none⟩ = some (.int .i64 0) := by simp [World.cell?, y3]
          have r5 : w3.cell? ⟨R, 5, none⟩ = some (.int .i64 0) := by simp [World.cell?, y3]
          have rz : ∀ i, w3.frozen? ⟨R, i, none⟩ = false := fun i => by simp [World.frozen?, y3]
          clear b3
          go_wp2
          have hh6 := six_heap y3 (.int .i64 0) (.int .i64 p1) (.int .i64 p2) (.int .i64 p3) (.int .i64 p4) (.int .i64 0)
          have hg6 := six_fr (p := fun j => j = R) (w := w3) (R := R) rfl (.int .i64 0) (.int .i64 p1) (.int .i64 p2) (.int .i64 p3) (.int .i64 p4) (.int .i64 0)
          generalize hV : ((((((w3.setCell ⟨R, 0, none⟩ (.int .i64 0)).setCell ⟨R, 1, none⟩ (.int .i64 p1)).setCell ⟨R, 2, none⟩ (.int .i64 p2)).setCell ⟨R, 3, none⟩ (.int .i64 p3)).setCell ⟨R, 4, none⟩ (.int .i64 p4)).setCell ⟨R, 5, none⟩ (.int .i64 0)) = V at hh6 hg6 ⊢
          have j0 : V.cell? ⟨R, 0, none⟩ = some (.int .i64 0) := by simp [World.cell?, hh6]
          have j1 : V.cell? ⟨R, 1, none⟩ = some (.int .i64 p1) := by simp [World.cell?, hh6]
          have j2 : V.cell? ⟨R, 2, none⟩ = some (.int .i64 p2) := by simp [World.cell?, hh6]
          have j3 : V.cell? ⟨R, 3, none⟩ = some (.int .i64 p3) := by simp [World.cell?, hh6]
          have j4 : V.cell? ⟨R, 4, none⟩ = some (.int .i64 p4) := by simp [World.cell?, hh6]
          have j5 : V.cell? ⟨R, 5, none⟩ = some (.int .i64 0) := by simp [World.cell?, hh6]
          refine ⟨rfl, .tuple #[.agg #[.int .i64 0, .int .i64 p1, .int .i64 p2, .int .i64 p3, .int .i64 p4, .int .i64 0], .int .i64 2], ?_, rfl, hb3.trans (hg6.below hb3.size (fun j e => by have e : j = R := e; have := hRR.out; omega))⟩
          simp [results, Tryd.f41, go_sem, j0, j1, j2, j3, j4, j5]
end Go.Proofs.YtpkdbfnnbbkkiaaDoor


/- The Feed and the document's Feed, call by call: plain. -/
namespace Gim
open Go Go.Lib
theorem unb_bz (l : List UInt8) : unb (bz l) = l := by
  unfold unb bz
  rw [List.map_map]
  exact (List.map_congr_left (fun a _ => by simp [Function.comp])).trans (List.map_id _)
theorem unb_app (a b : List Int) : unb (a ++ b) = unb a ++ unb b := by unfold unb; exact List.map_append
theorem bz_enc_length (l : List UInt8) : (bz l).length = l.length := by simp [bz]
theorem head_app {xs : List Int} (ys : List Int) (h : xs ≠ []) : (xs ++ ys).head? = xs.head? := by
  cases xs with
  | nil => exact absurd rfl h
  | cons a l => rfl
theorem last_app (xs : List Int) {ys : List Int} (h : ys ≠ []) : (xs ++ ys).getLast? = ys.getLast? := by
  rw [List.getLast?_append]
  cases hy : ys.getLast? with
  | none => exact absurd (List.getLast?_eq_none_iff.1 hy) h
  | some a => rfl
theorem head_gt {ys : List Int} (h : ys ≠ []) : ys.head? = some (gt ys 0) := by
  cases ys with
  | nil => exact absurd rfl h
  | cons y ys => simp [gt]
/-- the line's end at a character, other bytes behind the characters -/
theorem lineEnd_pre {xs ys : List Int} {p : Nat} {r : Int} {m : List Int} (hp : p ≤ xs.length) (h : xs.drop p = bz (encs (r :: m)) ++ ys) (hc : ∀ x ∈ r :: m, Ch x) : lineEnd xs p r = endC r (m.head?.or ys.head?) := by
  unfold lineEnd endC
  by_cases h10 : r = 10
  · simp [h10]
  by_cases h13 : r = 13
  · subst h13
    have e13 : enc 13 = [13] := by decide
    have hd : xs.drop (p + 1) = bz (encs m) ++ ys := by
      rw [← List.drop_drop, h, encs_cons, e13]; simp [bz]
    have hl := congrArg List.length hd
    rw [List.length_drop] at hl
    cases m with
    | nil =>
      have hd : xs.drop (p + 1) = ys := by simpa [encs, bz] using hd
      cases ys with
      | nil =>
        have hn : ¬ p + 1 < xs.length := by simp [encs, bz] at hl; omega
        simp [hn]
      | cons y ys =>
        have hn : p + 1 < xs.length := by simp [encs, bz] at hl; omega
        have hg : gt xs (p + 1) = y := by
          have h0 := congrArg (fun l => gt l 0) hd
          rw [drop_gt hn] at h0
          simpa [gt] using h0
        have hq : (y == 10) = decide (y = 10) := rfl
        simp [hn, hg, hq]
    | cons c m =>
      obtain ⟨b, t, he, hb⟩ := enc_first (hc c (by simp))
      rw [encs_cons, he] at hd hl
      have hn : p + 1 < xs.length := by simp [bz] at hl; omega
      have hg : gt xs (p + 1) = (b.toNat : Int) := by
        have h0 := congrArg (fun l => gt l 0) hd
        rw [drop_gt hn] at h0
        simpa [gt, bz] using h0
      rw [hg]
      have hq : (c == 10) = decide (c = 10) := rfl
      simp [hn, hb, hq]
  · simp [h10, h13]
theorem fold_pre {xs ys : List Int} : ∀ (l : List Int) (p : Nat) (st : Int × Int × Int), (∀ x ∈ l, Ch x) → p ≤ xs.length → xs.drop p = bz (encs l) ++ ys → (placed p l).foldl (stepP xs) st = fC l ys.head? st
  | [], _, _, _, _, _ => rfl
  | r :: l, p, st, hc, hp, h => by
    have hle := lineEnd_pre hp h hc
    have hl := congrArg List.length h
    have h2 : xs.drop (p + (enc r).length) = bz (encs l) ++ ys := by
      rw [← List.drop_drop, h, encs_cons, bz_append, List.append_assoc, show (enc r).length = (bz (enc r)).length by simp [bz], List.drop_left]
    have hp2 : p + (enc r).length ≤ xs.length := by
      rw [List.length_drop, encs_cons] at hl; simp [bz] at hl; omega
    rw [placed, List.foldl_cons, fold_pre l _ _ (fun x hx => hc x (List.mem_cons_of_mem _ hx)) hp2 h2, fC]
    congr 1
    unfold stepP stepC
    simp only [hle]
theorem prAt_pre : ∀ {l : List Int}, (∀ r ∈ l, Ch r) → ∀ {s : ByteArray} {p : Nat} {t : List UInt8}, s.data.toList.drop p = encs l ++ t → prAt s p = placed p l ++ prAt s (p + (encs l).length)
  | [], _, s, p, t, h => rfl
  | r :: l, hl, s, p, t, h => by
    have hr := hl r List.mem_cons_self
    have h' : s.data.toList.drop p = enc r ++ (encs l ++ t) := by rw [h, encs_cons, List.append_assoc]
    have hlen := enc_len hr
    have hp : p < s.size := by
      have h1 := congrArg List.length h'
      have := Lib.size_eq s
      simp at h1
      omega
    have hd : Utf8.decode s p = (r.toNat, (enc r).length) := by rw [← Lib.decodeL_drop, h', dec_enc hr]
    have ht : s.data.toList.drop (p + (enc r).length) = encs l ++ t := by rw [← List.drop_drop, h', List.drop_left]
    have i1 := prAt_pre (fun x hx => hl x (List.mem_cons_of_mem _ hx)) ht
    have hr0 : 0 ≤ r := by unfold Ch at hr; omega
    rw [prAt_next hp, hd, i1, placed, encs_cons, List.length_append, ← Nat.add_assoc]; simp; omega
/-- bytes that are of no character, to the end -/
theorem prAt_run {xs : List Int} (h : ∀ x ∈ xs, 0 ≤ x ∧ x ≤ 255) : ∀ (k p : Nat), p + k = xs.length → (∀ q, p ≤ q → q < p + k → decB (xs.drop q) = (65533, 1)) → prAt (strOfNums xs) p = (List.range' p k).map fun q => (q, 65533)
  | 0, p, hp, _ => by rw [prAt_end (by rw [strOfNums_size]; omega)]; rfl
  | k + 1, p, hp, hd => by
    rw [prAt_next (by rw [strOfNums_size]; omega), dec_str h (by omega), hd p (Nat.le_refl _) (by omega)]
    rw [prAt_run h k (p + 1) (by omega) (fun q h1 h2 => hd q (by omega) (by omega)), List.range'_succ]
    rfl
theorem fold_run (bs : List Int) : ∀ (k p : Nat) (s : Int × Int × Int), (((List.range' p k).map fun q => (q, (65533 : Int))).foldl (stepP bs) s) = (s.1 + k, s.2.1, s.2.2 + k)
  | 0, p, s => by simp
  | k + 1, p, s => by
    rw [List.range'_succ, List.map_cons, List.foldl_cons, fold_run bs k]
    have : lineEnd bs p 65533 = false := by unfold lineEnd; simp
    simp only [stepP, this, Bool.false_eq_true, if_false, Prod.mk.injEq, true_and]
    refine ⟨by push_cast; omega, by push_cast; omega⟩
/-- the place ahead of bytes, characters behind it -/
theorem placeB_run {bs ys : List Int} (X : List Int) (hX : ∀ x ∈ X, Ch x) (h : bs = bz (encs X) ++ ys) (hb : ∀ x ∈ ys, 0 ≤ x ∧ x ≤ 255) (k : Nat) (hk : k ≤ ys.length) (hd : ∀ q, q < k → decB ((ys.take k).drop q) = (65533, 1)) :
    placeB bs ((encs X).length + k) = ((fC X ys.head? (0, 1, 1)).1 + k, (fC X ys.head? (0, 1, 1)).2.1, (fC X ys.head? (0, 1, 1)).2.2 + k) := by
  have ht : bs.take ((encs X).length + k) = bz (encs X) ++ ys.take k := by
    rw [h, show (encs X).length = (bz (encs X)).length by simp [bz], List.take_length_add_append]
  have hbt : ∀ x ∈ bs.take ((encs X).length + k), 0 ≤ x ∧ x ≤ 255 := by
    rw [ht]; intro x hx
    rcases List.mem_append.1 hx with hx | hx
    · exact bz_by _ x hx
    · exact hb x (List.mem_of_mem_take hx)
  have hs : (strOfNums (bs.take ((encs X).length + k))).data.toList.drop 0 = encs X ++ unb (ys.take k) := by
    rw [List.drop_zero]
    show unb (bs.take ((encs X).length + k)) = _
    rw [ht, unb_app, unb_bz]
  have hl : (bs.take ((encs X).length + k)).length = (encs X).length + k := by rw [ht]; simp [bz]; omega
  unfold placeB
  rw [prAt_pre hX hs, Nat.zero_add, prAt_run hbt k _ hl.symm (fun q h1 h2 => by
    rw [ht]
    have := hd (q - (encs X).length) (by omega)
    rw [List.drop_append, show (bz (encs X)).drop q = [] from List.drop_eq_nil_of_le (by simp [bz]; omega), List.nil_append, show (bz (encs X)).length = (encs X).length by simp [bz]]
    exact this), List.foldl_append, fold_pre X 0 _ hX (by omega) (by rw [List.drop_zero, h]), fold_run]
theorem placeB_pre {bs ys : List Int} (X : List Int) (hX : ∀ x ∈ X, Ch x) (h : bs = bz (encs X) ++ ys) (hb : ∀ x ∈ ys, 0 ≤ x ∧ x ≤ 255) : placeB bs (encs X).length = fC X ys.head? (0, 1, 1) := by
  have := placeB_run X hX h hb 0 (by omega) (fun q hq => by omega)
  rw [Nat.add_zero] at this
  rw [this]
  simp
/-- what comes behind is told only by a carriage return at the end -/
theorem fC_last : ∀ (X : List Int) (a b : Option Int) (st : Int × Int × Int), X.getLast? ≠ some 13 → fC X a st = fC X b st
  | [], _, _, _, _ => rfl
  | [r], a, b, st, h => by
    have h13 : r ≠ 13 := fun e => h (by rw [e]; rfl)
    simp [fC, endC, h13]
  | r :: s :: X, a, b, st, h => by
    exact fC_last (s :: X) a b (stepC st (endC r (some s))) (by rw [List.getLast?_cons_cons] at h; exact h)
/-- the Feed (what lies ahead, its place) and the document's (all bytes, how many are taken) -/
structure Pair (bs : List Int) (t : Nat) (xs : List Int) (p : Pl) (e : Bool) : Prop where
  le : t ≤ bs.length
  lies : xs = bs.drop t
  by_ : ∀ x ∈ bs, 0 ≤ x ∧ x ≤ 255
  pre : ∃ X, (∀ r ∈ X, Ch r) ∧ bs = bz (encs X) ++ xs ∧ t = (encs X).length ∧ p = ((t : Int), fC X xs.head? (0, 1, 1)) ∧ (X.getLast? = some 13 → xs.head? ≠ some 10 ∧ (xs ≠ [] ∨ e = true))
theorem Pair.start : Pair [] 0 [] (0, 0, 1, 1) false := ⟨by simp, rfl, by simp, [], by simp, by simp [encs, bz], by simp [encs], by simp [fC], by simp⟩
theorem plR_eq {bs : List Int} {i : Nat} (h : i ≤ bs.length) : plR bs i = ((i : Int), placeB bs i) := by
  unfold plR atB
  rw [if_neg (by omega)]
  rfl
theorem Pair.place {bs : List Int} {t : Nat} {xs : List Int} {p : Pl} {e : Bool} (h : Pair bs t xs p e) : plR bs t = p := by
  obtain ⟨hle, hl, hb, X, hX, h1, h2, h3, _⟩ := h
  rw [plR_eq hle, h3, h2, placeB_pre X hX h1 (fun x hx => hb x (by rw [h1]; exact List.mem_append_right _ hx))]
theorem Pair.push {bs : List Int} {t : Nat} {xs ys : List Int} {p : Pl} (h : Pair bs t xs p false) (hy : ∀ x ∈ ys, 0 ≤ x ∧ x ≤ 255) : Pair (bs ++ ys) t (xs ++ ys) p false := by
  obtain ⟨hle, hl, hb, X, hX, h1, h2, h3, h4⟩ := h
  refine ⟨by rw [List.length_append]; omega, by rw [hl, List.drop_append_of_le_length hle], fun x hx => (List.mem_append.1 hx).elim (hb x) (hy x), X, hX, by rw [h1, List.append_assoc], h2, ?_, ?_⟩
  · rw [h3]
    congr 1
    by_cases h13 : X.getLast? = some 13
    · have hne := (h4 h13).2.resolve_right (by decide)
      rw [head_app _ hne]
    · exact fC_last X _ _ _ h13
  · intro h13
    have hh := h4 h13
    have hne := hh.2.resolve_right (by decide)
    rw [head_app _ hne]
    exact ⟨hh.1, .inl (by simp [hne])⟩
theorem Pair.fin {bs : List Int} {t : Nat} {xs : List Int} {p : Pl} {e : Bool} (h : Pair bs t xs p e) : Pair bs t xs p true := by
  obtain ⟨hle, hl, hb, X, hX, h1, h2, h3, h4⟩ := h
  exact ⟨hle, hl, hb, X, hX, h1, h2, h3, fun h13 => ⟨(h4 h13).1, .inr rfl⟩⟩
theorem Pair.byx {bs : List Int} {t : Nat} {xs : List Int} {p : Pl} {e : Bool} (h : Pair bs t xs p e) : ∀ x ∈ xs, 0 ≤ x ∧ x ≤ 255 := fun x hx => h.by_ x (by rw [h.lies] at hx; exact List.mem_of_mem_drop hx)
/-- characters taken -/
theorem Pair.take {bs : List Int} {t : Nat} {xs : List Int} {p p' : Pl} {e : Bool} (h : Pair bs t xs p e) (Y : List Int) (hY : ∀ r ∈ Y, Ch r) (xs' : List Int) (hx : xs = bz (encs Y) ++ xs')
    (hlast : (Y.getLast? = some 13 → xs'.head? ≠ some 10 ∧ (xs' ≠ [] ∨ e = true))) (hne : Y ≠ []) (hY0 : Y.head? = some 10 ↔ xs.head? = some 10)
    (hp : p' = (p.1 + (encs Y).length, fC Y xs'.head? p.2)) : Pair bs (t + (encs Y).length) xs' p' e := by
  have hle' := h.le
  obtain ⟨hle, hl, hb, X, hX, h1, h2, h3, h4⟩ := h
  have hlen : bs.length = t + xs.length := by rw [hl, List.length_drop]; omega
  have hxl : xs.length = (encs Y).length + xs'.length := by rw [hx]; simp [bz]
  refine ⟨by omega, ?_, hb, X ++ Y, fun r hr => (List.mem_append.1 hr).elim (hX r) (hY r), by rw [h1, hx, encs_append, bz_append, List.append_assoc], by rw [encs_append, List.length_append, h2], ?_, ?_⟩
  · rw [← List.drop_drop, ← hl, hx, show (encs Y).length = (bz (encs Y)).length by simp [bz], List.drop_left]
  · rw [hp, h3, fC_app]
    refine Prod.ext (by simp) ?_
    show fC Y xs'.head? (fC X xs.head? (0, 1, 1)) = fC Y xs'.head? (fC X (Y.head?.or xs'.head?) (0, 1, 1))
    have hh : Y.head?.or xs'.head? = Y.head? := by
      cases Y with
      | nil => exact absurd rfl hne
      | cons a Y => rfl
    rw [hh]
    by_cases h13 : X.getLast? = some 13
    · have hx10 := (h4 h13).1
      have hy10 : Y.head? ≠ some 10 := fun k => hx10 (hY0.1 k)
      congr 1
      have hgen : ∀ (X : List Int) (a b : Option Int) (st : Int × Int × Int), a ≠ some 10 → b ≠ some 10 → fC X a st = fC X b st := by
        intro X
        induction X with
        | nil => intros; rfl
        | cons r X ih =>
          intro a b st ha hb
          rw [fC, fC, ih a b _ ha hb]
          congr 2
          cases X with
          | nil =>
            simp only [List.head?_nil, Option.none_or]
            unfold endC
            have e1 : (a == some 10) = false := beq_eq_false_iff_ne.2 ha
            have e2 : (b == some 10) = false := beq_eq_false_iff_ne.2 hb
            rw [e1, e2]
          | cons c X => rfl
      exact hgen X _ _ _ hx10 hy10
    · rw [fC_last X _ _ _ h13]
  · intro h13
    rw [last_app _ hne] at h13
    exact hlast h13
theorem nextB_at {bs : List Int} {t : Nat} {xs : List Int} (hle : t ≤ bs.length) (hl : xs = bs.drop t) (h0 : xs.length ≠ 0) : nextB bs t = if fullB xs = false then (0, (bs.length : Int) - t, 1, 0) else if (decB xs).1 = 65533 ∧ (decB xs).2 = 1 then (65533, 1, 2, 0) else (((decB xs).1 : Int), ((decB xs).2 : Int), 0, 0) := by
  have hll : xs.length = bs.length - t := by rw [hl, List.length_drop]
  unfold nextB
  rw [if_neg (by omega), if_neg (by omega), Int.toNat_natCast, ← hl]
/-- the beginning of a character at the end of bytes, or a wrong byte behind it -/
theorem front_run {xs : List Int} (hb : ∀ x ∈ xs, 0 ≤ x ∧ x ≤ 255) {k n : Nat} (hF : frontB xs 0 = (k, n)) (hk : k ≤ xs.length) (hkn : n = 0 ∧ k = 0 ∨ k < n) : ∀ q, q < k → decB ((xs.take k).drop q) = (65533, 1) := by
  intro q hq
  have hn0 : n ≠ 0 := by omega
  have hs := frontB_some hF hn0
  have hl : (xs.take k).length = k := by rw [List.length_take]; omega
  have hbt : ∀ x ∈ xs.take k, 0 ≤ x ∧ x ≤ 255 := fun x hx => hb x (List.mem_of_mem_take hx)
  by_cases hq0 : q = 0
  · subst hq0
    rw [List.drop_zero]
    have hF2 := frontB_take hF (m := k) (by omega) hk
    rw [Nat.min_self] at hF2
    rcases alike (t := xs.take k) (by omega) (bn_lt hbt) with ⟨m, hF', _, _, hle, _, _, _, _⟩ | ⟨m, hF', hlt, hf, hd⟩ | ⟨k', m, hF', _, hf, hd⟩
    · rw [hF2] at hF'
      simp only [Prod.mk.injEq] at hF'
      omega
    · exact hd
    · exact hd
  · have hfit := (hs.2.2.fit q (by omega) hq).2
    unfold fitR at hfit
    simp only [Bool.not_eq_true', Bool.or_eq_false_iff, decide_eq_false_iff_not, Nat.zero_add] at hfit
    have hbq : bn (xs.take k) q = bn xs q := bn_take hq
    have hz : szR (bn ((xs.take k).drop q) 0) = 0 := by
      rw [bn_drop, Nat.add_zero, hbq]
      unfold szR
      rw [if_neg (by omega), if_neg (by omega), if_neg (by omega), if_neg (by omega)]
    have hl2 : 1 ≤ ((xs.take k).drop q).length := by rw [List.length_drop]; omega
    have hF3 : frontB ((xs.take k).drop q) 0 = (0, 0) := by rw [frontB, if_neg (by omega), if_pos hz]
    rcases alike hl2 (bn_lt (fun x hx => hbt x (List.mem_of_mem_drop hx))) with ⟨m, hF', _, _, hle, _, _, _, _⟩ | ⟨m, hF', hlt, hf, hd⟩ | ⟨k', m, hF', _, hf, hd⟩
    · rw [hF3] at hF'
      simp only [Prod.mk.injEq] at hF'
      omega
    · exact hd
    · exact hd
/-- the place behind the beginning of a character -/
theorem Pair.run {bs : List Int} {t : Nat} {xs : List Int} {p : Pl} {e : Bool} (h : Pair bs t xs p e) {k : Nat} (hk : k ≤ xs.length) (hd : ∀ q, q < k → decB ((xs.take k).drop q) = (65533, 1)) : plR bs (t + k) = (p.1 + k, p.2.1 + k, p.2.2.1, p.2.2.2 + k) := by
  have hbx := h.byx
  obtain ⟨hle, hl, hb, X, hX, h1, h2, h3, _⟩ := h
  have hll : xs.length = bs.length - t := by rw [hl, List.length_drop]
  rw [plR_eq (by omega), h3, h2, placeB_run X hX h1 hbx k hk hd]
  simp
/-- both say the same of what lies ahead -/
theorem Pair.peek {bs : List Int} {t : Nat} {xs : List Int} {p : Pl} {e : Bool} (h : Pair bs t xs p e) : fromB bs t e = peekB xs p e := by
  have hpl := h.place
  have hle := h.le
  have hl := h.lies
  have hbx := h.byx
  have hll : xs.length = bs.length - t := by rw [hl, List.length_drop]
  unfold fromB peekB
  rw [hpl]
  by_cases h0 : xs.length = 0
  · rw [if_pos (by omega)]
    unfold firstB
    rw [if_pos h0]
    cases e <;> rfl
  have hg0 : gt bs t = gt xs 0 := by rw [hl, gt_drop, Nat.add_zero]
  have hg1 : gt bs (t + 1) = gt xs 1 := by rw [hl, gt_drop]
  have hi : (t + 1 < bs.length) ↔ (1 < xs.length) := by omega
  rw [if_neg (by omega), hg0, hg1]
  by_cases h13 : gt xs 0 = 13
  · rw [if_pos h13, firstB_cr e h0 h13]
    by_cases h10 : 1 < xs.length ∧ gt xs 1 = 10
    · rw [if_pos ⟨hi.2 h10.1, h10.2⟩, if_pos h10]
      rfl
    · rw [if_neg (fun k => h10 ⟨hi.1 k.1, k.2⟩), if_neg h10]
      by_cases h1 : 1 < xs.length ∨ e = true
      · rw [if_pos (h1.imp hi.2 id), if_pos h1]
        rfl
      · rw [if_neg (fun k => h1 (k.imp hi.1 id)), if_neg h1]
        rfl
  rw [if_neg h13, firstB_ne e h0 h13, nextB_at hle hl h0]
  have hfd : frontB bs t = frontB xs 0 := by rw [hl, frontB_drop hle]
  rcases alike (t := xs) (by omega) (bn_lt hbx) with ⟨m, hF, m1, m4, hml, hf, hd, hv, hok⟩ | ⟨m, hF, hlt, hf, hd⟩ | ⟨k, m, hF, hkm, hf, hd⟩
  · have hb : ¬ ((decB xs).1 = 65533 ∧ (decB xs).2 = 1) := fun k => hok ⟨k.1, by omega⟩
    simp only [hf, Bool.true_eq_false, if_false, if_neg hb, if_true]
  · have hr := h.run (k := xs.length) (Nat.le_refl _) (front_run hbx hF (Nat.le_refl _) (.inr hlt))
    have hbl : t + xs.length = bs.length := by omega
    rw [hbl] at hr
    rw [hf]
    cases e
    · rfl
    · simp only [if_true, hr]
      rfl
  · have hr := h.run (k := k) (by omega) (front_run hbx hF (by omega) (by omega))
    have hgood : goodB (xs.take 4) = k := by
      have t4 := take_four (xs := xs)
      have h0x : xs ≠ [] := fun k => h0 (by rw [k]; rfl)
      have hl4 : 1 ≤ (xs.take 4).length := by rw [List.length_take]; omega
      have hb4 : ∀ x ∈ xs.take 4, 0 ≤ x ∧ x ≤ 255 := fun x hx => hbx x (List.mem_of_mem_take hx)
      have g := good_bad (xs := xs.take 4) (by rw [t4.2]; exact hf) (by rw [t4.1, hd]; exact ⟨rfl, rfl⟩)
      rw [g.1]
      by_cases hxl : xs.length ≤ 4
      · rw [List.take_of_length_le hxl]
        exact piece_front hbx (by omega) hF (by omega)
      · have hF4 := frontB_take hF (m := 4) (by omega) (by omega)
        have hm4 := frontB_le hF
        rw [show min k 4 = k by omega] at hF4
        exact piece_front hb4 (by omega) hF4 (by omega)
    have hb : (decB xs).1 = 65533 ∧ (decB xs).2 = 1 := by rw [hd]; exact ⟨rfl, rfl⟩
    rw [hf, hfd, hF, hgood]
    simp only [Bool.true_eq_false, if_false, if_pos hb]
    rw [if_pos trivial, hr]
    rfl
/-- the next character taken from both -/
theorem Pair.next {bs : List Int} {t : Nat} {xs : List Int} {p : Pl} {e : Bool} (h : Pair bs t xs p e) (hh : (firstB xs e).2.2 = 0) : Pair bs (t + (firstB xs e).2.1.toNat) (xs.drop (firstB xs e).2.1.toNat) (behind p (firstB xs e).1 (firstB xs e).2.1) e := by
  have hbx := h.byx
  have h0 : xs.length ≠ 0 := fun k => first_nil e (by rw [← List.eq_nil_of_length_eq_zero k]; exact hh)
  have hne : xs ≠ [] := fun k => h0 (by rw [k]; rfl)
  obtain ⟨p1, p2, p3, p4⟩ := p
  by_cases h13 : gt xs 0 = 13
  · rw [firstB_cr e h0 h13] at hh ⊢
    by_cases h10 : 1 < xs.length ∧ gt xs 1 = 10
    · rw [if_pos h10]
      have hx : xs = bz (encs [13, 10]) ++ xs.drop 2 := by
        rw [show bz (encs [13, 10]) = [13, 10] by decide, ← h13, ← h10.2]
        match xs, h10.1 with
        | a :: b :: r, _ => simp [gt]
      refine h.take [13, 10] (by intro r hr; simp at hr; unfold Ch; omega) (xs.drop 2) hx (fun k => by cases k) (by simp) ?_ ?_
      · rw [head_gt hne, h13]; simp
      · simp [behind, fC, stepC, endC, show (encs [13, 10]).length = 2 by decide]
    · rw [if_neg h10] at hh ⊢
      by_cases h1 : 1 < xs.length ∨ e = true
      · rw [if_pos h1]
        have hx : xs = bz (encs [13]) ++ xs.drop 1 := by
          rw [show bz (encs [13]) = [13] by decide, ← h13]
          match xs, hne with
          | a :: r, _ => simp [gt]
        have hd10 : (xs.drop 1).head? ≠ some 10 := by
          intro k
          have hd0 : xs.drop 1 ≠ [] := fun z => by rw [z] at k; cases k
          rw [head_gt hd0, gt_drop] at k
          have hl1 : 1 < xs.length := by
            have := List.length_pos_iff.2 hd0
            rw [List.length_drop] at this; omega
          exact h10 ⟨hl1, by simpa using k⟩
        refine h.take [13] (by intro r hr; simp at hr; unfold Ch; omega) (xs.drop 1) hx (fun _ => ⟨hd10, h1.imp (fun k z => ?_) id⟩) (by simp) ?_ ?_
        · have := congrArg List.length z
          simp at this
          omega
        · rw [head_gt hne, h13]; simp
        · have hb : ((xs.drop 1).head? == some 10) = false := beq_eq_false_iff_ne.2 hd10
          simp only [fC, List.head?_nil, Option.none_or, endC, hb, stepC, behind]
          simp [show (encs [13]).length = 1 by decide]
      · rw [if_neg h1] at hh
        cases hh
  · rw [firstB_ne e h0 h13] at hh ⊢
    by_cases hf : fullB xs = false
    · rw [if_pos hf] at hh
      cases e <;> cases hh
    · rw [if_neg hf] at hh ⊢
      by_cases hd : (decB xs).1 = 65533 ∧ (decB xs).2 = 1
      · rw [if_pos hd] at hh
        cases hh
      · rw [if_neg hd]
        obtain ⟨hch, htk⟩ := dec_take hbx (by omega) hd
        have hw := decB_le (xs := xs) (by omega)
        have hw1 := decB_width (xs := xs) (by omega)
        have hx : xs = bz (encs [((decB xs).1 : Int)]) ++ xs.drop (decB xs).2 := by
          rw [show encs [((decB xs).1 : Int)] = enc ((decB xs).1 : Int) by simp [encs], ← htk, List.take_append_drop]
        have hlen : (encs [((decB xs).1 : Int)]).length = (decB xs).2 := by
          have := congrArg List.length htk
          rw [List.length_take, bz_enc_length] at this
          rw [show encs [((decB xs).1 : Int)] = enc ((decB xs).1 : Int) by simp [encs]]
          omega
        obtain ⟨b, tl, heb, hb10⟩ := enc_first hch
        have hgt0 : gt xs 0 = (b.toNat : Int) := by
          have := congrArg (fun l => gt l 0) htk
          rw [heb] at this
          simp [gt, bz, show 0 < (decB xs).2 by omega] at this
          simpa [gt] using this
        have h13r : ((decB xs).1 : Int) ≠ 13 := by
          intro k
          rw [k] at heb
          rw [show enc 13 = [13] by decide] at heb
          injection heb with heb
          rw [← heb] at hgt0
          exact h13 (hgt0.trans (by decide))
        show Pair bs (t + ((decB xs).2 : Int).toNat) (xs.drop ((decB xs).2 : Int).toNat) _ e
        rw [Int.toNat_natCast]
        have := h.take [((decB xs).1 : Int)] (by intro r hr; rw [List.mem_singleton.1 hr]; exact hch) (xs.drop (decB xs).2) hx (p' := behind (p1, p2, p3, p4) ((decB xs).1 : Int) ((decB xs).2 : Int)) (fun k => absurd (by simpa using k) h13r) (by simp) ?_ ?_
        · rw [hlen] at this
          exact this
        · rw [head_gt hne, hgt0]
          simp [hb10]
        · rw [hlen]
          by_cases hr10 : ((decB xs).1 : Int) = 10
          · have hw10 : (decB xs).2 = 1 := by
              rw [← hlen, hr10]; decide
            simp [behind, fC, stepC, endC, hr10, hw10]
          · simp [behind, fC, stepC, endC, hr10, h13r]
end Gim


/- The document's Feed: Peek, Next, Rest walked. -/
namespace Go.Proofs.YtpkdbfnnbbkkiaaDoor
open Go.RowKit Gim
theorem from_pair (w : World) (B F : Nat) (v : Value) (bs : List Int) (t : Nat) (ended : Bool) (h : Fd w B F v bs t ended) (hn : bs.length ≤ 1099511627770) {i : Nat} {xs : List Int} {p : Pl} (hP : Pair bs i xs p ended) :
    Calls Tryd.prog 41 #[.pointer (some ⟨F, 0, none⟩), .int .i64 i] w fun E w' => E = .returned (.tuple #[charR (peekB xs p ended).1, .int .i64 (peekB xs p ended).2]) ∧ Below w.heap.size w w' := by
  have := from_calls w B F v bs t ended h i hP.le hn
  rw [hP.peek] at this
  exact this
set_option maxHeartbeats 2000000 in
theorem peekD_calls (w : World) (B F : Nat) (v : Value) (bs : List Int) (t : Nat) (ended : Bool) (h : Fd w B F v bs t ended) (hn : bs.length ≤ 1099511627770) {xs : List Int} {p : Pl} (hP : Pair bs t xs p ended) :
    Calls Tryd.prog 32 #[.pointer (some ⟨F, 0, none⟩)] w fun E w' => E = .returned (.tuple #[charR (peekB xs p ended).1, .int .i64 (peekB xs p ended).2]) ∧ Below w.heap.size w w' := by
  have b0 : Below w.heap.size w (w.alloc (Obj.cells #[.int .i64 0, .int .i64 0, .int .i64 0, .int .i64 0, .int .i64 0, .int .i64 0] 79)) := (Below.refl _ _).alloc (Nat.le_refl _) _
  have y0 := heap_alloc_new w (Obj.cells #[.int .i64 0, .int .i64 0, .int .i64 0, .int .i64 0, .int .i64 0, .int .i64 0] 79)
  have h1 := h.fresh b0
  have k1 : (w.alloc (Obj.cells #[.int .i64 0, .int .i64 0, .int .i64 0, .int .i64 0, .int .i64 0, .int .i64 0] 79)).cell? ⟨F, 1, none⟩ = some (.int .i64 t) := by simp [World.cell?, h1.hF]
  have hA := from_pair _ B F v bs t ended h1 hn hP
  obtain ⟨q, hq⟩ : ∃ q, Hid (q = peekB xs p ended) := ⟨_, rfl⟩
  rw [← hq.out] at hA ⊢
  obtain ⟨⟨c, ⟨p1, p2, p3, p4⟩, n⟩, how⟩ := q
  unfold charR at hA ⊢
  simp only [] at hA ⊢
  have HA := Lib.hid hA
  have HB0 := Lib.hid b0
  have HY0 := Lib.hid y0
  clear hA b0 y0 h1 hP
  go_enter Tryd.func32, Tryd.ntmps32
  go_wp2_with fail
  refine HA.out.mono ?_
  rintro e w3 ⟨rfl, b2⟩
  clear HA
  have y3 := (b2.block w.heap.size (Array.getElem?_eq_some_iff.1 HY0.out).1).trans HY0.out
  have hb3 := HB0.out.trans (b2.mono HB0.out.size)
  obtain ⟨R, hRR⟩ : ∃ R, Hid (R = w.heap.size) := ⟨_, rfl⟩
  rw [← hRR.out] at y3 ⊢
  have r0 : w3.cell? ⟨R, 0, none⟩ = some (.int .i64 0) := by simp [World.cell?, y3]
  have r1 : w3.cell? ⟨R, 1, none⟩ = some (.int .i64 0) := by simp [World.cell?, y3]
  have r2 : w3.cell? ⟨R, 2, none⟩ = some (.int .i64 0) := by simp [World.cell?, y3]
  have r3 : w3.cell? ⟨R, 3, none⟩ = some (.int .i64 0) := by simp [World.cell?, y3]
  have r4 : w3.cell? ⟨R, 4, none⟩ = some (.int .i64 0) := by simp [World.cell?, y3]
  have r5 : w3.cell? ⟨R, 5, none⟩ = some (.int .i64 0) := by simp [World.cell?, y3]
  have rz : ∀ i, w3.frozen? ⟨R, i, none⟩ = false := fun i => by simp [World.frozen?, y3]
  clear b2
  go_wp2
  have hh6 := six_heap y3 (.int .i64 c) (.int .i64 p1) (.int .i64 p2) (.int .i64 p3) (.int .i64 p4) (.int .i64 n)
  have hg6 := six_fr (p := fun j => j = R) (w := w3) (R := R) rfl (.int .i64 c) (.int .i64 p1) (.int .i64 p2) (.int .i64 p3) (.int .i64 p4) (.int .i64 n)
  generalize hV : ((((((w3.setCell ⟨R, 0, none⟩ (.int .i64 c)).setCell ⟨R, 1, none⟩ (.int .i64 p1)).setCell ⟨R, 2, none⟩ (.int .i64 p2)).setCell ⟨R, 3, none⟩ (.int .i64 p3)).setCell ⟨R, 4, none⟩ (.int .i64 p4)).setCell ⟨R, 5, none⟩ (.int .i64 n)) = V at hh6 hg6 ⊢
  have j0 : V.cell? ⟨R, 0, none⟩ = some (.int .i64 c) := by simp [World.cell?, hh6]
  have j1 : V.cell? ⟨R, 1, none⟩ = some (.int .i64 p1) := by simp [World.cell?, hh6]
  have j2 : V.cell? ⟨R, 2, none⟩ = some (.int .i64 p2) := by simp [World.cell?, hh6]
  have j3 : V.cell? ⟨R, 3, none⟩ = some (.int .i64 p3) := by simp [World.cell?, hh6]
  have j4 : V.cell? ⟨R, 4, none⟩ = some (.int .i64 p4) := by simp [World.cell?, hh6]
  have j5 : V.cell? ⟨R, 5, none⟩ = some (.int .i64 n) := by simp [World.cell?, hh6]
  refine ⟨rfl, .tuple #[.agg #[.int .i64 c, .int .i64 p1, .int .i64 p2, .int .i64 p3, .int .i64 p4, .int .i64 n], .int .i64 how], ?_, rfl, hb3.trans (hg6.below hb3.size (fun j e => by have e : j = R := e; have := hRR.out; omega))⟩
  simp [results, Tryd.f32, go_sem, j0, j1, j2, j3, j4, j5]
/-- what Next of the document leaves -/
def NextR (w : World) (B F : Nat) (v : Value) (bs : List Int) (t : Nat) (xs : List Int) (p : Pl) (ended : Bool) (e : Ending) (w' : World) : Prop :=
  e = .returned (.tuple #[charR (peekB xs p ended).1, .int .i64 (peekB xs p ended).2]) ∧
    (((firstB xs ended).2.2 ≠ 0 ∧ Below w.heap.size w w') ∨
     ((firstB xs ended).2.2 = 0 ∧ Fd w' B F v bs (t + (firstB xs ended).2.1.toNat) ended ∧ Fr (fun j => j = F) w w'))
set_option maxHeartbeats 2000000 in
theorem nextD_calls (w : World) (B F : Nat) (v : Value) (bs : List Int) (t : Nat) (ended : Bool) (h : Fd w B F v bs t ended) (hn : bs.length ≤ 1099511627770) {xs : List Int} {p : Pl} (hP : Pair bs t xs p ended) :
    Calls Tryd.prog 34 #[.pointer (some ⟨F, 0, none⟩)] w (NextR w B F v bs t xs p ended) := by
  have b0 : Below w.heap.size w (w.alloc (Obj.cells #[.int .i64 0, .int .i64 0, .int .i64 0, .int .i64 0, .int .i64 0, .int .i64 0] 79)) := (Below.refl _ _).alloc (Nat.le_refl _) _
  have y0 := heap_alloc_new w (Obj.cells #[.int .i64 0, .int .i64 0, .int .i64 0, .int .i64 0, .int .i64 0, .int .i64 0] 79)
  have h1 := h.fresh b0
  have k1 : (w.alloc (Obj.cells #[.int .i64 0, .int .i64 0, .int .i64 0, .int .i64 0, .int .i64 0, .int .i64 0] 79)).cell? ⟨F, 1, none⟩ = some (.int .i64 t) := by simp [World.cell?, h1.hF]
  have hA := from_pair _ B F v bs t ended h1 hn hP
  have hhv := @first_have xs ended
  have hwd := first_width xs ended
  have hxl : xs.length = bs.length - t := by rw [hP.lies, List.length_drop]
  have htl := hP.le
  have hFl := h.lt.1
  unfold NextR
  unfold peekB at hA ⊢
  obtain ⟨f, hf⟩ : ∃ f, Hid (f = firstB xs ended) := ⟨_, rfl⟩
  rw [← hf.out] at hA hwd hhv ⊢
  obtain ⟨fr, fn, fh⟩ := f
  obtain ⟨p1, p2, p3, p4⟩ := p
  simp only [] at hhv hA hwd ⊢
  have HH := Lib.hid hhv
  have HW := Lib.hid h
  have H1 := Lib.hid h1
  clear hhv h h1
  by_cases h0 : fh = 0
  · subst h0
    obtain ⟨hw1, hw2⟩ := HH.out rfl
    obtain ⟨k, rfl⟩ : ∃ k : Nat, fn = k := ⟨fn.toNat, by omega⟩
    simp only [if_true, charR] at hA ⊢
    have hsum : (t : Int) + k ≤ 1099511627770 := by omega
    have HA := Lib.hid hA
    have HB0 := Lib.hid b0
    have HY0 := Lib.hid y0
    clear hA b0 y0 hP
    go_enter Tryd.func34, Tryd.ntmps34
    go_wp2_with fail
    refine HA.out.mono ?_
    rintro e w2 ⟨rfl, b2⟩
    clear HA
    go_upto_region 3 with fail
    have hRl := (Array.getElem?_eq_some_iff.1 HY0.out).1
    have y2 := (b2.block w.heap.size hRl).trans HY0.out
    have hRl2 := (Array.getElem?_eq_some_iff.1 y2).1
    have c3 : Below w2.heap.size w2 (w2.alloc (Obj.cells #[.int .i64 fr, .int .i64 p1, .int .i64 p2, .int .i64 p3, .int .i64 p4, .int .i64 k] 79)) := (Below.refl _ _).alloc (Nat.le_refl _) _
    have y3 : (w2.alloc (Obj.cells #[.int .i64 fr, .int .i64 p1, .int .i64 p2, .int .i64 p3, .int .i64 p4, .int .i64 k] 79)).heap[w.heap.size]? = _ := (heap_alloc_old _ _ hRl2).trans y2
    have y4 := heap_alloc_new w2 (Obj.cells #[.int .i64 fr, .int .i64 p1, .int .i64 p2, .int .i64 p3, .int .i64 p4, .int .i64 k] 79)
    have b13 := HB0.out.trans ((b2.mono HB0.out.size).trans (c3.mono (Nat.le_trans HB0.out.size b2.size)))
    have hm3 := HW.out.fresh b13
    generalize w2.alloc (Obj.cells #[.int .i64 fr, .int .i64 p1, .int .i64 p2, .int .i64 p3, .int .i64 p4, .int .i64 k] 79) = W3 at c3 hm3 y3 y4 b13 ⊢
    clear c3 y2 b2
    obtain ⟨R, hRR⟩ : ∃ R, Hid (R = w.heap.size) := ⟨_, rfl⟩
    obtain ⟨C, hCC⟩ : ∃ C, Hid (C = w2.heap.size) := ⟨_, rfl⟩
    have hRC : R < C := by rw [hRR.out, hCC.out]; exact hRl2
    have hFR : F < R := by rw [hRR.out]; exact hFl
    rw [← hRR.out] at y3 ⊢
    rw [← hCC.out] at y4 ⊢
    clear hRl hRl2 hFl
    have hn1 : F ≠ R := by omega
    have hn2 : F ≠ C := by omega
    have hn3 : R ≠ C := by omega
    have hn4 : R ≠ F := by omega
    have hn5 : C ≠ F := by omega
    have hn6 : C ≠ R := by omega
    have f1 : W3.cell? ⟨F, 1, none⟩ = some (.int .i64 t) := by simp [World.cell?, hm3.hF]
    have fz : ∀ i, W3.frozen? ⟨F, i, none⟩ = false := fun i => by simp [World.frozen?, hm3.hF]
    have c0 : W3.cell? ⟨C, 0, none⟩ = some (.int .i64 fr) := by simp [World.cell?, y4]
    have c1 : W3.cell? ⟨C, 1, none⟩ = some (.int .i64 p1) := by simp [World.cell?, y4]
    have c2 : W3.cell? ⟨C, 2, none⟩ = some (.int .i64 p2) := by simp [World.cell?, y4]
    have c3 : W3.cell? ⟨C, 3, none⟩ = some (.int .i64 p3) := by simp [World.cell?, y4]
    have c4 : W3.cell? ⟨C, 4, none⟩ = some (.int .i64 p4) := by simp [World.cell?, y4]
    have c5 : W3.cell? ⟨C, 5, none⟩ = some (.int .i64 (k : Int)) := by simp [World.cell?, y4]
    have r0 : W3.cell? ⟨R, 0, none⟩ = some (.int .i64 0) := by simp [World.cell?, y3]
    have r1 : W3.cell? ⟨R, 1, none⟩ = some (.int .i64 0) := by simp [World.cell?, y3]
    have r2 : W3.cell? ⟨R, 2, none⟩ = some (.int .i64 0) := by simp [World.cell?, y3]
    have r3 : W3.cell? ⟨R, 3, none⟩ = some (.int .i64 0) := by simp [World.cell?, y3]
    have r4 : W3.cell? ⟨R, 4, none⟩ = some (.int .i64 0) := by simp [World.cell?, y3]
    have r5 : W3.cell? ⟨R, 5, none⟩ = some (.int .i64 0) := by simp [World.cell?, y3]
    have rz : ∀ i, W3.frozen? ⟨R, i, none⟩ = false := fun i => by simp [World.frozen?, y3]
    go_region
    go_wp2
    have g0 := Go.Joins.block_setCell hm3.hF (i := 1) (.int .i64 ((t : Int) + k))
    have e0 := Fr.set (Fr.refl (fun j => j = F) W3) F 1 (.int .i64 ((t : Int) + k)) rfl
    have hS := hm3.set e0 (p' := t + k) (e' := ended) (by rw [g0]; rfl)
    generalize hU : (W3.setCell ⟨F, 1, none⟩ (.int .i64 ((t : Int) + k))) = U at *
    have yU : U.heap[R]? = _ := (e0.block R (Array.getElem?_eq_some_iff.1 y3).1 (fun e => hn4 e)).trans y3
    have hh6 := six_heap yU (.int .i64 fr) (.int .i64 p1) (.int .i64 p2) (.int .i64 p3) (.int .i64 p4) (.int .i64 k)
    have hg6 := six_fr (p := fun j => j = R) (w := U) (R := R) rfl (.int .i64 fr) (.int .i64 p1) (.int .i64 p2) (.int .i64 p3) (.int .i64 p4) (.int .i64 k)
    generalize hV : ((((((U.setCell ⟨R, 0, none⟩ (.int .i64 fr)).setCell ⟨R, 1, none⟩ (.int .i64 p1)).setCell ⟨R, 2, none⟩ (.int .i64 p2)).setCell ⟨R, 3, none⟩ (.int .i64 p3)).setCell ⟨R, 4, none⟩ (.int .i64 p4)).setCell ⟨R, 5, none⟩ (.int .i64 k)) = V at hh6 hg6 ⊢
    have hg7 := hg6.drewN 1
    have hFUl := hS.lt.1
    have hSV := hS.frv hg7 hn1 (fun g hg e => by
      have e : g = R := e
      subst e
      obtain ⟨_, cur, hc⟩ := hS.own.lt g hg
      rw [yU] at hc
      injection hc with hc
      injection hc with _ h2
      exact absurd h2 (by decide))
    have hFV : Fr (fun j => j = F) w (V.drewN 1) := ((Fr.of b13).trans e0).then hg7 (fun j hj e => by have e : j = R := e; have := hRR.out; omega)
    have hd6 : (V.drewN 1).heap[R]? = _ := hh6
    change bodyPost _ _ _ _ _ (V.drewN 1)
    generalize V.drewN 1 = V1 at hd6 hSV hFV ⊢
    have j0 : V1.cell? ⟨R, 0, none⟩ = some (.int .i64 fr) := by simp [World.cell?, hd6]
    have j1 : V1.cell? ⟨R, 1, none⟩ = some (.int .i64 p1) := by simp [World.cell?, hd6]
    have j2 : V1.cell? ⟨R, 2, none⟩ = some (.int .i64 p2) := by simp [World.cell?, hd6]
    have j3 : V1.cell? ⟨R, 3, none⟩ = some (.int .i64 p3) := by simp [World.cell?, hd6]
    have j4 : V1.cell? ⟨R, 4, none⟩ = some (.int .i64 p4) := by simp [World.cell?, hd6]
    have j5 : V1.cell? ⟨R, 5, none⟩ = some (.int .i64 (k : Int)) := by simp [World.cell?, hd6]
    refine ⟨rfl, .tuple #[.agg #[.int .i64 fr, .int .i64 p1, .int .i64 p2, .int .i64 p3, .int .i64 p4, .int .i64 (k : Int)], .int .i64 0], ?_, rfl, .inr ⟨trivial, ?_, hFV⟩⟩
    · simp [results, Tryd.f34, go_sem, j0, j1, j2, j3, j4, j5]
    · rw [Int.toNat_natCast]; exact hSV
  · obtain ⟨q, hq⟩ : ∃ q : Ch6, (((if fh = 2 then ((0, (p1 + fn, p2 + fn, p3, p4 + fn), 0), 2) else ((0, (0, 0, 0, 0), 0), fh)) : Ch6 × Int)) = (q, fh) := by
      by_cases h2 : fh = 2
      · rw [if_pos h2, h2]; exact ⟨_, rfl⟩
      · rw [if_neg h2]; exact ⟨_, rfl⟩
    simp only [if_neg h0, hq] at hA ⊢
    obtain ⟨c, ⟨z1, z2, z3, z4⟩, n⟩ := q
    simp only [charR] at hA ⊢
    have hb0 : (fh == 0) = false := beq_eq_false_iff_ne.2 h0
    have HA := Lib.hid hA
    have HB0 := Lib.hid b0
    have HY0 := Lib.hid y0
    clear hA b0 y0 hP hq hf
    go_enter Tryd.func34, Tryd.ntmps34
    go_wp2_with fail
    refine HA.out.mono ?_
    rintro e w2 ⟨rfl, b2⟩
    clear HA
    go_upto_region 4 with fail
    have hRl := (Array.getElem?_eq_some_iff.1 HY0.out).1
    have y2 := (b2.block w.heap.size hRl).trans HY0.out
    have hRl2 := (Array.getElem?_eq_some_iff.1 y2).1
    have c3 : Below w2.heap.size w2 (w2.alloc (Obj.cells #[.int .i64 c, .int .i64 z1, .int .i64 z2, .int .i64 z3, .int .i64 z4, .int .i64 n] 79)) := (Below.refl _ _).alloc (Nat.le_refl _) _
    have y3 : (w2.alloc (Obj.cells #[.int .i64 c, .int .i64 z1, .int .i64 z2, .int .i64 z3, .int .i64 z4, .int .i64 n] 79)).heap[w.heap.size]? = _ := (heap_alloc_old _ _ hRl2).trans y2
    have y4 := heap_alloc_new w2 (Obj.cells #[.int .i64 c, .int .i64 z1, .int .i64 z2, .int .i64 z3, .int .i64 z4, .int .i64 n] 79)
    have b13 := HB0.out.trans ((b2.mono HB0.out.size).trans (c3.mono (Nat.le_trans HB0.out.size b2.size)))
    generalize w2.alloc (Obj.cells #[.int .i64 c, .int .i64 z1, .int .i64 z2, .int .i64 z3, .int .i64 z4, .int .i64 n] 79) = W3 at c3 y3 y4 b13 ⊢
    clear c3 y2 b2
    obtain ⟨R, hRR⟩ : ∃ R, Hid (R = w.heap.size) := ⟨_, rfl⟩
    obtain ⟨C, hCC⟩ : ∃ C, Hid (C = w2.heap.size) := ⟨_, rfl⟩
    have hRC : R < C := by rw [hRR.out, hCC.out]; exact hRl2
    rw [← hRR.out] at y3 ⊢
    rw [← hCC.out] at y4 ⊢
    clear hRl hRl2 hFl
    have hn3 : R ≠ C := by omega
    have hn6 : C ≠ R := by omega
    have c0 : W3.cell? ⟨C, 0, none⟩ = some (.int .i64 c) := by simp [World.cell?, y4]
    have c1 : W3.cell? ⟨C, 1, none⟩ = some (.int .i64 z1) := by simp [World.cell?, y4]
    have c2 : W3.cell? ⟨C, 2, none⟩ = some (.int .i64 z2) := by simp [World.cell?, y4]
    have c3 : W3.cell? ⟨C, 3, none⟩ = some (.int .i64 z3) := by simp [World.cell?, y4]
    have c4 : W3.cell? ⟨C, 4, none⟩ = some (.int .i64 z4) := by simp [World.cell?, y4]
    have c5 : W3.cell? ⟨C, 5, none⟩ = some (.int .i64 n) := by simp [World.cell?, y4]
    have r0 : W3.cell? ⟨R, 0, none⟩ = some (.int .i64 0) := by simp [World.cell?, y3]
    have r1 : W3.cell? ⟨R, 1, none⟩ = some (.int .i64 0) := by simp [World.cell?, y3]
    have r2 : W3.cell? ⟨R, 2, none⟩ = some (.int .i64 0) := by simp [World.cell?, y3]
    have r3 : W3.cell? ⟨R, 3, none⟩ = some (.int .i64 0) := by simp [World.cell?, y3]
    have r4 : W3.cell? ⟨R, 4, none⟩ = some (.int .i64 0) := by simp [World.cell?, y3]
    have r5 : W3.cell? ⟨R, 5, none⟩ = some (.int .i64 0) := by simp [World.cell?, y3]
    have rz : ∀ i, W3.frozen? ⟨R, i, none⟩ = false := fun i => by simp [World.frozen?, y3]
    go_wp2
    have hh6 := six_heap y3 (.int .i64 c) (.int .i64 z1) (.int .i64 z2) (.int .i64 z3) (.int .i64 z4) (.int .i64 n)
    have hg6 := six_fr (p := fun j => j = R) (w := W3) (R := R) rfl (.int .i64 c) (.int .i64 z1) (.int .i64 z2) (.int .i64 z3) (.int .i64 z4) (.int .i64 n)
    generalize hV : ((((((W3.setCell ⟨R, 0, none⟩ (.int .i64 c)).setCell ⟨R, 1, none⟩ (.int .i64 z1)).setCell ⟨R, 2, none⟩ (.int .i64 z2)).setCell ⟨R, 3, none⟩ (.int .i64 z3)).setCell ⟨R, 4, none⟩ (.int .i64 z4)).setCell ⟨R, 5, none⟩ (.int .i64 n)) = V at hh6 hg6 ⊢
    have j0 : V.cell? ⟨R, 0, none⟩ = some (.int .i64 c) := by simp [World.cell?, hh6]
    have j1 : V.cell? ⟨R, 1, none⟩ = some (.int .i64 z1) := by simp [World.cell?, hh6]
    have j2 : V.cell? ⟨R, 2, none⟩ = some (.int .i64 z2) := by simp [World.cell?, hh6]
    have j3 : V.cell? ⟨R, 3, none⟩ = some (.int .i64 z3) := by simp [World.cell?, hh6]
    have j4 : V.cell? ⟨R, 4, none⟩ = some (.int .i64 z4) := by simp [World.cell?, hh6]
    have j5 : V.cell? ⟨R, 5, none⟩ = some (.int .i64 n) := by simp [World.cell?, hh6]
    refine ⟨rfl, .tuple #[.agg #[.int .i64 c, .int .i64 z1, .int .i64 z2, .int .i64 z3, .int .i64 z4, .int .i64 n], .int .i64 fh], ?_, rfl, .inl ⟨h0, b13.trans (hg6.below b13.size (fun j e => by have e : j = R := e; have := hRR.out; omega))⟩⟩
    simp [results, Tryd.f34, go_sem, j0, j1, j2, j3, j4, j5]
/-- what Rest of the document leaves -/
def RestR (w : World) (v : Value) (R : List Int) (e : Ending) (w' : World) : Prop := ∃ a c, e = .returned (.slice a R.length c) ∧ Rd w' .u8 a R.length c R ∧ (∀ b, a = some b → blk v = some b.block) ∧ Below w.heap.size w w'
set_option maxHeartbeats 2000000 in
theorem restD_calls (w : World) (B F : Nat) (v : Value) (bs : List Int) (t : Nat) (ended : Bool) (h : Fd w B F v bs t ended) (hn : bs.length ≤ 1099511627770) {xs : List Int} {p : Pl} (hP : Pair bs t xs p ended) :
    Calls Tryd.prog 35 #[.pointer (some ⟨F, 0, none⟩)] w (RestR w v (restB xs p ended)) := by
  have k1 : w.cell? ⟨F, 1, none⟩ = some (.int .i64 t) := by simp [World.cell?, h.hF]
  obtain ⟨R, hR⟩ : ∃ R, Hid (R = restB xs p ended) := ⟨_, rfl⟩
  rw [← hR.out]
  have hm := Lib.hid h
  have HP := Lib.hid hP
  clear hP h
  go_enter Tryd.func35, Tryd.ntmps35
  go_wp2
  go_loopw [3] (fun v3 wr => ∃ (a : Nat) (ys : List Int) (q : Pl), v3 = .int .i64 a ∧ Hid (Pair bs a ys q ended) ∧ Below w.heap.size w wr ∧ Hid (restB ys q ended = R)) (fun v3 wr => bs.length - (match v3 with | .int _ n => n.toNat | _ => 0))
  case atStart => exact ⟨t, xs, p, rfl, HP, Below.refl _ _, Lib.hid hR.out.symm⟩
  case round =>
    obtain ⟨a, ys, q, rfl, hP, hb, H⟩ := hrel
    have hmw := hm.out.fresh hb
    have hA := from_pair _ B F v bs t ended hmw hn hP.out
    have hhv := @first_have ys ended
    have hyl : ys.length = bs.length - a := by rw [hP.out.lies, List.length_drop]
    have hal := hP.out.le
    have hRl := H.out
    have hnx := @Pair.next bs a ys q ended hP.out
    unfold restB at hRl
    unfold peekB at hA
    obtain ⟨va, vc, rfl, rd, hnn⟩ := hmw.own.rd
    have k0 : ∀ u, Below wr.heap.size wr u → u.cell? ⟨F, 0, none⟩ = some (.slice va bs.length vc) := fun u hu => by
      have := (hmw.fresh hu).hF
      simp [World.cell?, this]
    have hcl := rd.le
    have hcm := rd.cap_le
    obtain ⟨f, hf⟩ : ∃ f, Hid (f = firstB ys ended) := ⟨_, rfl⟩
    rw [← hf.out] at hA hhv hnx
    obtain ⟨fr, fn, fh⟩ := f
    obtain ⟨p1, p2, p3, p4⟩ := q
    simp only [] at hhv hA hnx
    have RD := Lib.hid rd
    have HN := Lib.hid hnx
    have HH := Lib.hid hhv
    have HM := Lib.hid hmw
    have HNN := Lib.hid hnn
    clear hnx hhv rd hmw hnn
    have hw0 : fh ≠ 0 → drainB ys (p1, p2, p3, p4) ended = ([], ys, (p1, p2, p3, p4)) := fun h0 => drainB_stop (by rw [← hf.out]; exact h0)
    by_cases h1 : fh = 1
    · subst h1
      rw [hw0 (by decide), show (firstB ys ended).2.2 = 1 from by rw [← hf.out], if_pos rfl] at hRl
      simp only [show ((1 : Int) = 0) = False from by decide, show ((1 : Int) = 2) = False from by decide, if_false, charR] at hA
      subst hRl
      have HA := Lib.hid hA
      have hal2 : (a : Int) ≤ bs.length := by omega
      clear hA hw0
      go_wp2_with fail
      refine HA.out.mono ?_
      rintro e w2 ⟨rfl, b2⟩
      clear HA
      have c3 : Below w2.heap.size w2 (w2.alloc (Obj.cells #[.int .i64 0, .int .i64 0, .int .i64 0, .int .i64 0, .int .i64 0, .int .i64 0] 79)) := (Below.refl _ _).alloc (Nat.le_refl _) _
      have b3 := b2.trans (c3.mono b2.size)
      have k3 := k0 _ b3
      have rd3 := (RD.out.below b3).drop hal
      by_cases hva : vc = a
      · rw [if_pos hva, show vc - a = 0 by omega] at rd3
        have rd4 := Lib.hid rd3
        clear rd3
        go_wp2_with fail
        go_ret
        refine ⟨va, 0, ?_, ?_, fun b hb => by subst hb; rfl, hb.trans (b3.mono hb.size)⟩
        · rw [hyl]; rfl
        · rw [hyl, hP.out.lies]; exact rd4.out
      · rw [if_neg hva] at rd3
        have rd4 := Lib.hid rd3
        clear rd3
        go_wp2_with fail
        go_ret
        refine ⟨va.map (·.add a), vc - a, ?_, ?_, fun b hb => by
          cases va with
          | none => cases hb
          | some x =>
            cases hb
            show some x.block = some (x.add a).block
            unfold Addr.add
            first | rfl | (split <;> rfl), hb.trans (b3.mono hb.size)⟩
        · rw [hyl]; rfl
        · rw [hyl, hP.out.lies]; exact rd4.out
    · by_cases h0 : fh = 0
      · subst h0
        obtain ⟨hw1, hw2⟩ := HH.out rfl
        obtain ⟨k, rfl⟩ : ∃ k : Nat, fn = k := ⟨fn.toNat, by omega⟩
        rw [drainB_have (by rw [← hf.out])] at hRl
        rw [← hf.out] at hRl
        simp only [if_true, charR] at hA hRl
        have hsum : (a : Int) + k ≤ 1099511627770 := by omega
        have hN2 := HN.out rfl
        rw [Int.toNat_natCast] at hN2 hRl
        have HN2 := Lib.hid hN2
        have HRL := Lib.hid hRl
        have HA := Lib.hid hA
        clear hA hw0 hN2 hRl HN H
        go_wp2_with fail
        refine HA.out.mono ?_
        rintro e w2 ⟨rfl, b2⟩
        clear HA
        have c3 : Below w2.heap.size w2 (w2.alloc (Obj.cells #[.int .i64 fr, .int .i64 p1, .int .i64 p2, .int .i64 p3, .int .i64 p4, .int .i64 k] 79)) := (Below.refl _ _).alloc (Nat.le_refl _) _
        have b3 := b2.trans (c3.mono b2.size)
        go_wp2_with fail
        go_roundw
        case rel => exact ⟨a + k, _, _, by simp, HN2, hb.trans (b3.mono hb.size), HRL⟩
        case measure => simp; omega
      · rw [hw0 h0, show (firstB ys ended).2.2 = fh from by rw [← hf.out], if_neg h1] at hRl
        obtain ⟨q, hq⟩ : ∃ q : Ch6, (((if fh = 2 then ((0, (p1 + fn, p2 + fn, p3, p4 + fn), 0), 2) else ((0, (0, 0, 0, 0), 0), fh)) : Ch6 × Int)) = (q, fh) := by
          by_cases h2 : fh = 2
          · rw [if_pos h2, h2]; exact ⟨_, rfl⟩
          · rw [if_neg h2]; exact ⟨_, rfl⟩
        simp only [if_neg h0, hq] at hA
        obtain ⟨c, ⟨z1, z2, z3, z4⟩, n⟩ := q
        simp only [charR] at hA
        have hb0 : (fh == 0) = false := beq_eq_false_iff_ne.2 h0
        have hb1 : (fh == 1) = false := beq_eq_false_iff_ne.2 h1
        subst hRl
        have HA := Lib.hid hA
        clear hA hw0 hq hf HN HH
        go_wp2_with fail
        refine HA.out.mono ?_
        rintro e w2 ⟨rfl, b2⟩
        clear HA
        have c3 : Below w2.heap.size w2 (w2.alloc (Obj.cells #[.int .i64 c, .int .i64 z1, .int .i64 z2, .int .i64 z3, .int .i64 z4, .int .i64 n] 79)) := (Below.refl _ _).alloc (Nat.le_refl _) _
        have b3 := b2.trans (c3.mono b2.size)
        go_wp2_with fail
        go_ret
        exact ⟨none, 0, rfl, ⟨rfl, Nat.le_refl _, by decide, fun i hi => absurd hi (by simp)⟩, fun b hb => (by cases hb), hb.trans (b3.mono hb.size)⟩
end Go.Proofs.YtpkdbfnnbbkkiaaDoor


