/- The walk of gimletref01.Decoder.Take. -/
import Derived.Test.YtfmpnfgegcgcaaaDoorTake2Walk
import Derived.Test.YtfmpnfgegcgcaaaDoorValueWalk
namespace Gim
open Go Go.RowKit
theorem row_empty (w : World) (t : TypeId) (k : IntKind) (B : Nat) (hB : B ≤ w.heap.size) : Row (w.alloc (.cells #[] t)) B t k (.slice (some ⟨w.heap.size, 0, none⟩) 0 0) [] :=
  ⟨by simp, .inr ⟨w.heap.size, 0, #[], rfl, hB, heap_alloc_new w _, by simp, by unfold maxLen; omega, by simp, by simp⟩⟩
theorem Row.rd2 {w : World} {B : Nat} {e : TypeId} {k : IntKind} {v : Value} {xs : List Int} (h : Row w B e k v xs) : ∃ ao cap, v = .slice ao xs.length cap ∧ Rd w k ao xs.length cap xs ∧ (ao = none → xs.length = 0 ∧ cap = 0) := by
  obtain ⟨ao, cap, e1, rd⟩ := h.rd
  refine ⟨ao, cap, e1, rd, fun hn => ?_⟩
  rcases h.2 with ⟨h1, h2⟩ | ⟨g, cap, cur, h1, _⟩
  · rw [e1] at h1
    simp only [Value.slice.injEq] at h1
    omega
  · rw [e1, hn] at h1
    simp at h1
theorem Row.rdAt' {w : World} {B : Nat} {e : TypeId} {k : IntKind} {ao : Option Addr} {n cap : Nat} {xs : List Int} (h : Row w B e k (.slice ao n cap) xs) : Rd w k ao n cap xs := by
  obtain ⟨ao, c, e1, rd⟩ := h.rd
  simp only [Value.slice.injEq] at e1
  obtain ⟨rfl, rfl, rfl⟩ := e1
  exact rd
end Gim
namespace Go.Proofs.YtfmpnfgegcgcaaaDoor
open Go.RowKit Gim
/-- the document's Decoder in block M that lives, and has taken xs -/
structure RefL (w : World) (B M : Nat) (v : Value) (xs : List Int) : Prop where
  hM : w.heap[M]? = some (.cells #[v, .bool false] 59)
  row : Row w B 5 .u8 v xs
  lt : M < B
  le : B ≤ w.heap.size
def RefD (w : World) (M : Nat) (n : Nat) : Prop := ∃ ao cp, w.heap[M]? = some (.cells #[.slice ao n cp, .bool true] 59)
def RefP (w : World) (B M : Nat) (xs : List Int) (x : Int) (k n : Nat) (e : Ending) (w' : World) : Prop :=
      Fr (fun j => j = M) w w' ∧
      ((n = 0 ∨ k < (xs ++ [x]).length) → e = .returned (.tuple #[.int .i64 0, .int .i64 2]) ∧ RefD w' M xs.length) ∧
      (n ≠ 0 → k = n → k = (xs ++ [x]).length → e = .returned (.tuple #[.int .i64 (valB (xs ++ [x])), .int .i64 0]) ∧ RefL w' B M (.slice none 0 0) []) ∧
      (n ≠ 0 → k ≠ n → k = (xs ++ [x]).length → e = .returned (.tuple #[.int .i64 0, .int .i64 1]) ∧ ∃ v', RefL w' B M v' (xs ++ [x]) ∧ ∀ g, v'.ownBlock = some g → w.heap.size ≤ g)
set_option maxHeartbeats 2000000 in
theorem refTake_calls (w : World) (B M : Nat) (v : Value) (xs : List Int) (x : Int) (h : RefL w B M v xs) (hlen : xs.length ≤ 3) (hall : ∀ y ∈ xs ++ [x], 0 ≤ y ∧ y ≤ 255) (k n : Nat) (hF : frontB (xs ++ [x]) 0 = (k, n)) (hk : k ≤ (xs ++ [x]).length) :
    Calls Tryd.prog 67 #[.pointer (some ⟨M, 0, none⟩), .int .u8 x] w (RefP w B M xs x k n) := by
  obtain ⟨hM, hrow, hMB, hBw⟩ := h
  have hMz := (Array.getElem?_eq_some_iff.1 hM).1
  have c0 : w.cell? ⟨M, 0, none⟩ = some v := by simp [World.cell?, hM]
  have c1 : w.cell? ⟨M, 1, none⟩ = some (.bool false) := by simp [World.cell?, hM]
  obtain ⟨ax, cx, hvx, rdx, hnone⟩ := hrow.rd2
  subst hvx
  obtain ⟨P, hP⟩ : ∃ P, P = RefP w B M xs x k n := ⟨_, rfl⟩
  rw [← hP]
  have HPP := Lib.hid hP
  clear hP
  obtain ⟨ys, hys⟩ : ∃ ys, ys = xs ++ [x] := ⟨_, rfl⟩
  have hly : ys.length = xs.length + 1 := by rw [hys]; simp
  rw [← hys] at hall hF hk
  have HY := Lib.hid hys
  have HF := Lib.hid hF
  obtain ⟨m, hm⟩ : ∃ m, m = xs.length := ⟨_, rfl⟩
  rw [← hm] at c0 rdx hnone hlen hly
  obtain ⟨l, hl⟩ : ∃ l, l = ys.length := ⟨_, rfl⟩
  rw [← hl] at hly hk
  have HL := Lib.hid hl
  have HLY := Lib.hid hly
  have HM := Lib.hid hm
  have hl4 : l ≤ 4 := by omega
  have hl1 : 1 ≤ l := by omega
  clear hys hF hm hl hrow hly
  go_enter Tryd.func67, Tryd.ntmps67
  go_wp2_with (first
    | (at_builtin; refine append_rd _ rfl _ _ rfl w.heap.size _ [] rfl (row_empty w _ _ _ (Nat.le_refl _)) ax m cx xs rfl (rdx.below ((Below.refl _ _).alloc (Nat.le_refl _) _)) hnone (by simp; omega) (by simp) ?_; intro v1 w1 hrow1 hgrow1; rw [List.nil_append] at hrow1)
    | (at_builtin; refine append1 _ rfl _ _ 34 rfl w.heap.size 5 .u8 1 info_u8 Tryd.underlying34 _ _ rfl hrow1 _ rfl (by rw [← HM.out]; omega) (by decide) (Nat.le_trans (by simp) hgrow1.size) ?_; intro v2 w2 hrow2 hgrow2))
  have hF2 : Fr (fun _ => False) w w2 := (((Fr.refl _ w).alloc _).grown hgrow1 (fun g hg => .inr ((row_empty w 5 .u8 w.heap.size (Nat.le_refl _)).lt g hg).1)).grown hgrow2 (fun g hg => .inr (hrow1.lt g hg).1)
  rw [← HY.out] at hrow2
  obtain ⟨a2, c2, e2, rd2⟩ := hrow2.rd
  rw [← HL.out] at rd2 e2
  subst e2
  have rb2 : Rb w2 a2 l c2 ys := ⟨rd2, gt_all HL.out.symm hall⟩
  have hM2 := (hF2.block M hMz id).trans hM
  have cFr := front_calls w2 _ _ _ _ rb2 0 (by omega)
  rw [HF.out] at cFr
  have hz2 := hF2.size
  have hF3 : Fr (fun j => j = M) w w2 := hF2.mono (fun _ h => h.elim)
  clear hgrow1 hgrow2 hrow1 c0 c1 rdx hnone hM rd2 hF2
  refine cFr.mono ?_
  rintro e w3 ⟨rfl, rfl⟩
  clear cFr
  have f0 : w3.frozen? ⟨M, 0, none⟩ = false := by simp [World.frozen?, hM2]
  have f1 : w3.frozen? ⟨M, 1, none⟩ = false := by simp [World.frozen?, hM2]
  have c0 : w3.cell? ⟨M, 0, none⟩ = some (.slice ax xs.length cx) := by simp [World.cell?, hM2]
  have c1 : w3.cell? ⟨M, 1, none⟩ = some (.bool false) := by simp [World.cell?, hM2]
  by_cases hn : n = 0
  · subst hn
    go_wp2
    rw [HPP.out]
    unfold RefP
    rw [← HY.out, ← HL.out]
    exact ⟨hF3.set M 1 _ rfl, fun _ => ⟨rfl, ax, cx, one_set hM2 _⟩, fun hh => absurd rfl hh, fun hh => absurd rfl hh⟩
  · have hnd : ((n : Int) == 0) = false := by simp; omega
    by_cases hkl : k < l
    · go_wp2
      rw [HPP.out]
      unfold RefP
      rw [← HY.out, ← HL.out]
      exact ⟨hF3.set M 1 _ rfl, fun _ => ⟨rfl, ax, cx, one_set hM2 _⟩, fun _ _ hh => absurd hh (by omega), fun _ _ hh => absurd hh (by omega)⟩
    · by_cases hkn : k = n
      · have hrow3 : Row (w3.setCell ⟨M, 0, none⟩ (.slice none 0 0)) w.heap.size 5 .u8 (.slice a2 l c2) ys := ownsRow_setCell_below hrow2 hMz (.slice none 0 0)
        have rd3 := hrow3.rdAt'
        have cV := value_calls (w3.setCell ⟨M, 0, none⟩ (.slice none 0 0)) _ _ _ _ ⟨rd3, gt_all HL.out.symm hall⟩ (by omega) (by omega)
        subst hkn
        go_wp2_with fail
        refine cV.mono ?_
        rintro e w4 ⟨rfl, rfl⟩
        clear cV
        go_wp2
        rw [HPP.out]
        unfold RefP
        rw [← HY.out, ← HL.out]
        exact ⟨hF3.set M 0 _ rfl, fun hh => absurd hh (by omega), fun _ _ _ => ⟨rfl, ⟨two_set hM2 _, World.ownsRow_nil _ _ _ _, hMB, by simp [World.setCell]; omega⟩⟩, fun _ hh => absurd rfl hh⟩
      · have hkd : ((k : Int) == (n : Int)) = false := by simp; omega
        go_wp2
        rw [HPP.out]
        unfold RefP
        rw [← HY.out, ← HL.out]
        refine ⟨hF3.set M 0 _ rfl, fun hh => absurd hh (by omega), fun _ hh => absurd hh hkn, fun _ _ _ => ⟨rfl, _, ⟨two_set hM2 _, ?_, hMB, by simp [World.setCell]; omega⟩, ?_⟩⟩
        · exact ownsRow_setCell_below (hrow2.mono hBw) (show (⟨M, 0, none⟩ : Addr).block < B from hMB) _
        · exact fun g hg => (hrow2.lt g hg).1
end Go.Proofs.YtfmpnfgegcgcaaaDoor
