/- The walks of gimletlaw01.laid, same, kept, place. -/
import Derived.Test.YtfmpnfgegcgcaaaDoorRefAtWalk
import Derived.Test.YtfmpnfgegcgcaaaDoorHanded
namespace Gim
open Go Go.RowKit
theorem Row.alloc {w : World} {B : Nat} {e : TypeId} {k : IntKind} {v : Value} {xs : List Int} (h : Row w B e k v xs) (o : Obj) : Row (w.alloc o) B e k v xs := World.ownsRow.alloc h o
theorem rd_three (w : World) (a b c : Int) (t : TypeId) : Rd (w.alloc (.cells #[.int .u8 a, .int .u8 b, .int .u8 c] t)) .u8 (some ⟨w.heap.size, 0, none⟩) 3 3 [a, b, c] :=
  ⟨rfl, Nat.le_refl _, by unfold maxLen; omega, fun j hj => ⟨_, _, rfl, by simp, fun i hi => by
    have hh := heap_alloc_new w (.cells #[.int .u8 a, .int .u8 b, .int .u8 c] t)
    unfold World.cell?
    rw [hh, Nat.zero_add]
    rcases (show i = 0 ∨ i = 1 ∨ i = 2 by omega) with rfl | rfl | rfl <;> rfl⟩⟩
theorem gt_app {xs ys : List Int} {n j : Nat} (h : xs.length = n) : gt (xs ++ ys) (n + j) = gt ys j := by
  unfold gt
  rw [List.getElem?_append_right (by omega), show n + j - xs.length = j by omega]
end Gim
namespace Go.Proofs.YtfmpnfgegcgcaaaDoor
open Go.RowKit Gim
def GivesLaid (w : World) (n : Nat) (xs : List Int) (e : Ending) (w' : World) : Prop :=
  ∃ ao cap, e = .returned (.slice ao n cap) ∧ Rd w' .u8 ao (n + 3) cap (xs ++ [71, 72, 73]) ∧ Below w.heap.size w w' ∧ ao ≠ none
set_option maxRecDepth 100000 in
set_option maxHeartbeats 2000000 in
theorem laid_calls (w : World) (ao : Option Addr) (n cap : Nat) (xs : List Int) (h : Rd w .u8 ao n cap xs) (hnone : ao = none → n = 0 ∧ cap = 0) (hn : n ≤ 140737488351232) :
    Calls Tryd.prog 23 #[.slice ao n cap] w (GivesLaid w n xs) := by
  have hl := h.len
  have hle := h.le
  have HL := Lib.hid hl
  clear hl
  go_enter Tryd.func23, Tryd.ntmps23
  go_wp2_with (first
    | (at_builtin; refine append_rd _ rfl _ _ rfl w.heap.size _ [] rfl (row_empty w _ _ _ (Nat.le_refl _)) ao n cap xs rfl (h.below ((Below.refl _ _).alloc (Nat.le_refl _) _)) hnone (by simp; omega) (by simp) ?_; intro v1 w1 hrow1 hgrow1; rw [List.nil_append] at hrow1)
    | (at_builtin; refine append_rd _ rfl _ _ rfl w.heap.size _ xs rfl (hrow1.alloc _) (some ⟨w1.heap.size, 0, none⟩) 3 3 [71, 72, 73] rfl (rd_three w1 _ _ _ _) (fun hh => by cases hh) (by rw [HL.out]; omega) (by simp; have := hgrow1.size; simp at this; omega) ?_; intro v2 w2 hrow2 hgrow2
       have hB1 : Below w.heap.size w w1 := ((Below.refl _ _).alloc (Nat.le_refl _) _).grown hgrow1 (by simp) (fun j hj => ((row_empty w 5 .u8 w.heap.size (Nat.le_refl _)).lt j hj).1)
       have hB2 : Below w.heap.size w w2 := (hB1.alloc hB1.size _).grown hgrow2 (by simp; have := hB1.size; omega) (fun j hj => (hrow1.lt j hj).1)
       obtain ⟨a2, c2, rfl, rd2, _⟩ := hrow2.rd2
       have hz : (xs ++ [71, 72, 73]).length = n + 3 := by rw [List.length_append, HL.out]; rfl
       rw [hz] at rd2 ⊢
       have hle2 := rd2.le
       have hcl2 := rd2.cap_le
       have hnc2 : n ≤ c2 := by omega
       obtain ⟨b, o, rfl, _⟩ := rd2.cell 0 (by omega)
       clear hgrow1 hgrow2 hrow1 hrow2 hB1 hz))
  go_ret
  exact ⟨_, c2, rfl, rd2, hB2, fun hh => by cases hh⟩
set_option maxHeartbeats 2000000 in
theorem same_calls (w : World) (ao : Option Addr) (n cap : Nat) (xs : List Int) (h : Rd w .u8 ao n cap xs) (ao2 : Option Addr) (cap2 : Nat) (h2 : Rd w .u8 ao2 n cap2 xs) (hn : n ≤ 1125899906842624) :
    Calls Tryd.prog 43 #[.slice ao n cap, .slice ao2 n cap2] w fun e w' => e = .returned (.bool true) ∧ Drew w w' := by
  go_enter Tryd.func43, Tryd.ntmps43
  go_wp2
  go_loopw [5] (fun y wr => ∃ i : Nat, y = .int .i64 i ∧ i ≤ n ∧ Drew w wr) (fun y _ => n - (intOf y).toNat)
  case atStart => exact ⟨0, rfl, by omega, Drew.refl _⟩
  case round =>
    obtain ⟨i, rfl, hi, hd⟩ := hrel
    by_cases hin : i < n
    · obtain ⟨b, o, rfl, hb, hc⟩ := (h.below (hd.below _)).cell i hin
      obtain ⟨b2, o2, rfl, hb2, hc2⟩ := (h2.below (hd.below _)).cell i hin
      have k1 := hc i hin
      have k2 := hc2 i hin
      obtain ⟨x, hx⟩ : ∃ x, x = gt xs i := ⟨_, rfl⟩
      rw [← hx] at k1 k2
      clear hx hc hc2
      go_wp2
      go_quiet (fail)
      go_wp2
      go_roundw
      case rel => exact ⟨i + 1, by go_num, by omega, hd.drewN nq⟩
      case measure => simp [RowKit.intOf]; omega
    · obtain rfl : i = n := by omega
      go_wp2
      go_ret
      exact ⟨rfl, hd⟩
set_option maxHeartbeats 2000000 in
theorem kept_calls (w : World) (ao : Option Addr) (n cap : Nat) (xs : List Int) (h : Rd w .u8 ao (n + 3) cap (xs ++ [71, 72, 73])) (ao2 : Option Addr) (cap2 : Nat) (h2 : Rd w .u8 ao2 n cap2 xs) (hn : n ≤ 1125899906842624) :
    Calls Tryd.prog 31 #[.slice ao n cap, .slice ao2 n cap2] w fun e w' => e = .returned (.bool true) ∧ Drew w w' := by
  have hl := h2.len
  have h1 := h.take (m := n) (by omega)
  have htk : (xs ++ [71, 72, 73]).take n = xs := by rw [← hl]; exact List.take_left
  rw [htk] at h1
  have hle := h.le
  obtain ⟨b, o, rfl, hb, hc⟩ := h.cell 0 (by omega)
  have k0 := hc (n + 0) (by omega)
  have k1 := hc (n + 1) (by omega)
  have k2 := hc (n + 2) (by omega)
  rw [gt_app hl] at k0 k1 k2
  have HK := Lib.hid (fun (W : World) (hd : Drew w W) => And.intro ((show W.cell? ⟨b, o + n, none⟩ = some (.int .u8 71) from ((hd.below w.heap.size).cell (p := ⟨b, o + n, none⟩) hb).trans k0)) (And.intro ((show W.cell? ⟨b, o + (n + 1), none⟩ = some (.int .u8 72) from ((hd.below w.heap.size).cell (p := ⟨b, o + (n + 1), none⟩) hb).trans k1)) (show W.cell? ⟨b, o + (n + 2), none⟩ = some (.int .u8 73) from ((hd.below w.heap.size).cell (p := ⟨b, o + (n + 2), none⟩) hb).trans k2)))
  clear k0 k1 k2 hc hl
  go_enter Tryd.func31, Tryd.ntmps31
  go_wp2_with fail
  refine (same_calls w _ _ _ _ h1 _ _ h2 hn).mono ?_
  rintro e w1 ⟨rfl, hd⟩
  obtain ⟨k0, k1, k2⟩ := HK.out w1 hd
  clear h h1 h2
  go_wp2
  go_ret
  exact ⟨rfl, hd⟩
set_option maxHeartbeats 2000000 in
theorem place_calls (w : World) (a b c d : Int) :
    Calls Tryd.prog 28 #[.agg #[.int .i64 a, .int .i64 b, .int .i64 c, .int .i64 d], .agg #[.int .i64 a, .int .i64 b, .int .i64 c, .int .i64 d]] w fun e w' => e = .returned (.bool true) ∧ Below w.heap.size w w' := by
  go_enter Tryd.func28, Tryd.ntmps28
  go_wp2
  go_ret
  exact ⟨rfl, ((Below.refl _ _).alloc (Nat.le_refl _) _).alloc (by simp) _⟩
end Go.Proofs.YtfmpnfgegcgcaaaDoor
