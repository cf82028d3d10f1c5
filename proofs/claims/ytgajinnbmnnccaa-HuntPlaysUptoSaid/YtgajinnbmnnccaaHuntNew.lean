/- The walk of hunt.New. -/
import Derived.Test.YtgajinnbmnnccaaHuntAdd
namespace Go.Proofs.Ytgajinnbmnnccaa
open Go.RowKit Gim
def askedT (c : Int) (s : ByteArray) : List Int := if 1 ≤ c ∧ c ≤ 5 then rs s else []
theorem askedT_fl (c : Int) (s : ByteArray) (h : ¬ (1 ≤ c ∧ c ≤ 5)) : askedT c s = [] := if_neg h
def NewOK (w : World) (c : Int) (N : Nat) (T : List Int) (e : Ending) (w' : World) : Prop :=
  ∃ tv bv, e = .returned (.tuple #[.pointer (some ⟨w.heap.size, 0, none⟩), .int .i64 0]) ∧ St w' (w.heap.size + 1) w.heap.size c N T tv bv [] false ∧ Below w.heap.size w w'
def NewErr (w : World) (z : Int) (e : Ending) (w' : World) : Prop := e = .returned (.tuple #[.pointer none, .int .i64 z]) ∧ w' = w
set_option maxHeartbeats 1000000 in
theorem new_kind (w : World) (c : Int) (s : ByteArray) (num : Int) (hc : c < 0 ∨ 8 < c) : Calls Try.prog 9 #[.int .i64 c, .string s, .int .i64 num] w (NewErr w 4) := by
  by_cases h0 : c < 0
  · go_enter Try.func9, Try.ntmps9
    go_wp2
    exact bodyPost_ret (results_tmp2 rfl _ _ _) rfl ⟨by simp, rfl⟩
  · have h1 : (8 : Int) < c := by omega
    go_enter Try.func9, Try.ntmps9
    go_wp2
    exact bodyPost_ret (results_tmp2 rfl _ _ _) rfl ⟨by simp, rfl⟩
set_option maxHeartbeats 1000000 in
theorem new_range (w : World) (c : Int) (s : ByteArray) (num : Int) (hc0 : 0 ≤ c) (hc8 : c ≤ 8) (hn : num < 0) : Calls Try.prog 9 #[.int .i64 c, .string s, .int .i64 num] w (NewErr w 2) := by
  have h0 : ¬ c < 0 := by omega
  have h1 : ¬ (8 : Int) < c := by omega
  go_enter Try.func9, Try.ntmps9
  go_wp2
  exact bodyPost_ret (results_tmp2 rfl _ _ _) rfl ⟨by simp, rfl⟩
set_option maxHeartbeats 1000000 in
theorem new_calls (w : World) (c : Int) (s : ByteArray) (N : Nat) (hc0 : 0 ≤ c) (hc8 : c ≤ 8) (hs : s.size ≤ 1099511627776) : Calls Try.prog 9 #[.int .i64 c, .string s, .int .i64 N] w (NewOK w c N (askedT c s)) := by
  have h0 : ¬ c < 0 := by omega
  have h1 : ¬ (8 : Int) < c := by omega
  have h2 : ¬ ((N : Int) < 0) := by omega
  by_cases hk : 1 ≤ c ∧ c ≤ 5
  · have h3 : (1 : Int) ≤ c := hk.1
    have h4 : c ≤ (5 : Int) := hk.2
    have l1 := rs_length s
    have hB : ∀ w, Calls Try.prog 27 #[.string s] w (GivesFull w 3 .i64 (brs (rs s))) := fun w => border s w hs
    rw [show askedT c s = rs s from if_pos hk]
    have hA : (w.alloc (Obj.cells #[.int .i64 c, .slice none 0 0, .slice none 0 0, .int .i64 N, .int .i64 0, .int .i64 0, .bool false, .bool false, .bool false] 63)).heap[w.heap.size]? = some (Obj.cells #[.int .i64 c, .slice none 0 0, .slice none 0 0, .int .i64 N, .int .i64 0, .int .i64 0, .bool false, .bool false, .bool false] 63) := heap_alloc_new w _
    have HA := Lib.hid hA
    clear hA
    go_enter Try.func9, Try.ntmps9
    go_wp2_with (refine wpList_convRunes _ rfl _ 9 41 21 rfl s rfl Try.underlying9 Try.underlying41 Try.underlying21 hs ?_
                 intro v w2 hrow hgrow
                 obtain ⟨ao, cp, rfl, rdo⟩ := hrow.rd
                 have HH2 := Lib.hid ((hgrow.block w.heap.size (by simp) (by simp)).trans HA.out)
                 have HG := Lib.hid hgrow
                 have hsz := hgrow.size
                 clear hgrow
                 have c1 : w2.cell? ⟨w.heap.size, 1, none⟩ = some (.slice none 0 0) := by simp [World.cell?, HH2.out]
                 have f1 : w2.frozen? ⟨w.heap.size, 1, none⟩ = false := by simp [World.frozen?, HH2.out])
    have hH3 := set_at (i := 1) HH2.out (.slice ao (rs s).length cp)
    refine (hB _).mono ?_
    rintro e w3 ⟨g, rfl, hrow3, hb3⟩
    have hsz2 : (w2.setCell ⟨w.heap.size, 1, none⟩ (.slice ao (rs s).length cp)).heap.size = w2.heap.size := by simp [World.setCell]
    rw [hsz2] at hrow3 hb3
    have hsz3 : w.heap.size + 1 ≤ w2.heap.size := by simpa using hsz
    have HH3 := Lib.hid ((hb3.block w.heap.size (by omega)).trans hH3)
    clear hH3
    have c1' : w3.cell? ⟨w.heap.size, 1, none⟩ = some (.slice ao (rs s).length cp) := by simp [World.cell?, HH3.out]
    have c2 : w3.cell? ⟨w.heap.size, 2, none⟩ = some (.slice none 0 0) := by simp [World.cell?, HH3.out]
    have c7 : w3.cell? ⟨w.heap.size, 7, none⟩ = some (.bool false) := by simp [World.cell?, HH3.out]
    have f2 : w3.frozen? ⟨w.heap.size, 2, none⟩ = false := by simp [World.frozen?, HH3.out]
    have f7 : w3.frozen? ⟨w.heap.size, 7, none⟩ = false := by simp [World.frozen?, HH3.out]
    have u0 : (((rs s).length : Int) == 0) = decide ((rs s).length = 0) := by
      by_cases h : (rs s).length = 0
      · simp [h]
      · simp only [h, decide_false]; exact beq_eq_false_iff_ne.2 (by omega)
    have HB3 := Lib.hid hb3
    clear hb3 hB
    go_wp2
    go_ret2
    have HB3' : Below (w2.setCell ⟨w.heap.size, 1, none⟩ (.slice ao (rs s).length cp)).heap.size (w2.setCell ⟨w.heap.size, 1, none⟩ (.slice ao (rs s).length cp)) w3 := by rw [hsz2]; exact HB3.out
    have hF3 : Fr (fun j => j = w.heap.size) w2 w3 := ((Fr.refl (fun j => j = w.heap.size) w2).set w.heap.size 1 (.slice ao (rs s).length cp) rfl).trans (Fr.of HB3')
    have hS3 := hF3.size
    have hlt : ∀ g, w.heap.size + 1 ≤ g → ¬ g = w.heap.size := fun g h => by omega
    refine ⟨.slice ao (rs s).length cp, .slice (some ⟨g, 0, none⟩) (brs (rs s)).length (brs (rs s)).length, rfl, ⟨0, ⟨?_, ?_, ?_, by omega, ?_⟩, mx_nil _⟩, ?_⟩
    · rw [set_at (set_at HH3.out _), cameN_nil, offB_nil, show fdB c [] (rs s) = decide (rs s = []) by unfold fdB; rw [fndB_nil]; simp [hk]]
      rfl
    · exact (hrow.mono (by simp)).fr ((hF3.set w.heap.size 2 _ rfl).set w.heap.size 7 _ rfl) hlt
    · exact (hrow3.mono hsz3).fr (((Fr.refl (fun j => j = w.heap.size) w3).set w.heap.size 2 _ rfl).set w.heap.size 7 _ rfl) hlt
    · simp [World.setCell]; omega
    · have hb1 : Below w.heap.size w (w.alloc (Obj.cells #[.int .i64 c, .slice none 0 0, .slice none 0 0, .int .i64 N, .int .i64 0, .int .i64 0, .bool false, .bool false, .bool false] 63)) := (Below.refl _ _).alloc (Nat.le_refl _) _
      have hb2 := Below.setCell (hb1.grown HG.out (by simp) (fun k hk => by cases hk)) (p := ⟨w.heap.size, 1, none⟩) (Nat.le_refl _) (.slice ao (rs s).length cp)
      have hb4 := hb2.trans (HB3.out.mono (by omega))
      exact Below.setCell (Below.setCell hb4 (p := ⟨w.heap.size, 2, none⟩) (Nat.le_refl _) _) (p := ⟨w.heap.size, 7, none⟩) (Nat.le_refl _) _
  · rw [show askedT c s = [] from if_neg hk]
    have hA : (w.alloc (Obj.cells #[.int .i64 c, .slice none 0 0, .slice none 0 0, .int .i64 N, .int .i64 0, .int .i64 0, .bool false, .bool false, .bool false] 63)).heap[w.heap.size]? = some (Obj.cells #[.int .i64 c, .slice none 0 0, .slice none 0 0, .int .i64 N, .int .i64 0, .int .i64 0, .bool false, .bool false, .bool false] 63) := heap_alloc_new w _
    have hS : NewOK w c N [] (.returned (.tuple #[.pointer (some ⟨w.heap.size, 0, none⟩), .int .i64 0])) (w.alloc (Obj.cells #[.int .i64 c, .slice none 0 0, .slice none 0 0, .int .i64 N, .int .i64 0, .int .i64 0, .bool false, .bool false, .bool false] 63)) := by
      refine ⟨.slice none 0 0, .slice none 0 0, rfl, ⟨0, ⟨?_, World.ownsRow_nil _ _ _ _, World.ownsRow_nil _ _ _ _, by omega, by simp⟩, mx_none⟩, (Below.refl _ _).alloc (Nat.le_refl _) _⟩
      rw [cameN_nil, offB_nil, show fdB c [] [] = false by simp [fdB, hk]]
      exact hA
    have HS := Lib.hid hS
    clear hS hA
    go_enter Try.func9, Try.ntmps9
    by_cases h3 : (1 : Int) ≤ c
    · have h4 : ¬ c ≤ (5 : Int) := fun h => hk ⟨h3, h⟩
      go_wp2
      go_ret2
      exact HS.out
    · go_wp2
      go_ret2
      exact HS.out
end Go.Proofs.Ytgajinnbmnnccaa
