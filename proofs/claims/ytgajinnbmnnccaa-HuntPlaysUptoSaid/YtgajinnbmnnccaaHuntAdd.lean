/- The walk of hunt's Add. -/
import Derived.Test.YtgajinnbmnnccaaHuntTake
namespace Go.Proofs.Ytgajinnbmnnccaa
open Go.RowKit Gim
theorem cameN_le (l T : List Int) (N : Nat) : cameN l T N ≤ l.length := by unfold cameN; omega
theorem St.fr {p : Nat → Prop} {w w' : World} {B H : Nat} {c : Int} {N : Nat} {T : List Int} {tv bv : Value} {l : List Int} {whole : Bool} (h : St w B H c N T tv bv l whole) (hf : Fr p w w') (hH : ¬ p H) (ho : ∀ g, B ≤ g → ¬ p g) : St w' B H c N T tv bv l whole := by
  obtain ⟨k, hm, hk⟩ := h
  exact ⟨k, hm.fr hf hH ho, hk⟩
theorem take_calls (w : World) (B H : Nat) (c : Int) (N : Nat) (T : List Int) (tv bv : Value) (l : List Int) (whole : Bool) (r : Int) (h : St w B H c N T tv bv l whole) (hfl : ¬ (1 ≤ c ∧ c ≤ 5) → T = []) (hl : l.length ≤ 2 ^ 62) :
    Calls Try.prog 28 #[.pointer (some ⟨H, 0, none⟩), .int .i32 r] w (Adds w B H c N T tv bv (l ++ [r]) whole (.tuple #[])) := by
  obtain ⟨k, hm, hk⟩ := h
  have hcm := cameN_le l T N
  by_cases hT : T.length = 0
  · have hTn : T = [] := List.eq_nil_of_length_eq_zero hT
    refine (take_none w B H c N T tv bv _ k _ _ whole r hm hT (by omega) _ rfl).mono ?_
    rintro e w' ⟨rfl, hf, hm'⟩
    rw [← cameN_snoc l T r N] at hm'
    subst hTn
    have hk0 : k = 0 := hk.eq mx_none
    subst hk0
    refine ⟨rfl, hf, 0, ?_, mx_none⟩
    have e1 : offB (l ++ [r]) [] = offB l [] := by rw [offB_snoc]; simp
    have e2 : fdB c (l ++ [r]) [] = fdB c l [] := by unfold fdB; rw [fndB_none, fndB_none]
    rw [e1, e2]
    exact hm'
  · have hc : 1 ≤ c ∧ c ≤ 5 := Classical.byContradiction fun h => hT (by rw [hfl h]; rfl)
    refine (take_some w B H c N T tv bv _ k _ _ whole l r hm hk (by omega) (by omega)).mono ?_
    rintro e w' ⟨rfl, hf, k', hk', hm'⟩
    rw [← cameN_snoc l T r N, ← off_of] at hm'
    refine ⟨rfl, hf, k', ?_, hk'⟩
    have e2 : fdB c (l ++ [r]) T = (fdB c l T || decide (k' = T.length)) := by
      unfold fdB
      rw [fndB_snoc hk']
      simp [hc]
    rw [e2]
    exact hm'
set_option maxHeartbeats 1000000 in
theorem add_calls (w : World) (B H : Nat) (c : Int) (N : Nat) (T : List Int) (tv bv : Value) (l : List Int) (s : ByteArray) (h : St w B H c N T tv bv l false) (hfl : ¬ (1 ≤ c ∧ c ≤ 5) → T = []) (hl : l.length + s.size ≤ 2 ^ 62) :
    Calls Try.prog 10 #[.pointer (some ⟨H, 0, none⟩), .string s] w (Adds w B H c N T tv bv (l ++ rs s) false (.int .i64 0)) := by
  have c8 : w.cell? ⟨H, 8, none⟩ = some (.bool false) := by
    obtain ⟨k, hm, _⟩ := h
    simp [World.cell?, hm.hH]
  have hlt : H < B ∧ B ≤ w.heap.size := by
    obtain ⟨k, hm, _⟩ := h
    exact ⟨hm.lt, hm.le⟩
  go_enter Try.func10, Try.ntmps10
  go_wp2
  go_loopw [] (fun wr => ∃ (pos : Nat) (done : List Int), wr.heap[w.heap.size]? = some (.stringIter s pos) ∧ St wr B H c N T tv bv (l ++ done) false ∧ Fr (fun j => j = H) w wr ∧ Hid (done ++ rsAt s pos = rs s) ∧ done.length ≤ pos) (fun wr => s.size - wr.iterPos w.heap.size)
  case atStart => exact ⟨0, [], World.iter_heap w s 0, by rw [List.append_nil]; exact h.fr (Fr.of (p := fun _ => False) ((Below.refl _ _).alloc (Nat.le_refl _) _)) (fun x => x) (fun _ _ x => x), Fr.of ((Below.refl _ _).alloc (Nat.le_refl _) _), rfl, by simp⟩
  case round =>
    obtain ⟨pos, done, hit, hst, hf, HS, hlen⟩ := hrel
    have hpos0 := iterPos_of hit
    by_cases hp : pos < s.size
    · obtain ⟨W1, hnx, hw1⟩ := next_some (P := Try.prog) hit hp
      have hwd := Lib.decode_width_pos s pos hp
      have hst2 : St W1 B H c N T tv bv (l ++ done) false := by
        obtain ⟨k, hm, hk⟩ := hst
        exact ⟨k, ⟨(hw1.other H (by omega)).trans hm.hH, hw1.owns _ _ _ _ _ _ hm.rt, hw1.owns _ _ _ _ _ _ hm.rb, hm.lt, by have := hw1.size; have := hm.le; omega⟩, hk⟩
      have hf2 : Fr (fun j => j = H) w W1 := by
        have hb := hw1.below w.heap.size wr (Below.refl _ _) (Nat.le_refl _)
        exact ⟨hb.os.trans hf.os, hb.tape.trans hf.tape, hb.output.trans hf.output, Nat.le_trans hf.size (by have := hw1.size; omega), fun j hj hp => (hw1.other j (by omega)).trans (hf.block j hj hp)⟩
      clear hit hst hf
      go_wp2_with fail
      refine (take_calls W1 B H c N T tv bv (l ++ done) false _ hst2 hfl (by simp; omega)).mono ?_
      rintro e w3 ⟨rfl, hf3, hst3⟩
      have hit3 := (hf3.block w.heap.size (Array.getElem?_eq_some_iff.1 hw1.it).1 (by omega)).trans hw1.it
      go_wp2
      go_roundw
      case rel => exact ⟨_, done ++ [_], hit3, by rw [← List.append_assoc]; exact hst3, hf2.trans hf3, by have := HS.out; rw [rsAt_next hp] at this; simpa [Hid] using this, by simp; omega⟩
      case measure => rw [iterPos_of hit3, hpos0]; omega
    · have hnx : ∀ ty, (Instr.next (.pointer (some ⟨w.heap.size, 0, none⟩)) true ty).run Try.prog wr = _ := fun ty => Lib.run_next_end_at wr w.heap.size s pos ty hit hp
      have e : done = rs s := by have := HS.out; rw [rsAt_end hp] at this; simpa using this
      subst e
      go_wp2
      go_ret
      exact ⟨rfl, hf, hst⟩
end Go.Proofs.Ytgajinnbmnnccaa
