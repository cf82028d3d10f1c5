/- The walk of runes.Byte. -/
import Derived.Test.YtfmpnfgegcgcaaaDoorPlacesLaw
namespace Gim
open Go
theorem pr_step {s : ByteArray} {p n : Nat} (hp : p < s.size) (h : (prAt s 0).drop n = prAt s p) : n < (prAt s 0).length ∧ ((prAt s 0)[n]?.map (·.1)) = some p ∧ (prAt s 0).drop (n + 1) = prAt s (p + (Utf8.decode s p).2) := by
  rw [prAt_next hp] at h
  have hl := congrArg List.length h
  simp at hl
  have hn : n < (prAt s 0).length := by omega
  rw [List.drop_eq_getElem_cons hn] at h
  injection h with h1 h2
  exact ⟨hn, by rw [List.getElem?_eq_getElem hn, h1]; rfl, h2⟩
theorem pr_stop {s : ByteArray} {p n : Nat} (hp : ¬ p < s.size) (hn : n ≤ (prAt s 0).length) (h : (prAt s 0).drop n = prAt s p) : (prAt s 0).length = n := by
  rw [prAt_end hp] at h
  have := List.drop_eq_nil_iff.1 h
  omega
end Gim
namespace Go.Proofs.YtfmpnfgegcgcaaaDoor
open Go.RowKit Gim
set_option maxHeartbeats 1000000 in
theorem byte_calls (s : ByteArray) (i : Int) (w : World) (hs : s.size ≤ 1125899906842624) :
    Calls Tryd.prog 32 #[.string s, .int .i64 i] w fun e w' => e = .returned (.tuple #[.int .i64 (byteB s i).1, .int .i64 (byteB s i).2]) ∧ Below w.heap.size w w' := by
  go_enter Tryd.func32, Tryd.ntmps32
  go_wp2
  go_loopw [6] (fun v wr => ∃ (pos n : Nat), v = .int .i64 n ∧ wr.heap[w.heap.size]? = some (.stringIter s pos) ∧ Below w.heap.size w wr ∧ Hid ((prAt s 0).drop n = prAt s pos) ∧ Hid (n ≤ (prAt s 0).length) ∧ n ≤ pos ∧ ¬ (0 ≤ i ∧ i < n)) (fun _ wr => s.size - wr.iterPos w.heap.size)
  case atStart => exact ⟨0, 0, rfl, World.iter_heap w s 0, (Below.refl _ _).alloc (Nat.le_refl _) _, Lib.hid rfl, Lib.hid (Nat.zero_le _), by omega, by omega⟩
  case round =>
    obtain ⟨pos, n, rfl, hit, hbw, HS, HN, hlen, hi⟩ := hrel
    have hpos0 := iterPos_of hit
    by_cases hp : pos < s.size
    · obtain ⟨W1, hnx, hw1⟩ := next_some (P := Tryd.prog) hit hp
      have hwd := Lib.decode_width_pos s pos hp
      have hbw2 := hw1.below _ _ hbw (Nat.le_refl _)
      obtain ⟨h1, h2, h3⟩ := pr_step hp HS.out
      have H3 := Lib.hid h3
      have H1 := Lib.hid (show n + 1 ≤ (prAt s 0).length from h1)
      by_cases hni : i = n
      · have HB := Lib.hid (show byteB s i = ((pos : Int), 0) by
          rw [byteB, if_pos (by omega), hni, Int.toNat_natCast]; have hm := congrArg (fun o : Option Nat => (o.map fun x : Nat => (x : Int)).getD 0) h2; simp only [Option.map_map] at hm ⊢; exact Prod.ext hm rfl)
        subst hni
        clear hit hbw h1 h2 h3 HS HN
        go_wp2
        (try simp only [Exit.inBlock, Exit.then]); refine bodyPost_ret (results_tmp2 rfl _ _ _) rfl ?_
        exact ⟨by rw [HB.out]; rfl, hbw2⟩
      · have hd : ((n : Int) == i) = false := by simp; omega
        clear hit hbw h1 h2 h3 HS HN
        go_wp2
        go_roundw
        case rel => exact ⟨_, n + 1, by go_num, hw1.it, hbw2, H3, H1, by omega, by omega⟩
        case measure => rw [hw1.at_, hpos0]; omega
    · have hnx : ∀ ty, (Instr.next (.pointer (some ⟨w.heap.size, 0, none⟩)) true ty).run Tryd.prog wr = _ := fun ty => Lib.run_next_end_at wr w.heap.size s pos ty hit hp
      have e := pr_stop hp HN.out HS.out
      by_cases hni : i = n
      · have HB := Lib.hid (show byteB s i = ((s.size : Int), 0) by
          rw [byteB, if_neg (by omega), if_pos (by omega)])
        subst hni
        clear e HS HN
        go_wp2
        (try simp only [Exit.inBlock, Exit.then]); refine bodyPost_ret (results_tmp2 rfl _ _ _) rfl ?_
        exact ⟨by rw [HB.out]; rfl, hbw⟩
      · have HB := Lib.hid (show byteB s i = (0, 2) by
          rw [byteB, if_neg (by omega), if_neg (by omega)])
        have hd : ((n : Int) == i) = false := by simp; omega
        clear e HS HN
        go_wp2
        (try simp only [Exit.inBlock, Exit.then]); refine bodyPost_ret (results_tmp2 rfl _ _ _) rfl ?_
        exact ⟨by rw [HB.out]; rfl, hbw⟩
end Go.Proofs.YtfmpnfgegcgcaaaDoor
