/- What HuntEarly tries: laws. -/
import Derived.Test.YtgajinnbmnnccaaHuntOnceWalk
import Derived.Test.YtgajinnbmnnccaaFind
import Derived.Laws.BytesArg
import Derived.IntWalk
import Derived.Deep.RegionHeld3
namespace Go.Proofs.Ytgajinnbmnnccaa
open Go.RowKit Gim
theorem enc_zero : enc 0 = [0] := by decide +kernel
theorem encs_zero : ∀ n : Nat, encs (List.replicate n 0) = List.replicate n 0
  | 0 => rfl
  | n + 1 => by rw [List.replicate_succ, encs_cons, encs_zero n, enc_zero]; rfl
theorem rs_zeros (n : Nat) : rs (strOfNums (List.replicate n 0)) = List.replicate n 0 := by
  refine read_encs (fun r hr => ?_) ?_
  · rw [List.eq_of_mem_replicate hr]
    unfold Ch
    omega
  · rw [List.drop_zero, strOfNums_data, encs_zero, List.map_replicate]
    rfl
theorem endsB_one_two {l : List Int} (h : endsB l [1] = true) : endsB l [2] = false := by
  rw [← Bool.not_eq_true]
  intro h2
  obtain ⟨m, hm⟩ := ends_one.1 h
  obtain ⟨m2, hm2⟩ := ends_one.1 h2
  rw [hm] at hm2
  have := List.append_inj_right' hm2 rfl
  cases this
theorem triesL_1 (N k : Nat) (x : Int) (s : ByteArray) : triesL (rs s) N k x 1 = rs s := rfl
theorem triesL_2 (N k : Nat) (x : Int) (s : ByteArray) : triesL (rs s) N k x 2 = (rs s).drop k := rfl
theorem triesL_5 (N k : Nat) (x : Int) (s : ByteArray) : triesL (rs s) N k x 5 = [x] := rfl
theorem triesL_3 {N k : Nat} (s : ByteArray) (x : Int) (h1 : k < N) (h2 : N - k < 2000) : triesL (rs s) N k x 3 = List.replicate (N - k) 0 := by
  show (if k < N ∧ N - k < 2000 then List.replicate (N - k) (0 : Int) else []) = _
  exact if_pos ⟨h1, h2⟩
theorem triesL_4 {N k : Nat} (s : ByteArray) (x : Int) (h1 : k < N + 1) (h2 : N + 1 - k < 2000) : triesL (rs s) N k x 4 = List.replicate (N + 1 - k) 0 := by
  show (if k < N + 1 ∧ N + 1 - k < 2000 then List.replicate (N + 1 - k) (0 : Int) else []) = _
  exact if_pos ⟨h1, h2⟩
theorem triesL_3n {N k : Nat} (s : ByteArray) (x : Int) (h : ¬ (k < N ∧ N - k < 2000)) : triesL (rs s) N k x 3 = [] := by
  show (if k < N ∧ N - k < 2000 then List.replicate (N - k) (0 : Int) else []) = _
  exact if_neg h
theorem triesL_4n {N k : Nat} (s : ByteArray) (x : Int) (h : ¬ (k < N + 1 ∧ N + 1 - k < 2000)) : triesL (rs s) N k x 4 = [] := by
  show (if k < N + 1 ∧ N + 1 - k < 2000 then List.replicate (N + 1 - k) (0 : Int) else []) = _
  exact if_neg h
/-- has one of the first n tries come to v? -/
def tried (c : Int) (N : Nat) (s : ByteArray) (L : List Int) (k : Nat) (x v : Int) (n : Nat) : Bool := (List.range n).any fun i => decide (tB c N (askedT c s) (L ++ triesL (rs s) N k x i) true = v)
theorem tried_next (c : Int) (N : Nat) (s : ByteArray) (L : List Int) (k : Nat) (x v : Int) (n : Nat) : tried c N s L k x v (n + 1) = (tried c N s L k x v n || decide (tB c N (askedT c s) (L ++ triesL (rs s) N k x n) true = v)) := by
  unfold tried
  rw [List.range_succ, List.any_append]
  simp
theorem tried_all {c : Int} {N : Nat} {s : ByteArray} {L : List Int} {k : Nat} {x v : Int} (h : ∃ i, i < 6 ∧ tB c N (askedT c s) (L ++ triesL (rs s) N k x i) true = v) : tried c N s L k x v 6 = true := by
  obtain ⟨i, hi, h⟩ := h
  unfold tried
  rw [List.any_eq_true]
  exact ⟨i, List.mem_range.2 hi, decide_eq_true h⟩
theorem subI_drop (l : List Int) (k : Nat) : subI l k l.length = l.drop k := by
  unfold subI
  split
  · have : l.length = 0 := by omega
    rw [List.eq_nil_of_length_eq_zero this]; simp
  · rw [if_neg (by omega), Int.toNat_natCast, Int.toNat_natCast]
    exact List.take_of_length_le (by simp)
theorem made_conv {w : World} {B g n : Nat} (h : w.ownsRow B 5 1 (.slice (some ⟨g, 0, none⟩) n n) n (madeCells (Value.int .u8 0).cells (n * 1)).toList) :
    (convert 58 9 (.slice (some ⟨g, 0, none⟩) n n)).run Try.prog w = .ok (.string (strOfNums (List.replicate n 0))) w := by
  rw [madeInts] at h
  have hr : Row w B 5 .u8 (.slice (some ⟨g, 0, none⟩) n n) (List.replicate n 0) := by
    unfold Row; rw [List.length_replicate]; exact h
  exact run_convert_bytes_arg w 58 5 Try.underlying58 Try.underlying5 g 0 n n _ (by simp) (fun i hi => by
    have := hr.cell (j := i) (by simp; omega)
    rw [Nat.zero_add, this]
    simp [gt, hi]) 9 Try.underlying9
theorem info_u8 : (Try.prog.info? 5).map (fun i => (i.zero, i.size, i.bytes)) = some (some (.int .u8 0), 1, 1) := by kernel_rfl
theorem wrap_low {k : Nat} {z : Int} (h1 : k ≠ 0) (h2 : k ≤ 1048576) (hz : z = 9223372036854775808 - k) : IntKind.i64.wrap (-9223372036854775808 - (k : Int)) = z := by
  rw [IntKind.wrap_i64]; omega
theorem int_beq (a b : Int) : (a == b) = decide (a = b) := by rw [Bool.eq_iff_iff, beq_iff_eq, decide_eq_true_eq]
theorem empty_size {s : ByteArray} (h : s.toList.isEmpty = true) : s.size = 0 := by
  rw [ByteArray.toList_eq, List.isEmpty_iff] at h
  show s.data.toList.length = 0
  rw [h]; rfl
theorem empty_rs {s : ByteArray} (h : s.toList.isEmpty = true) : rs s = [] := rsAt_end (by rw [empty_size h]; omega)
theorem full_rs {s : ByteArray} (h : s.toList.isEmpty = false) : rs s ≠ [] := fun e => by
  have hz : s.size ≠ 0 := fun hz => by
    rw [ByteArray.toList_eq] at h
    have h2 : s.data.toList.length = 0 := hz
    rw [List.eq_nil_of_length_eq_zero h2] at h
    cases h
  have := rsAt_next (s := s) (p := 0) (by omega)
  unfold rs at e
  rw [e] at this
  cases this
end Go.Proofs.Ytgajinnbmnnccaa
