/- The walk of hunt's Add. -/
import Derived.Test.YtkhejkfjhddobaaGreatDoorHuntTakeNM
set_option maxHeartbeats 1000000
namespace Go.Proofs.YtkhejkfjhddobaaGreatDoor
open Go.RowKit Gim
theorem cameN_le (l T : List Int) (N : Nat) : cameN l T N ≤ l.length := by unfold cameN; omega
theorem St.fr {p : Nat → Prop} {w w' : World} {B H : Nat} {c : Int} {N : Nat} {T : List Int} {tv bv : Value} {l : List Int} {whole : Bool} (h : St w B H c N T tv bv l whole) (hf : Fr p w w') (hH : ¬ p H) (ho : ∀ g, B ≤ g → ¬ p g) : St w' B H c N T tv bv l whole := by
 obtain ⟨k, hm, hk⟩ := h
 exact ⟨k, hm.fr hf hH ho, hk⟩
theorem take_calls (w : World) (B H : Nat) (c : Int) (N : Nat) (T : List Int) (tv bv : Value) (l : List Int) (whole : Bool) (r : Int) (h : St w B H c N T tv bv l whole) (hfl : ¬ (1 ≤ c ∧ c ≤ 5) → T = []) (hl : l.length ≤ 2 ^ 62) :
  Calls Tryz.prog 89 #[.pointer (some ⟨H, 0, none⟩), .int .i32 r] w (Adds w B H c N T tv bv (l ++ [r]) whole (.tuple #[])) := by
 obtain ⟨k, hm, hk⟩ := h
 have hcm := cameN_le l T N
 by_cases hT : T.length = 0
 ·have hTn : T = [] := List.eq_nil_of_length_eq_zero hT
  refine (take_none w B H c N T tv bv _ k _ _ whole r hm hT (by omega) _ rfl).mono ?_
  rintro e w' ⟨rfl, hf, hm'⟩
  rw [← cameN_snoc l T r N] at hm'
  subst hTn
  have hk0 : k = 0 := hk.eq mx_none
  subst hk0
  refine ⟨rfl, hf, 0, ?_, mx_none⟩
  have e1 : offB (l ++ [r]) [] = offB l [] := by rw [offB_snoc]; simp
  have e2 : fdB c (l ++ [r]) [] = fdB c l [] := by unfold fdB; rw [fndB_none, fndB_none]
  rw [e1, e2]
  exact hm'
 ·have hc : 1 ≤ c ∧ c ≤ 5 := Classical.byContradiction fun h => hT (by rw [hfl h]; rfl)
  refine (take_some w B H c N T tv bv _ k _ _ whole l r hm hk (by omega) (by omega)).mono ?_
  rintro e w' ⟨rfl, hf, k', hk', hm'⟩
  rw [← cameN_snoc l T r N, ← off_of] at hm'
  refine ⟨rfl, hf, k', ?_, hk'⟩
  have e2 : fdB c (l ++ [r]) T = (fdB c l T || decide (k' = T.length)) := by
   unfold fdB
   rw [fndB_snoc hk']
   simp [hc]
  rw [e2]
  exact hm'
theorem add_calls (w : World) (B H : Nat) (c : Int) (N : Nat) (T : List Int) (tv bv : Value) (l : List Int) (s : ByteArray) (h : St w B H c N T tv bv l false) (hfl : ¬ (1 ≤ c ∧ c ≤ 5) → T = []) (hl : l.length + s.size ≤ 2 ^ 62) :
  Calls Tryz.prog 58 #[.pointer (some ⟨H, 0, none⟩), .string s] w (Adds w B H c N T tv bv (l ++ rs s) false (.int .i64 0)) := by
 have c8 : w.cell? ⟨H, 8, none⟩ = some (.bool false) := by
  obtain ⟨k, hm, _⟩ := h
  simp [World.cell?, hm.hH]
 have hlt : H < B ∧ B ≤ w.heap.size := by
  obtain ⟨k, hm, _⟩ := h
  exact ⟨hm.lt, hm.le⟩
 go_enter Tryz.func58, Tryz.ntmps58
 go_wp2
 go_loopw [] (fun wr => ∃ (pos : Nat) (done : List Int), wr.heap[w.heap.size]? = some (.stringIter s pos) ∧ St wr B H c N T tv bv (l ++ done) false ∧ Fr (fun j => j = H) w wr ∧ Hid (done ++ rsAt s pos = rs s) ∧ done.length ≤ pos) (fun wr => s.size - wr.iterPos w.heap.size)
 case atStart => exact ⟨0, [], World.iter_heap w s 0, by rw [List.append_nil]; exact h.fr (Fr.of (p := fun _ => False) ((jf _ _).alloc (jr _) _)) (fun x => x) (fun _ _ x => x), Fr.of ((jf _ _).alloc (jr _) _), rfl, by simp⟩
 case round =>
  obtain ⟨pos, done, hit, hst, hf, HS, hlen⟩ := hrel
  have hpos0 := iterPos_of hit
  by_cases hp : pos < s.size
  ·obtain ⟨W1, hnx, hw1⟩ := next_some (P := Tryz.prog) hit hp
   have hwd := Lib.decode_width_pos s pos hp
   have hst2 : St W1 B H c N T tv bv (l ++ done) false := by
    obtain ⟨k, hm, hk⟩ := hst
    exact ⟨k, ⟨(hw1.other H (by omega)).trans hm.hH, hw1.owns _ _ _ _ _ _ hm.rt, hw1.owns _ _ _ _ _ _ hm.rb, hm.lt, by have := hw1.size; have := hm.le; omega⟩, hk⟩
   have hf2 : Fr (fun j => j = H) w W1 := by
    have hb := hw1.below w.heap.size wr (jf _ _) (jr _)
    exact ⟨hb.os.trans hf.os, hb.tape.trans hf.tape, hb.output.trans hf.output, ju hf.size (by have := hw1.size; omega), fun j hj hp => (hw1.other j (by omega)).trans (hf.block j hj hp)⟩
   clear hit hst hf
   go_wp2_with fail
   refine (take_calls W1 B H c N T tv bv (l ++ done) false _ hst2 hfl (by simp; omega)).mono ?_
   rintro e w3 ⟨rfl, hf3, hst3⟩
   have hit3 := (hf3.block w.heap.size (jl hw1.it) (by omega)).trans hw1.it
   go_wp2
   go_roundw
   case rel => exact ⟨_, done ++ [_], hit3, by rw [← List.append_assoc]; exact hst3, hf2.trans hf3, by have := HS.out; rw [rsAt_next hp] at this; simpa [Hid] using this, by simp; omega⟩
   case measure => rw [iterPos_of hit3, hpos0]; omega
  ·have hnx : ∀ ty, (Instr.next (.pointer (some ⟨w.heap.size, 0, none⟩)) true ty).run Tryz.prog wr = _ := fun ty => Lib.run_next_end_at wr w.heap.size s pos ty hit hp
   have e : done = rs s := by have := HS.out; rw [rsAt_end hp] at this; simpa using this
   subst e
   go_wp2
   go_ret
   exact ⟨rfl, hf, hst⟩
def askedT (c : Int) (s : ByteArray) : List Int := if 1 ≤ c ∧ c ≤ 5 then rs s else []
theorem askedT_fl (c : Int) (s : ByteArray) (h : ¬ (1 ≤ c ∧ c ≤ 5)) : askedT c s = [] := if_neg h
def NewOK (w : World) (c : Int) (N : Nat) (T : List Int) (e : Ending) (w' : World) : Prop :=
 ∃ tv bv, e = .returned (.tuple #[.pointer (some ⟨w.heap.size, 0, none⟩), .int .i64 0]) ∧ St w' (w.heap.size + 1) w.heap.size c N T tv bv [] false ∧ Below w.heap.size w w'
set_option maxRecDepth 100000 in
theorem new_calls (w : World) (c : Int) (s : ByteArray) (N : Nat) (hc0 : 0 ≤ c) (hc8 : c ≤ 8) (hs : s.size ≤ 1099511627776) : Calls Tryz.prog 64 #[.int .i64 c, .string s, .int .i64 N] w (NewOK w c N (askedT c s)) := by
 have h0 : ¬ c < 0 := by omega
 have h1 : ¬ (8 : Int) < c := by omega
 have h2 : ¬ ((N : Int) < 0) := by omega
 by_cases hk : 1 ≤ c ∧ c ≤ 5
 ·have h3 : (1 : Int) ≤ c := hk.1
  have h4 : c ≤ (5 : Int) := hk.2
  have l1 := rs_length s
  have hB : ∀ w, Calls Tryz.prog 101 #[.string s] w (GivesFull w 3 .i64 (brs (rs s))) := fun w => border s w hs
  rw [show askedT c s = rs s from if_pos hk]
  have hA : (w.alloc (Obj.cells #[.int .i64 c, .slice none 0 0, .slice none 0 0, .int .i64 N, .int .i64 0, .int .i64 0, .bool false, .bool false, .bool false] 158)).heap[w.heap.size]? = some (Obj.cells #[.int .i64 c, .slice none 0 0, .slice none 0 0, .int .i64 N, .int .i64 0, .int .i64 0, .bool false, .bool false, .bool false] 158) := jw w _
  have HA := jh hA
  clear hA
  go_enter Tryz.func64, Tryz.ntmps64
  go_wp2_with (refine wpList_convRunes _ rfl _ 9 138 21 rfl s rfl Tryz.underlying9 Tryz.underlying138 Tryz.underlying21 hs ?_; intro v w2 hrow hgrow; obtain ⟨ao, cp, rfl, rdo⟩ := hrow.rd; have HH2 := jh ((hgrow.block w.heap.size (by simp) (by simp)).trans HA.out); have HG := jh hgrow; have hsz := hgrow.size; clear hgrow; have c1 : w2.cell? ⟨w.heap.size, 1, none⟩ = some (.slice none 0 0) := (by simp [World.cell?, HH2.out]); have f1 : w2.frozen? ⟨w.heap.size, 1, none⟩ = false := by simp [World.frozen?, HH2.out])
  have hH3 := set_at (i := 1) HH2.out (.slice ao (rs s).length cp)
  refine (hB _).mono ?_
  rintro e w3 ⟨g, rfl, hrow3, hb3⟩
  have hsz2 : (w2.setCell ⟨w.heap.size, 1, none⟩ (.slice ao (rs s).length cp)).heap.size = w2.heap.size := by simp [World.setCell]
  rw [hsz2] at hrow3 hb3
  have hsz3 : w.heap.size + 1 ≤ w2.heap.size := by simpa using hsz
  have HH3 := jh ((hb3.block w.heap.size (by omega)).trans hH3)
  clear hH3
  have c1' : w3.cell? ⟨w.heap.size, 1, none⟩ = some (.slice ao (rs s).length cp) := by simp [World.cell?, HH3.out]
  have c2 := jc HH3.out 2 rfl; have c7 := jc HH3.out 7 rfl
  have f2 : w3.frozen? ⟨w.heap.size, 2, none⟩ = false := by simp [World.frozen?, HH3.out]
  have f7 : w3.frozen? ⟨w.heap.size, 7, none⟩ = false := by simp [World.frozen?, HH3.out]
  have u0 : (((rs s).length : Int) == 0) = decide ((rs s).length = 0) := by
   by_cases h : (rs s).length = 0
   ·simp [h]
   ·simp only [h, decide_false]; exact jn.2 (by omega)
  have HB3 := jh hb3
  clear hb3 hB
  go_wp2
  go_ret2
  have HB3' : Below (w2.setCell ⟨w.heap.size, 1, none⟩ (.slice ao (rs s).length cp)).heap.size (w2.setCell ⟨w.heap.size, 1, none⟩ (.slice ao (rs s).length cp)) w3 := by rw [hsz2]; exact HB3.out
  have hF3 : Fr (fun j => j = w.heap.size) w2 w3 := ((Fr.refl (fun j => j = w.heap.size) w2).set w.heap.size 1 (.slice ao (rs s).length cp) rfl).trans (Fr.of HB3')
  have hS3 := hF3.size
  have hlt : ∀ g, w.heap.size + 1 ≤ g → ¬ g = w.heap.size := fun g h => by omega
  refine ⟨.slice ao (rs s).length cp, .slice (some ⟨g, 0, none⟩) (brs (rs s)).length (brs (rs s)).length, rfl, ⟨0, ⟨?_, ?_, ?_, by omega, ?_⟩, mx_nil _⟩, ?_⟩
  ·rw [set_at (set_at HH3.out _), cameN_nil, offB_nil, show fdB c [] (rs s) = decide (rs s = []) by unfold fdB; rw [fndB_nil]; simp [hk]]
   rfl
  ·exact (hrow.mono (by simp)).fr ((hF3.set w.heap.size 2 _ rfl).set w.heap.size 7 _ rfl) hlt
  ·exact (hrow3.mono hsz3).fr (((Fr.refl (fun j => j = w.heap.size) w3).set w.heap.size 2 _ rfl).set w.heap.size 7 _ rfl) hlt
  ·simp [World.setCell]; omega
  ·have hb1 : Below w.heap.size w (w.alloc (Obj.cells #[.int .i64 c, .slice none 0 0, .slice none 0 0, .int .i64 N, .int .i64 0, .int .i64 0, .bool false, .bool false, .bool false] 158)) := (jf _ _).alloc (jr _) _
   have hb2 := Below.setCell (hb1.grown HG.out (by simp) (fun k hk => by cases hk)) (p := ⟨w.heap.size, 1, none⟩) (jr _) (.slice ao (rs s).length cp)
   have hb4 := hb2.trans (HB3.out.mono (by omega))
   exact Below.setCell (Below.setCell hb4 (p := ⟨w.heap.size, 2, none⟩) (jr _) _) (p := ⟨w.heap.size, 7, none⟩) (jr _) _
 ·rw [show askedT c s = [] from if_neg hk]
  have hA : (w.alloc (Obj.cells #[.int .i64 c, .slice none 0 0, .slice none 0 0, .int .i64 N, .int .i64 0, .int .i64 0, .bool false, .bool false, .bool false] 158)).heap[w.heap.size]? = some (Obj.cells #[.int .i64 c, .slice none 0 0, .slice none 0 0, .int .i64 N, .int .i64 0, .int .i64 0, .bool false, .bool false, .bool false] 158) := jw w _
  have hS : NewOK w c N [] (.returned (.tuple #[.pointer (some ⟨w.heap.size, 0, none⟩), .int .i64 0])) (w.alloc (Obj.cells #[.int .i64 c, .slice none 0 0, .slice none 0 0, .int .i64 N, .int .i64 0, .int .i64 0, .bool false, .bool false, .bool false] 158)) := by
   refine ⟨.slice none 0 0, .slice none 0 0, rfl, ⟨0, ⟨?_, World.ownsRow_nil _ _ _ _, World.ownsRow_nil _ _ _ _, by omega, by simp⟩, mx_none⟩, (jf _ _).alloc (jr _) _⟩
   rw [cameN_nil, offB_nil, show fdB c [] [] = false by simp [fdB, hk]]
   exact hA
  have HS := jh hS
  clear hS hA
  go_enter Tryz.func64, Tryz.ntmps64
  by_cases h3 : (1 : Int) ≤ c
  ·have h4 : ¬ c ≤ (5 : Int) := fun h => hk ⟨h3, h⟩
   go_wp2
   go_ret2
   exact HS.out
  ·go_wp2
   go_ret2
   exact HS.out
end Go.Proofs.YtkhejkfjhddobaaGreatDoor
namespace Gim
def ordI : List Int → List Int → Int
 | [], [] => 0
 | [], _ :: _ => -1
 | _ :: _, [] => 1
 | a :: l, b :: t => if a < b then -1 else if b < a then 1 else ordI l t
theorem ordI_eq : ∀ (k : Nat) (l t : List Int), k ≤ l.length → k ≤ t.length → (∀ j, j < k → gt l j = gt t j) → ordI l t = ordI (l.drop k) (t.drop k)
 | 0, _, _, _, _, _ => rfl
 | k + 1, [], _, h, _, _ => by simp at h
 | k + 1, _ :: _, [], _, h, _ => by simp at h
 | k + 1, a :: l, b :: t, h1, h2, h => by
  have h0 := h 0 (by omega)
  simp [gt] at h0
  subst h0
  simp only [ordI, List.drop_succ_cons, Int.lt_irrefl, if_false]
  exact ordI_eq k l t (by simpa using h1) (by simpa using h2) fun j hj => by have := h (j + 1) (by omega); simpa [gt] using this
theorem drop_gt {l : List Int} {k : Nat} (h : k < l.length) : l.drop k = gt l k :: l.drop (k + 1) := by rw [gt_lt h]; exact List.drop_eq_getElem_cons h
theorem ordI_less {l t : List Int} {k : Nat} (h1 : k < l.length) (h2 : k < t.length) (h : ∀ j, j < k → gt l j = gt t j) (hl : gt l k < gt t k) : ordI l t = -1 := by
 rw [ordI_eq k l t (by omega) (by omega) h, drop_gt h1, drop_gt h2]; simp [ordI, hl]
theorem ordI_greater {l t : List Int} {k : Nat} (h1 : k < l.length) (h2 : k < t.length) (h : ∀ j, j < k → gt l j = gt t j) (hl : gt t k < gt l k) : ordI l t = 1 := by
 rw [ordI_eq k l t (by omega) (by omega) h, drop_gt h1, drop_gt h2]; simp [ordI, hl]; omega
theorem ordI_short {l t : List Int} (h : ∀ j, j < l.length → gt l j = gt t j) (hl : l.length < t.length) : ordI l t = -1 := by
 rw [ordI_eq l.length l t (by omega) (by omega) h, drop_gt hl]; simp [ordI]
theorem ordI_long {l t : List Int} (h : ∀ j, j < t.length → gt l j = gt t j) (hl : t.length < l.length) : ordI l t = 1 := by
 rw [ordI_eq t.length l t (by omega) (by omega) h, drop_gt hl]; simp [ordI]
theorem ordI_self : ∀ l : List Int, ordI l l = 0
 | [] => rfl
 | a :: l => by simp [ordI, ordI_self l]
end Gim
namespace Go.Proofs.YtkhejkfjhddobaaGreatDoor
open Go.RowKit Gim
def endsB (l t : List Int) : Bool := decide (t.length ≤ l.length) && standsB l t (l.length - t.length)
theorem refBegins (s t : ByteArray) (w : World) (hs : s.size ≤ 1099511627776) (ht : t.size ≤ 1099511627776) :
  Calls Tryz.prog 115 #[.string s, .string t] w fun e w' => e = .returned (.bool (standsB (rs s) (rs t) 0)) ∧ Below w.heap.size w w' := by
 have l1 := rs_length s
 have l2 := rs_length t
 go_enter Tryz.func115, Tryz.ntmps115
 go_wp2_with fail
 refine (refRunes _ _ hs).mono ?_
 rintro e w1 ⟨v1, rfl, hr1, hb1⟩
 obtain ⟨a1, c1, rfl, rd1⟩ := hr1.rd
 go_wp2_with fail
 refine (refRunes _ _ ht).mono ?_
 rintro e w2 ⟨v2, rfl, hr2, hb2⟩
 obtain ⟨a2, c2, rfl, rd2⟩ := hr2.rd
 have hbw := hb1.trans (hb2.mono hb1.size)
 go_wp2_with fail
 refine (stands _ _ _ _ _ _ _ _ 0 _ (rd1.below hb2) rd2 (by omega) (by omega) (by omega)).mono ?_
 rintro e w3 ⟨rfl, hb3⟩
 go_wp2_with fail
 go_ret
 exact ⟨rfl, hbw.trans (hb3.below _)⟩
theorem refEnds (s t : ByteArray) (w : World) (hs : s.size ≤ 1099511627776) (ht : t.size ≤ 1099511627776) :
  Calls Tryz.prog 116 #[.string s, .string t] w fun e w' => e = .returned (.bool (endsB (rs s) (rs t))) ∧ Below w.heap.size w w' := by
 have l1 := rs_length s
 have l2 := rs_length t
 by_cases hle : (rs t).length ≤ (rs s).length
 all_goals
  go_enter Tryz.func116, Tryz.ntmps116
  go_wp2_with fail
  refine (refRunes _ _ hs).mono ?_
  rintro e w1 ⟨v1, rfl, hr1, hb1⟩
  obtain ⟨a1, c1, rfl, rd1⟩ := hr1.rd
  go_wp2_with fail
  refine (refRunes _ _ ht).mono ?_
  rintro e w2 ⟨v2, rfl, hr2, hb2⟩
  obtain ⟨a2, c2, rfl, rd2⟩ := hr2.rd
  have hbw := hb1.trans (hb2.mono hb1.size)
  have rd1' := rd1.below hb2
  have hc1 := rd1.le
 ·have HE := jh (show endsB (rs s) (rs t) = standsB (rs s) (rs t) ((rs s).length - (rs t).length) by unfold endsB; rw [decide_eq_true hle]; rfl)
  go_wp2_with fail
  rw [show ((rs s).length : Int) - ((rs t).length : Int) = (((rs s).length - (rs t).length : Nat) : Int) from by omega]
  refine (stands _ _ _ _ _ _ _ _ _ _ rd1' rd2 (by omega) (by omega) (by omega)).mono ?_
  rintro e w3 ⟨rfl, hb3⟩
  go_wp2_with fail
  go_ret
  exact ⟨by rw [HE.out]; rfl, hbw.trans (hb3.below _)⟩
 ·have HF := jh (show endsB (rs s) (rs t) = false by unfold endsB; rw [decide_eq_false hle]; rfl)
  go_wp2_with fail
  go_ret
  exact ⟨by rw [HF.out]; rfl, hbw⟩
def tB (c : Int) (N : Nat) (T l : List Int) (whole : Bool) : Int :=
 if c = 0 then 2
 else if c = 1 then toldZ (whole && decide (l.length = T.length) && !offB l T) (offB l T || decide (T.length < l.length)) whole
 else if c = 2 then 2 - toldZ (whole && decide (l.length = T.length) && !offB l T) (offB l T || decide (T.length < l.length)) whole
 else if c = 3 then toldZ (!offB l T && decide (T.length ≤ l.length)) (offB l T) whole
 else if c = 4 then toldZ (whole && endsB l T) false whole
 else if c = 5 then toldZ (fndB l T) false whole
 else if c = 6 then toldZ (whole && decide (l.length = N)) (decide (N < l.length)) whole
 else if c = 7 then toldZ (decide (N < l.length)) false whole
 else toldZ (whole && decide (l.length < N)) (decide (N ≤ l.length)) whole
theorem mx_ends {l T : List Int} {k : Nat} (h : Mx l T k) : decide (k = T.length) = endsB l T := by
 rw [Bool.eq_iff_iff, decide_eq_true_eq]
 unfold endsB
 rw [jb, decide_eq_true_eq, ← isM_stands (jr _)]
 constructor
 ·rintro rfl; exact h.1
 ·intro hm
  have h1 := h.2 _ hm
  have h2 := h.1.2.1
  omega
theorem truth_tB {c : Int} {N : Nat} {T l : List Int} {k : Nat} {whole : Bool} (h : Mx l T k) : truthZ c N T.length (cameN l T N) k (offB l T) (fdB c l T) whole = tB c N T l whole := by
 have hc : cameN l T N = min l.length (max N T.length + 1) := rfl
 unfold truthZ tB
 rw [mx_ends h, show decide (cameN l T N = T.length) = decide (l.length = T.length) from decide_eq_decide.2 (by omega),
  show decide (T.length < cameN l T N) = decide (T.length < l.length) from decide_eq_decide.2 (by omega),
  show decide (T.length ≤ cameN l T N) = decide (T.length ≤ l.length) from decide_eq_decide.2 (by omega),
  show decide ((cameN l T N : Int) = N) = decide (l.length = N) from decide_eq_decide.2 (by omega),
  show decide ((N : Int) < cameN l T N) = decide (N < l.length) from decide_eq_decide.2 (by omega),
  show decide ((cameN l T N : Int) < N) = decide (l.length < N) from decide_eq_decide.2 (by omega),
  show decide ((N : Int) ≤ cameN l T N) = decide (N ≤ l.length) from decide_eq_decide.2 (by omega)]
 by_cases h5 : c = 5
 ·subst h5
  rw [show fdB 5 l T = fndB l T by simp [fdB]]
 ·simp only [h5, if_false]
theorem St.truth {w : World} {B H : Nat} {c : Int} {N : Nat} {T : List Int} {tv bv : Value} {l : List Int} {whole : Bool} (h : St w B H c N T tv bv l whole) (h0 : 0 ≤ c) (h8 : c ≤ 8) :
  Calls Tryz.prog 100 #[.pointer (some ⟨H, 0, none⟩)] w fun e w' => e = .returned (.int .i64 (tB c N T l whole)) ∧ ∃ m, w' = w.drewN m := by
 obtain ⟨k, hm, hk⟩ := h
 refine (truth_calls w B H c N T tv bv _ k _ _ whole hm h0 h8).mono ?_
 rintro e w' ⟨rfl, hw⟩
 rw [truth_tB hk]
 exact ⟨rfl, hw⟩
theorem St.close {w : World} {B H : Nat} {c : Int} {N : Nat} {T : List Int} {tv bv : Value} {l : List Int} {whole : Bool} (h : St w B H c N T tv bv l whole) :
  Calls Tryz.prog 99 #[.pointer (some ⟨H, 0, none⟩)] w (Adds w B H c N T tv bv l true (.int .i64 (if whole then 5 else 0))) := by
 obtain ⟨k, hm, hk⟩ := h
 refine (close_calls w B H c N T tv bv _ k _ _ whole hm).mono ?_
 rintro e w' ⟨rfl, hm', hf⟩
 exact ⟨rfl, hf, k, hm', hk⟩
end Go.Proofs.YtkhejkfjhddobaaGreatDoor
