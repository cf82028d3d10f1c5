/- The walk of hunt's Add. -/
import Derived.Test.YtkhejkfjhddobaaGreatDoorHuntTakeNM
set_option maxRecDepth 100000
set_option maxHeartbeats 1000000
namespace Go.Proofs.YtkhejkfjhddobaaGreatDoor
open Go.RowKit Gim
theorem yRV (l T : List Int) (N : Nat) : yBD l T N ≤ l.length := by unfold yBD; omega
theorem St.fr {p : Nat → Prop} {w w' : World} {B H : Nat} {c : Int} {N : Nat} {T : List Int} {tv bv : Value} {l : List Int} {whole : Bool} (h : St w B H c N T tv bv l whole) (hf : Fr p w w') (hH : ¬ p H) (ho : ∀ g, B ≤ g → ¬ p g) : St w' B H c N T tv bv l whole := by obtain ⟨k, hm, hk⟩ := h; exact ⟨k, hm.fr hf hH ho, hk⟩
theorem yNi (w : World) (B H : Nat) (c : Int) (N : Nat) (T : List Int) (tv bv : Value) (l : List Int) (whole : Bool) (r : Int) (h : St w B H c N T tv bv l whole) (hfl : ¬ (1 ≤ c ∧ c ≤ 5) → T = []) (hl : l.length ≤ 2 ^ 62) :
  Calls Tryz.prog 89 #[.pointer (some ⟨H, 0, none⟩), .int .i32 r] w (yTu w B H c N T tv bv (l ++ [r]) whole (.tuple #[])) := by
 obtain ⟨k, hm, hk⟩ := h; have hcm := yRV l T N; by_cases hT : T.length = 0
 ·have hTn : T = [] := List.eq_nil_of_length_eq_zero hT; refine (yPt w B H c N T tv bv _ k _ _ whole r hm hT (by omega) _ rfl).mono ?_; rintro e w' ⟨rfl, hf, hm'⟩; rw [← yID l T r N] at hm'; subst hTn; have hk0 : k = 0 := hk.eq yKI; subst hk0; refine ⟨rfl, hf, 0, ?_, yKI⟩; have e1 : yCt (l ++ [r]) [] = yCt l [] := by rw [yJO]; simp
  have e2 : fdB c (l ++ [r]) [] = fdB c l [] := by unfold fdB; rw [yJG, yJG]
  rw [e1, e2]; exact hm'
 ·have hc : 1 ≤ c ∧ c ≤ 5 := Classical.byContradiction fun h => hT (by rw [hfl h]; rfl)
  refine (yPQ w B H c N T tv bv _ k _ _ whole l r hm hk (by omega) (by omega)).mono ?_; rintro e w' ⟨rfl, hf, k', hk', hm'⟩; rw [← yID l T r N, ← yS4] at hm'; refine ⟨rfl, hf, k', ?_, hk'⟩; have e2 : fdB c (l ++ [r]) T = (fdB c l T || decide (k' = T.length)) := by unfold fdB; rw [yQm hk']; simp [hc]
  rw [e2]; exact hm'
theorem yJ8 (w : World) (B H : Nat) (c : Int) (N : Nat) (T : List Int) (tv bv : Value) (l : List Int) (s : ByteArray) (h : St w B H c N T tv bv l false) (hfl : ¬ (1 ≤ c ∧ c ≤ 5) → T = []) (hl : l.length + s.size ≤ 2 ^ 62) :
  Calls Tryz.prog 58 #[.pointer (some ⟨H, 0, none⟩), .string s] w (yTu w B H c N T tv bv (l ++ rs s) false (.int .i64 0)) := by
 have c8 : w.cell? ⟨H, 8, none⟩ = some (.bool false) := by obtain ⟨k, hm, _⟩ := h; simp [World.cell?, hm.hH]
 have hlt : H < B ∧ B ≤ w.heap.size := by obtain ⟨k, hm, _⟩ := h; exact ⟨hm.lt, hm.le⟩
 go_enter Tryz.func58, Tryz.ntmps58; go_wp2; go_loopw [] (fun wr => ∃ (pos : Nat) (done : List Int), wr.heap[w.heap.size]? = some (.stringIter s pos) ∧ St wr B H c N T tv bv (l ++ done) false ∧ Fr (fun j => j = H) w wr ∧ Hid (done ++ yDX s pos = rs s) ∧ done.length ≤ pos) (fun wr => s.size - wr.iterPos w.heap.size)
 case atStart => exact ⟨0, [], World.iter_heap w s 0, by rw [List.append_nil]; exact h.fr (Fr.of (p := fun _ => False) ((jf _ _).alloc (jr _) _)) (fun x => x) (fun _ _ x => x), Fr.of ((jf _ _).alloc (jr _) _), rfl, by simp⟩
 case round =>
  obtain ⟨pos, done, hit, hst, hf, HS, hlen⟩ := hrel; have hpos0 := iterPos_of hit; by_cases hp : pos < s.size
  ·obtain ⟨W1, hnx, hw1⟩ := yDY (P := Tryz.prog) hit hp; have hwd := Lib.decode_width_pos s pos hp; have hst2 : St W1 B H c N T tv bv (l ++ done) false := by obtain ⟨k, hm, hk⟩ := hst; exact ⟨k, ⟨(hw1.other H (by omega)).trans hm.hH, hw1.owns _ _ _ _ _ _ hm.rt, hw1.owns _ _ _ _ _ _ hm.rb, hm.lt, by have := hw1.size; have := hm.le; omega⟩, hk⟩
   have hf2 : Fr (fun j => j = H) w W1 := by have hb := hw1.below w.heap.size wr (jf _ _) (jr _); exact ⟨hb.os.trans hf.os, hb.tape.trans hf.tape, hb.output.trans hf.output, ju hf.size (by have := hw1.size; omega), fun j hj hp => (hw1.other j (by omega)).trans (hf.block j hj hp)⟩
   clear hit hst hf; go_wp2_with fail; refine (yNi W1 B H c N T tv bv (l ++ done) false _ hst2 hfl (by simp; omega)).mono ?_; rintro e w3 ⟨rfl, hf3, hst3⟩; have hit3 := (hf3.block w.heap.size (jl hw1.it) (by omega)).trans hw1.it; go_wp2; go_roundw
   case rel => exact ⟨_, done ++ [_], hit3, by rw [← List.append_assoc]; exact hst3, hf2.trans hf3, by have := HS.out; rw [yC9 hp] at this; simpa [Hid] using this, by simp; omega⟩
   case measure => rw [iterPos_of hit3, hpos0]; omega
  ·have hnx : ∀ ty, (Instr.next (.pointer (some ⟨w.heap.size, 0, none⟩)) true ty).run Tryz.prog wr = _ := fun ty => Lib.run_next_end_at wr w.heap.size s pos ty hit hp
   have e : done = rs s := by have := HS.out; rw [yDk hp] at this; simpa using this
   subst e; go_wp2; go_ret; exact ⟨rfl, hf, hst⟩
def yCl (c : Int) (s : ByteArray) : List Int := if 1 ≤ c ∧ c ≤ 5 then rs s else []
theorem yJI (c : Int) (s : ByteArray) (h : ¬ (1 ≤ c ∧ c ≤ 5)) : yCl c s = [] := if_neg h
def ySS (w : World) (c : Int) (N : Nat) (T : List Int) (e : Ending) (w' : World) : Prop :=
 ∃ tv bv, e = .returned (.tuple #[.pointer (some ⟨w.heap.size, 0, none⟩), .int .i64 0]) ∧ St w' (w.heap.size + 1) w.heap.size c N T tv bv [] false ∧ Below w.heap.size w w'
theorem yJC (w : World) (c : Int) (s : ByteArray) (N : Nat) (hc0 : 0 ≤ c) (hc8 : c ≤ 8) (hs : s.size ≤ 1099511627776) : Calls Tryz.prog 64 #[.int .i64 c, .string s, .int .i64 N] w (ySS w c N (yCl c s)) := by
 have h0 : ¬ c < 0 := by omega
 have h1 : ¬ (8 : Int) < c := by omega
 have h2 : ¬ ((N : Int) < 0) := by omega
 by_cases hk : 1 ≤ c ∧ c ≤ 5
 ·have h3 : (1 : Int) ≤ c := hk.1; have h4 : c ≤ (5 : Int) := hk.2; have l1 := yAX s; have hB : ∀ w, Calls Tryz.prog 101 #[.string s] w (yDJ w 3 .i64 (brs (rs s))) := fun w => yTr s w hs
  rw [show yCl c s = rs s from if_pos hk]; have hA : (w.alloc (Obj.cells #[.int .i64 c, .slice none 0 0, .slice none 0 0, .int .i64 N, .int .i64 0, .int .i64 0, .bool false, .bool false, .bool false] 158)).heap[w.heap.size]? = some (Obj.cells #[.int .i64 c, .slice none 0 0, .slice none 0 0, .int .i64 N, .int .i64 0, .int .i64 0, .bool false, .bool false, .bool false] 158) := jw w _; have HA := jh hA; clear hA; go_enter Tryz.func64, Tryz.ntmps64; go_wp2_with (refine yG7 _ rfl _ 9 138 21 rfl s rfl Tryz.underlying9 Tryz.underlying138 Tryz.underlying21 hs ?_; intro v w2 hrow hgrow; obtain ⟨ao, cp, rfl, rdo⟩ := hrow.rd; have HH2 := jh ((hgrow.block w.heap.size (by simp) (by simp)).trans HA.out); have HG := jh hgrow; have hsz := hgrow.size; clear hgrow; have c1 : w2.cell? ⟨w.heap.size, 1, none⟩ = some (.slice none 0 0) := (by simp [World.cell?, HH2.out]); have f1 : w2.frozen? ⟨w.heap.size, 1, none⟩ = false := by simp [World.frozen?, HH2.out]); have hH3 := yEJ (i := 1) HH2.out (.slice ao (rs s).length cp); refine (hB _).mono ?_; rintro e w3 ⟨g, rfl, hrow3, hb3⟩; have hsz2 : (w2.setCell ⟨w.heap.size, 1, none⟩ (.slice ao (rs s).length cp)).heap.size = w2.heap.size := by simp [World.setCell]
  rw [hsz2] at hrow3 hb3; have hsz3 : w.heap.size + 1 ≤ w2.heap.size := by simpa using hsz
  have HH3 := jh ((hb3.block w.heap.size (by omega)).trans hH3); clear hH3; have c1' : w3.cell? ⟨w.heap.size, 1, none⟩ = some (.slice ao (rs s).length cp) := by simp [World.cell?, HH3.out]
  have c2 := jc HH3.out 2 rfl; have c7 := jc HH3.out 7 rfl; have f2 : w3.frozen? ⟨w.heap.size, 2, none⟩ = false := by simp [World.frozen?, HH3.out]
  have f7 : w3.frozen? ⟨w.heap.size, 7, none⟩ = false := by simp [World.frozen?, HH3.out]
  have u0 : (((rs s).length : Int) == 0) = decide ((rs s).length = 0) := by
   by_cases h : (rs s).length = 0
   ·simp [h]
   ·simp only [h, decide_false]; exact jn.2 (by omega)
  have HB3 := jh hb3; clear hb3 hB; go_wp2; go_ret2; have HB3' : Below (w2.setCell ⟨w.heap.size, 1, none⟩ (.slice ao (rs s).length cp)).heap.size (w2.setCell ⟨w.heap.size, 1, none⟩ (.slice ao (rs s).length cp)) w3 := by rw [hsz2]; exact HB3.out
  have hF3 : Fr (fun j => j = w.heap.size) w2 w3 := ((Fr.refl (fun j => j = w.heap.size) w2).set w.heap.size 1 (.slice ao (rs s).length cp) rfl).trans (Fr.of HB3'); have hS3 := hF3.size; have hlt : ∀ g, w.heap.size + 1 ≤ g → ¬ g = w.heap.size := fun g h => by omega
  refine ⟨.slice ao (rs s).length cp, .slice (some ⟨g, 0, none⟩) (brs (rs s)).length (brs (rs s)).length, rfl, ⟨0, ⟨?_, ?_, ?_, by omega, ?_⟩, yTt _⟩, ?_⟩
  ·rw [yEJ (yEJ HH3.out _), yKr, yLu, show fdB c [] (rs s) = decide (rs s = []) by unfold fdB; rw [yRr]; simp [hk]]; rfl
  ·exact (hrow.mono (by simp)).fr ((hF3.set w.heap.size 2 _ rfl).set w.heap.size 7 _ rfl) hlt
  ·exact (hrow3.mono hsz3).fr (((Fr.refl (fun j => j = w.heap.size) w3).set w.heap.size 2 _ rfl).set w.heap.size 7 _ rfl) hlt
  ·simp [World.setCell]; omega
  ·have hb1 : Below w.heap.size w (w.alloc (Obj.cells #[.int .i64 c, .slice none 0 0, .slice none 0 0, .int .i64 N, .int .i64 0, .int .i64 0, .bool false, .bool false, .bool false] 158)) := (jf _ _).alloc (jr _) _; have hb2 := Below.setCell (hb1.grown HG.out (by simp) (fun k hk => by cases hk)) (p := ⟨w.heap.size, 1, none⟩) (jr _) (.slice ao (rs s).length cp); have hb4 := hb2.trans (HB3.out.mono (by omega)); exact Below.setCell (Below.setCell hb4 (p := ⟨w.heap.size, 2, none⟩) (jr _) _) (p := ⟨w.heap.size, 7, none⟩) (jr _) _
 ·rw [show yCl c s = [] from if_neg hk]; have hA : (w.alloc (Obj.cells #[.int .i64 c, .slice none 0 0, .slice none 0 0, .int .i64 N, .int .i64 0, .int .i64 0, .bool false, .bool false, .bool false] 158)).heap[w.heap.size]? = some (Obj.cells #[.int .i64 c, .slice none 0 0, .slice none 0 0, .int .i64 N, .int .i64 0, .int .i64 0, .bool false, .bool false, .bool false] 158) := jw w _; have hS : ySS w c N [] (.returned (.tuple #[.pointer (some ⟨w.heap.size, 0, none⟩), .int .i64 0])) (w.alloc (Obj.cells #[.int .i64 c, .slice none 0 0, .slice none 0 0, .int .i64 N, .int .i64 0, .int .i64 0, .bool false, .bool false, .bool false] 158)) := by refine ⟨.slice none 0 0, .slice none 0 0, rfl, ⟨0, ⟨?_, World.ownsRow_nil _ _ _ _, World.ownsRow_nil _ _ _ _, by omega, by simp⟩, yKI⟩, (jf _ _).alloc (jr _) _⟩; rw [yKr, yLu, show fdB c [] [] = false by simp [fdB, hk]]; exact hA
  have HS := jh hS; clear hS hA; go_enter Tryz.func64, Tryz.ntmps64; by_cases h3 : (1 : Int) ≤ c
  ·have h4 : ¬ c ≤ (5 : Int) := fun h => hk ⟨h3, h⟩
   go_wp2; go_ret2; exact HS.out
  ·go_wp2; go_ret2; exact HS.out
end Go.Proofs.YtkhejkfjhddobaaGreatDoor
namespace Gim
def yBa : List Int → List Int → Int
 | [], [] => 0
 | [], _ :: _ => -1
 | _ :: _, [] => 1
 | a :: l, b :: t => if a < b then -1 else if b < a then 1 else yBa l t
theorem yF2 : ∀ (k : Nat) (l t : List Int), k ≤ l.length → k ≤ t.length → (∀ j, j < k → gt l j = gt t j) → yBa l t = yBa (l.drop k) (t.drop k)
 | 0, _, _, _, _, _ => rfl
 | k + 1, [], _, h, _, _ => by simp at h
 | k + 1, _ :: _, [], _, h, _ => by simp at h
 | k + 1, a :: l, b :: t, h1, h2, h => by have h0 := h 0 (by omega); simp [gt] at h0; subst h0; simp only [yBa, List.drop_succ_cons, Int.lt_irrefl, if_false]; exact yF2 k l t (by simpa using h1) (by simpa using h2) fun j hj => by have := h (j + 1) (by omega); simpa [gt] using this
theorem yE8 {l : List Int} {k : Nat} (h : k < l.length) : l.drop k = gt l k :: l.drop (k + 1) := by rw [yFf h]; exact List.drop_eq_getElem_cons h
theorem yQD {l t : List Int} {k : Nat} (h1 : k < l.length) (h2 : k < t.length) (h : ∀ j, j < k → gt l j = gt t j) (hl : gt l k < gt t k) : yBa l t = -1 := by rw [yF2 k l t (by omega) (by omega) h, yE8 h1, yE8 h2]; simp [yBa, hl]
theorem yK5 {l t : List Int} {k : Nat} (h1 : k < l.length) (h2 : k < t.length) (h : ∀ j, j < k → gt l j = gt t j) (hl : gt t k < gt l k) : yBa l t = 1 := by rw [yF2 k l t (by omega) (by omega) h, yE8 h1, yE8 h2]; simp [yBa, hl]; omega
theorem yNm {l t : List Int} (h : ∀ j, j < l.length → gt l j = gt t j) (hl : l.length < t.length) : yBa l t = -1 := by rw [yF2 l.length l t (by omega) (by omega) h, yE8 hl]; simp [yBa]
theorem yPH {l t : List Int} (h : ∀ j, j < t.length → gt l j = gt t j) (hl : t.length < l.length) : yBa l t = 1 := by rw [yF2 t.length l t (by omega) (by omega) h, yE8 hl]; simp [yBa]
theorem yGB : ∀ l : List Int, yBa l l = 0
 | [] => rfl
 | a :: l => by simp [yBa, yGB l]
end Gim
namespace Go.Proofs.YtkhejkfjhddobaaGreatDoor
open Go.RowKit Gim
def yDR (l t : List Int) : Bool := decide (t.length ≤ l.length) && yAj l t (l.length - t.length)
theorem yGy (s t : ByteArray) (w : World) (hs : s.size ≤ 1099511627776) (ht : t.size ≤ 1099511627776) :
  Calls Tryz.prog 115 #[.string s, .string t] w fun e w' => e = .returned (.bool (yAj (rs s) (rs t) 0)) ∧ Below w.heap.size w w' := by have l1 := yAX s; have l2 := yAX t; go_enter Tryz.func115, Tryz.ntmps115; go_wp2_with fail; refine (yCp _ _ hs).mono ?_; rintro e w1 ⟨v1, rfl, hr1, hb1⟩; obtain ⟨a1, c1, rfl, rd1⟩ := hr1.rd; go_wp2_with fail; refine (yCp _ _ ht).mono ?_; rintro e w2 ⟨v2, rfl, hr2, hb2⟩; obtain ⟨a2, c2, rfl, rd2⟩ := hr2.rd; have hbw := hb1.trans (hb2.mono hb1.size); go_wp2_with fail; refine (yKP _ _ _ _ _ _ _ _ 0 _ (rd1.below hb2) rd2 (by omega) (by omega) (by omega)).mono ?_; rintro e w3 ⟨rfl, hb3⟩; go_wp2_with fail; go_ret; exact ⟨rfl, hbw.trans (hb3.below _)⟩
theorem ySw (s t : ByteArray) (w : World) (hs : s.size ≤ 1099511627776) (ht : t.size ≤ 1099511627776) :
  Calls Tryz.prog 116 #[.string s, .string t] w fun e w' => e = .returned (.bool (yDR (rs s) (rs t))) ∧ Below w.heap.size w w' := by
 have l1 := yAX s; have l2 := yAX t; by_cases hle : (rs t).length ≤ (rs s).length
 all_goals
  go_enter Tryz.func116, Tryz.ntmps116; go_wp2_with fail; refine (yCp _ _ hs).mono ?_; rintro e w1 ⟨v1, rfl, hr1, hb1⟩; obtain ⟨a1, c1, rfl, rd1⟩ := hr1.rd; go_wp2_with fail; refine (yCp _ _ ht).mono ?_; rintro e w2 ⟨v2, rfl, hr2, hb2⟩; obtain ⟨a2, c2, rfl, rd2⟩ := hr2.rd; have hbw := hb1.trans (hb2.mono hb1.size); have rd1' := rd1.below hb2; have hc1 := rd1.le
 ·have HE := jh (show yDR (rs s) (rs t) = yAj (rs s) (rs t) ((rs s).length - (rs t).length) by unfold yDR; rw [decide_eq_true hle]; rfl); go_wp2_with fail; rw [show ((rs s).length : Int) - ((rs t).length : Int) = (((rs s).length - (rs t).length : Nat) : Int) from by omega]; refine (yKP _ _ _ _ _ _ _ _ _ _ rd1' rd2 (by omega) (by omega) (by omega)).mono ?_; rintro e w3 ⟨rfl, hb3⟩; go_wp2_with fail; go_ret; exact ⟨by rw [HE.out]; rfl, hbw.trans (hb3.below _)⟩
 ·have HF := jh (show yDR (rs s) (rs t) = false by unfold yDR; rw [decide_eq_false hle]; rfl); go_wp2_with fail; go_ret; exact ⟨by rw [HF.out]; rfl, hbw⟩
def tB (c : Int) (N : Nat) (T l : List Int) (whole : Bool) : Int :=
 if c = 0 then 2
 else if c = 1 then yAx (whole && decide (l.length = T.length) && !yCt l T) (yCt l T || decide (T.length < l.length)) whole
 else if c = 2 then 2 - yAx (whole && decide (l.length = T.length) && !yCt l T) (yCt l T || decide (T.length < l.length)) whole
 else if c = 3 then yAx (!yCt l T && decide (T.length ≤ l.length)) (yCt l T) whole
 else if c = 4 then yAx (whole && yDR l T) false whole
 else if c = 5 then yAx (yHM l T) false whole
 else if c = 6 then yAx (whole && decide (l.length = N)) (decide (N < l.length)) whole
 else if c = 7 then yAx (decide (N < l.length)) false whole
 else yAx (whole && decide (l.length < N)) (decide (N ≤ l.length)) whole
theorem ySR {l T : List Int} {k : Nat} (h : Mx l T k) : decide (k = T.length) = yDR l T := by
 rw [Bool.eq_iff_iff, decide_eq_true_eq]; unfold yDR; rw [jb, decide_eq_true_eq, ← yFG (jr _)]; constructor
 ·rintro rfl; exact h.1
 ·intro hm; have h1 := h.2 _ hm; have h2 := h.1.2.1; omega
theorem yQS {c : Int} {N : Nat} {T l : List Int} {k : Nat} {whole : Bool} (h : Mx l T k) : yCH c N T.length (yBD l T N) k (yCt l T) (fdB c l T) whole = tB c N T l whole := by
 have hc : yBD l T N = min l.length (max N T.length + 1) := rfl; unfold yCH tB; rw [ySR h, show decide (yBD l T N = T.length) = decide (l.length = T.length) from decide_eq_decide.2 (by omega),
  show decide (T.length < yBD l T N) = decide (T.length < l.length) from decide_eq_decide.2 (by omega),
  show decide (T.length ≤ yBD l T N) = decide (T.length ≤ l.length) from decide_eq_decide.2 (by omega),
  show decide ((yBD l T N : Int) = N) = decide (l.length = N) from decide_eq_decide.2 (by omega),
  show decide ((N : Int) < yBD l T N) = decide (N < l.length) from decide_eq_decide.2 (by omega),
  show decide ((yBD l T N : Int) < N) = decide (l.length < N) from decide_eq_decide.2 (by omega),
  show decide ((N : Int) ≤ yBD l T N) = decide (N ≤ l.length) from decide_eq_decide.2 (by omega)]
 by_cases h5 : c = 5
 ·subst h5; rw [show fdB 5 l T = yHM l T by simp [fdB]]
 ·simp only [h5, if_false]
theorem St.truth {w : World} {B H : Nat} {c : Int} {N : Nat} {T : List Int} {tv bv : Value} {l : List Int} {whole : Bool} (h : St w B H c N T tv bv l whole) (h0 : 0 ≤ c) (h8 : c ≤ 8) :
  Calls Tryz.prog 100 #[.pointer (some ⟨H, 0, none⟩)] w fun e w' => e = .returned (.int .i64 (tB c N T l whole)) ∧ ∃ m, w' = w.drewN m := by obtain ⟨k, hm, hk⟩ := h; refine (yNg w B H c N T tv bv _ k _ _ whole hm h0 h8).mono ?_; rintro e w' ⟨rfl, hw⟩; rw [yQS hk]; exact ⟨rfl, hw⟩
theorem St.close {w : World} {B H : Nat} {c : Int} {N : Nat} {T : List Int} {tv bv : Value} {l : List Int} {whole : Bool} (h : St w B H c N T tv bv l whole) :
  Calls Tryz.prog 99 #[.pointer (some ⟨H, 0, none⟩)] w (yTu w B H c N T tv bv l true (.int .i64 (if whole then 5 else 0))) := by obtain ⟨k, hm, hk⟩ := h; refine (yLH w B H c N T tv bv _ k _ _ whole hm).mono ?_; rintro e w' ⟨rfl, hm', hf⟩; exact ⟨rfl, hf, k, hm', hk⟩
end Go.Proofs.YtkhejkfjhddobaaGreatDoor
