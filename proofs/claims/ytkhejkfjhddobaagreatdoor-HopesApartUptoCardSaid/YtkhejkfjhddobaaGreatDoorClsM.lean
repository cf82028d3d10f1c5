/- The classes of characters: their ranges and what is asked of them. Plain laws: no program in sight. -/
import Derived.Test.YtkhejkfjhddobaaGreatDoorUtfM
import Derived.Lib.SmallJoins
import Derived.Ground.NamesProg
import Derived.Shelf.Unicode.ValidAny
import Derived.Lib.LaidU8T
import Derived.Lib.ValidLaws
import Derived.Lib.TrimUEq
namespace Gim
def cls (c : Int) : List (Int × Int) :=
 if c = 0 then [(9, 10), (13, 13), (32, 55295), (57344, 65533), (65536, 1114111)]
 else if c = 1 then [(9, 10), (13, 13), (32, 32)]
 else if c = 2 then [(65, 90), (95, 95), (97, 122), (192, 214), (216, 246), (248, 767), (880, 893), (895, 8191), (8204, 8205), (8304, 8591), (11264, 12271), (12289, 55295), (63744, 64975), (65008, 65533), (65536, 983039)]
 else if c = 3 then [(45, 46), (48, 57), (65, 90), (95, 95), (97, 122), (183, 183), (192, 214), (216, 246), (248, 893), (895, 8191), (8204, 8205), (8255, 8256), (8304, 8591), (11264, 12271), (12289, 55295), (63744, 64975), (65008, 65533), (65536, 983039)]
 else if c = 4 then [(48, 57)]
 else if c = 5 then [(48, 57), (65, 70), (97, 102)]
 else []
@[irreducible] def lo (l : List (Int × Int)) (j : Nat) : Int := (l.getD j (0, 0)).1
@[irreducible] def hi (l : List (Int × Int)) (j : Nat) : Int := (l.getD j (0, 0)).2
theorem yJA {l : List (Int × Int)} {k : Nat} (h : k < l.length) : l.drop k = (lo l k, hi l k) :: l.drop (k + 1) := by
 have e : l[k] = (lo l k, hi l k) := by simp [lo, hi, h]
 rw [List.drop_eq_getElem_cons h, e]
def yEE : Int → List (Int × Int) → Bool
 | _, [] => true
 | b, (x, y) :: t => decide (b < x) && decide (x ≤ y) && decide (y ≤ 1114111) && yEE y t
theorem yIu (c : Int) : yEE 0 (cls c) = true := by
 unfold cls
 repeat' split
 all_goals rfl
theorem yIA : ∀ {l : List (Int × Int)} {b : Int}, yEE b l = true → ∀ {p}, p ∈ l → b < p.1 ∧ p.1 ≤ p.2 ∧ p.2 ≤ 1114111
 | (x, y) :: t, b, h, p, hp => by
  simp [yEE] at h; rcases List.mem_cons.1 hp with rfl | hp
  ·exact ⟨h.1.1.1, h.1.1.2, h.1.2⟩
  ·have := yIA h.2 hp; omega
theorem yQ8 {l : List (Int × Int)} {k : Nat} (h : k < l.length) : (lo l k, hi l k) ∈ l := by
 have e : l[k] = (lo l k, hi l k) := by simp [lo, hi, h]
 exact e ▸ List.getElem_mem h
theorem yOp {c : Int} {k : Nat} (h : k < (cls c).length) : 0 < lo (cls c) k ∧ lo (cls c) k ≤ hi (cls c) k ∧ hi (cls c) k ≤ 1114111 := yIA (yIu c) (yQ8 h)
theorem yI7 (c : Int) : (cls c).length ≤ 18 := by
 unfold cls
 repeat' split
 all_goals simp
def isF : List (Int × Int) → Int → Bool
 | [], _ => false
 | (x, y) :: t, r => if r ≤ y then decide (x ≤ r) else isF t r
def isR : List (Int × Int) → Int → Bool
 | [], _ => false
 | (x, y) :: t, r => if x ≤ r ∧ r ≤ y then true else isR t r
theorem yOF : ∀ {l : List (Int × Int)} {b r : Int}, yEE b l = true → r ≤ b → isR l r = false
 | [], _, _, _, _ => rfl
 | (x, y) :: t, b, r, h, hr => by simp [yEE] at h; simp only [isR]; rw [if_neg (by omega)]; exact yOF h.2 (by omega)
theorem yPh : ∀ {l : List (Int × Int)} {b : Int} (r : Int), yEE b l = true → isF l r = isR l r
 | [], _, _, _ => rfl
 | (x, y) :: t, b, r, h => by
  simp [yEE] at h; simp only [isF, isR]; by_cases h1 : r ≤ y
  ·by_cases h2 : x ≤ r
   ·simp [h1, h2]
   ·rw [if_pos h1, if_neg (by omega), yOF h.2 h1]; simp [h2]
  ·rw [if_neg h1, if_neg (by omega)]; exact yPh r h.2
theorem yLG {l : List (Int × Int)} {k : Nat} (r : Int) (h : k < l.length) : isF (l.drop k) r = if r ≤ hi l k then decide (lo l k ≤ r) else isF (l.drop (k + 1)) r := by rw [yJA h]; rfl
theorem yRK {l : List (Int × Int)} {k : Nat} (r : Int) (h : k < l.length) : isR (l.drop k) r = if lo l k ≤ r ∧ r ≤ hi l k then true else isR (l.drop (k + 1)) r := by rw [yJA h]; rfl
open Go Go.RowKit
theorem add_block (a : Addr) (n : Nat) : (a.add n).block = a.block := by unfold Addr.add; split <;> rfl
structure Prs (w : World) (k : IntKind) (ao : Option Addr) (n cap : Nat) (ps : List (Int × Int)) : Prop where
 len : ps.length = n
 le : n ≤ cap
 cap_le : cap ≤ maxLen
 cell : ∀ j, j < n → ∃ a, ao = some a ∧ a.block < w.heap.size ∧ w.cell? (a.add (j * 2)) = some (.int k (lo ps j)) ∧ w.cell? ⟨(a.add (j * 2)).block, (a.add (j * 2)).off + 1, none⟩ = some (.int k (hi ps j))
theorem Prs.below {w w' : World} {k : IntKind} {ao : Option Addr} {n cap : Nat} {ps : List (Int × Int)} (h : Prs w k ao n cap ps) (hb : Below w.heap.size w w') : Prs w' k ao n cap ps :=
 ⟨h.len, h.le, h.cap_le, fun j hj => by obtain ⟨a, h1, h2, h3, h4⟩ := h.cell j hj; exact ⟨a, h1, jt h2 hb.size, (hb.cell (p := a.add (j * 2)) (by simpa [add_block] using h2)).trans h3, (hb.cell (p := ⟨(a.add (j * 2)).block, (a.add (j * 2)).off + 1, none⟩) (by simpa [add_block] using h2)).trans h4⟩⟩
def Tab (g : Nat) (w : World) : Prop := g < w.heap.size ∧ ∀ c : Nat, c < 6 → ∃ ao n cap, w.cell? ⟨g, c, none⟩ = some (.slice ao n cap) ∧ Prs w .i32 ao n cap (cls c)
theorem Tab.below {g : Nat} {w w' : World} (h : Tab g w) (hb : Below w.heap.size w w') : Tab g w' :=
 ⟨jt h.1 hb.size, fun c hc => by obtain ⟨ao, n, cap, h1, h2⟩ := h.2 c hc; exact ⟨ao, n, cap, (hb.cell (p := ⟨g, c, none⟩) h.1).trans h1, h2.below hb⟩⟩
end Gim
namespace Go.Proofs.YtkhejkfjhddobaaGreatDoor
open Go.RowKit Gim
-- gimlet/chars.of
theorem yRd (w : World) (c : Int) (hT : Tab 2 w) : Calls Tryz.prog 119 #[.int .i64 c] w fun e w' => ∃ ao n cap, e = .returned (.slice ao n cap) ∧ Prs w' .i32 ao n cap (cls c) ∧ yAJ w w' := by
 by_cases h0 : c < 0
 ·have hc : cls c = [] := by unfold cls; repeat' (first | rfl | rw [if_neg (by omega)])
  have H := jh hc; clear hc; go_enter Tryz.func119, Tryz.ntmps119; go_wp2; go_ret; exact ⟨none, 0, 0, rfl, by rw [H.out]; exact ⟨rfl, by omega, by unfold maxLen; omega, fun j hj => by omega⟩, yAJ.refl _⟩
 ·by_cases h6 : 6 ≤ c
  ·have hc : cls c = [] := by unfold cls; repeat' (first | rfl | rw [if_neg (by omega)])
   have H := jh hc; clear hc; go_enter Tryz.func119, Tryz.ntmps119; go_wp2; go_ret; exact ⟨none, 0, 0, rfl, by rw [H.out]; exact ⟨rfl, by omega, by unfold maxLen; omega, fun j hj => by omega⟩, yAJ.refl _⟩
  ·obtain ⟨m, rfl⟩ : ∃ m : Nat, c = m := ⟨c.toNat, by omega⟩
   obtain ⟨ao, n, cap, hcell, hp⟩ := hT.2 m (by omega); have hm : (m : Int) < 6 := by omega
   have hm' : m < 6 := by omega
   clear h6 h0; go_enter Tryz.func119, Tryz.ntmps119; go_wp2; go_ret; exact ⟨ao, n, cap, rfl, hp, yAJ.refl _⟩
-- gimlet/chars.Is
theorem yNa (w : World) (c r : Int) (hT : Tab 2 w) : Calls Tryz.prog 87 #[.int .i64 c, .int .i32 r] w fun e w' => e = .returned (.bool (isF (cls c) r)) ∧ Below w.heap.size w w' := by
 go_enter Tryz.func87, Tryz.ntmps87; go_wp2_with fail; refine (yRd w c hT).mono ?_; rintro e w1 ⟨ao, n, cap, rfl, hp, hd⟩; have hn := jh hp.len; have h18 : n ≤ 18 := hp.len ▸ yI7 c; have hb1 := hd.below w.heap.size; go_wp2; go_loopw [10] (fun i wr => ∃ q : Nat, q ≤ n ∧ i = .int .i64 q ∧ Hid (isF ((cls c).drop q) r = isF (cls c) r) ∧ Below w.heap.size w wr ∧ Prs wr .i32 ao n cap (cls c)) (fun i _ => n - (intOf i).toNat)
 case atStart => exact ⟨0, by omega, rfl, jh rfl, hb1, hp⟩
 case round =>
  obtain ⟨q, hq, rfl, H, hb, hp⟩ := hrel; by_cases hqn : q < n
  ·obtain ⟨a, rfl, ha, h1, h2⟩ := hp.cell q hqn; go_wp2
   ·go_ret; exact ⟨by have := yLG r (k := q) (l := cls c) (by rw [hn.out]; exact hqn); rw [← H.out, this, if_pos (by assumption)]; rfl, hb.alloc hb.size _⟩
   ·go_roundw
    case rel => exact ⟨q + 1, by omega, by go_num, jh (by have := yLG r (k := q) (l := cls c) (by rw [hn.out]; exact hqn); rw [← H.out, this, if_neg (by omega)]), hb.alloc hb.size _, hp.below ((jf _ _).alloc (jr _) _)⟩
    case measure => simp [intOf]; omega
  ·obtain rfl : q = n := by omega
   go_wp2; go_ret; exact ⟨by rw [← H.out, List.drop_of_length_le (by rw [hn.out]; exact jr _)]; rfl, hb⟩
open Go.RowKit Go.Shelf Gim
def yFk : Go.Shelf.Ren := ⟨fun | 196 => 88 | 259 => 120 | n => n, fun | 9 => 9 | 4 => 4 | 3 => 3 | 5 => 5 | 12 => 12 | 119 => 189 | 0 => 0 | 46 => 193 | 139 => 192 | 138 => 191 | 53 => 200 | n => n, fun | 3 => 0 | 4 => 1 | n => n⟩
theorem yJD : Go.Proofs.Lays.n196 Tryz.prog yFk := {
 mixed := by kernel_rfl
 f196 := Tryz.func88.trans (congrArg some (by kernel_rfl))
 f259 := Tryz.func120.trans (congrArg some (by kernel_rfl))
 t0 := Tryz.underlying0
 a0 := Tryz.isAgg0
 z0 := Tryz.sizeOf0
 v0 := Tryz.zeroValue0
 t3 := Tryz.underlying3
 a3 := Tryz.isAgg3
 z3 := Tryz.sizeOf3
 v3 := Tryz.zeroValue3
 t4 := Tryz.underlying4
 a4 := Tryz.isAgg4
 z4 := Tryz.sizeOf4
 v4 := Tryz.zeroValue4
 t5 := Tryz.underlying5
 a5 := Tryz.isAgg5
 z5 := Tryz.sizeOf5
 v5 := Tryz.zeroValue5
 t9 := Tryz.underlying9
 a9 := Tryz.isAgg9
 z9 := Tryz.sizeOf9
 v9 := Tryz.zeroValue9
 t12 := Tryz.underlying12
 a12 := Tryz.isAgg12
 z12 := Tryz.sizeOf12
 v12 := Tryz.zeroValue12
 t46 := Tryz.underlying193
 a46 := Tryz.isAgg193
 z46 := Tryz.sizeOf193
 v46 := Tryz.zeroValue193
 t53 := Tryz.underlying200
 a53 := Tryz.isAgg200
 z53 := Tryz.sizeOf200
 v53 := Tryz.zeroValue200
 t138 := Tryz.underlying191
 a138 := Tryz.isAgg191
 z138 := Tryz.sizeOf191
 v138 := Tryz.zeroValue191
 t139 := Tryz.underlying192
 a139 := Tryz.isAgg192
 z139 := Tryz.sizeOf192
 v139 := Tryz.zeroValue192
 t119 := Tryz.underlying189
 a119 := Tryz.isAgg189
 z119 := Tryz.sizeOf189
 g3 := by kernel_rfl
 g4 := by kernel_rfl }
theorem ySN : U8Extra Tryz.prog yFk := ⟨by kernel_rfl, by kernel_rfl, by kernel_rfl, by kernel_rfl, by kernel_rfl, by kernel_rfl, by kernel_rfl⟩
structure yBd (w : World) : Prop where
 tab : Tab 2 w
 u8 : Lib.Utf8Tabs 0 1 w
theorem yBd.below {w w' : World} (h : yBd w) (hb : Below w.heap.size w w') : yBd w' := ⟨h.tab.below hb, Utf8Tabs_below h.u8 hb⟩
theorem yEy (s : ByteArray) (w : World) (hs : s.size ≤ 9223372036854775807) (hT : yBd w) :
  Calls Tryz.prog 88 #[.string s] w fun e w' => e = .returned (.bool (Lib.validD s.data.toList)) ∧ Below w.heap.size w w' :=
 Any.utf8_ValidString yJD s w hs hT.u8
end Go.Proofs.YtkhejkfjhddobaaGreatDoor
namespace Gim
open Go
def val (s : ByteArray) (p : Nat) : Bool := Lib.validD (s.data.toList.drop p)
theorem yOR {s : ByteArray} {p : Nat} (h : ¬ p < s.size) : val s p = true := by unfold val; rw [List.drop_of_length_le (by have := Lib.size_eq s; omega)]; rfl
theorem yMo {s : ByteArray} {p : Nat} (h : p < s.size) : val s p = if (Utf8.decode s p).1 = 65533 ∧ (Utf8.decode s p).2 = 1 then false else val s (p + (Utf8.decode s p).2) := by
 unfold val; have hne : s.data.toList.drop p ≠ [] := by intro e; have := List.drop_eq_nil_iff.1 e; have := Lib.size_eq s; omega
 rw [Lib.validD_step _ hne, Lib.decodeL_drop, List.drop_drop]
def good (c d : Int) : List Int → Bool
 | [] => true
 | r :: t => isF (cls c) r && good d d t
def yBm (s : ByteArray) : Bool := good 2 3 (rs s) && decide (0 < s.size) && val s 0
def yCe (s : ByteArray) : Bool := good 0 0 (rs s) && val s 0
end Gim
namespace Go.Proofs.YtkhejkfjhddobaaGreatDoor
open Go.RowKit Gim
theorem yGH {c d : Int} {s : ByteArray} {p : Nat} (h : p < s.size) : good c d (yDX s p) = (isF (cls c) ((Utf8.decode s p).1 : Int) && good d d (yDX s (p + (Utf8.decode s p).2))) := by rw [yC9 h]; rfl
theorem yH6 {c d : Int} {s : ByteArray} {p : Nat} (h : ¬ p < s.size) : good c d (yDX s p) = true := by rw [yDk h]; rfl
theorem yMz {s : ByteArray} (h : ¬ s = ⟨#[]⟩) : 0 < s.size := by
 rcases Nat.eq_zero_or_pos s.size with h0 | h0
 ·exact absurd (ByteArray.ext (Array.eq_empty_of_size_eq_zero h0)) h
 ·exact h0
theorem yAW {s : ByteArray} (h : ¬ s = ⟨#[]⟩) : ¬ s.toList = [] := by rw [ByteArray.toList_eq]; intro e; exact h (by cases s; rename_i d; cases d; simp at e; simp [e])
-- gimlet/chars.Name
theorem yCF (s : ByteArray) (w : World) (hs : s.size ≤ 9223372036854775807) (hT : yBd w) :
  Calls Tryz.prog 75 #[.string s] w fun e w' => e = .returned (.bool (yBm s)) ∧ Below w.heap.size w w' := by
 go_enter Tryz.func75, Tryz.ntmps75; go_wp2; go_loopw [3] (fun v wr => ∃ (pos : Nat) (c : Int), v = .int .i64 c ∧ wr.heap[w.heap.size]? = some (.stringIter s pos) ∧ Below w.heap.size w wr ∧ Hid (good c 3 (yDX s pos) = good 2 3 (rs s))) (fun _ wr => s.size - wr.iterPos w.heap.size)
 case atStart => exact ⟨0, 2, rfl, World.iter_heap w s 0, (jf _ _).alloc (jr _) _, rfl⟩
 case round =>
  obtain ⟨pos, c, rfl, hit, hb, HG⟩ := hrel; have hpos0 := iterPos_of hit; by_cases hp : pos < s.size
  ·obtain ⟨W1, hnx, hw1⟩ := yDY (P := Tryz.prog) hit hp; have hwd := Lib.decode_width_pos s pos hp; have HN := jh (HG.out.symm.trans (yGH hp)); obtain ⟨r, hr⟩ : ∃ r : Int, r = ((Utf8.decode s pos).1 : Int) := ⟨_, rfl⟩
   rw [← hr] at hnx HN; have hb1 := hw1.below _ _ hb (jr _); have hit2 := hw1.it; have hT1 := hT.below hb1; have hks := jl hit2; clear hr hit hb HG; go_wp2_with fail; refine (yNa _ c r hT1.tab).mono ?_; rintro e w2 ⟨rfl, hb2⟩; have hit3 := (hb2.block _ hks).trans hit2; have hb3 := hb1.trans (hb2.mono hb1.size); clear hit2 hb1 hb2; cases hi : isF (cls c) r
   ·have HF := jh (HN.out.trans (by rw [hi]; rfl) : good 2 3 (rs s) = false); go_wp2; go_ret; exact ⟨by rw [yBm, HF.out]; rfl, hb3⟩
   ·have HF := jh (HN.out.symm.trans rfl |>.symm |>.trans (by rw [hi, Bool.true_and]) : good 2 3 (rs s) = good 3 3 (yDX s (pos + (Utf8.decode s pos).2))); go_wp2; go_roundw
    case rel => exact ⟨_, 3, rfl, hit3, hb3, HF.out.symm⟩
    case measure => rw [iterPos_of hit3, hpos0]; omega
  ·have hnx : ∀ ty, (Instr.next (.pointer (some ⟨w.heap.size, 0, none⟩)) true ty).run Tryz.prog wr = _ := fun ty => Lib.run_next_end_at wr w.heap.size s pos ty hit hp
   have HT := jh (HG.out.symm.trans (yH6 hp)); have hT1 := hT.below hb; by_cases h0 : s = ⟨#[]⟩
   ·subst h0; go_wp2; go_ret; exact ⟨by rw [yBm, HT.out]; rfl, hb⟩
   ·have h1 : ¬ s.toList = [] := yAW h0; have he : s.toList.isEmpty = false := by simp [h1]
    have h3 := jh (yMz h0); go_wp2_with fail; refine (yEy s _ hs hT1).mono ?_; rintro e w2 ⟨rfl, hb2⟩; go_wp2; go_ret; exact ⟨by rw [yBm, HT.out, decide_eq_true h3.out]; rfl, hb.trans (hb2.mono hb.size)⟩
-- gimlet/chars.Texts
theorem yDA (s : ByteArray) (w : World) (hs : s.size ≤ 9223372036854775807) (hT : yBd w) :
  Calls Tryz.prog 56 #[.string s] w fun e w' => e = .returned (.bool (yCe s)) ∧ Below w.heap.size w w' := by
 go_enter Tryz.func56, Tryz.ntmps56; go_wp2; go_loopw [4] (fun v wr => ∃ pos : Nat, wr.heap[w.heap.size]? = some (.stringIter s pos) ∧ Below w.heap.size w wr ∧ Hid (good 0 0 (yDX s pos) = good 0 0 (rs s))) (fun _ wr => s.size - wr.iterPos w.heap.size)
 case atStart => exact ⟨0, World.iter_heap w s 0, (jf _ _).alloc (jr _) _, rfl⟩
 case round =>
  obtain ⟨pos, hit, hb, HG⟩ := hrel; have hpos0 := iterPos_of hit; by_cases hp : pos < s.size
  ·obtain ⟨W1, hnx, hw1⟩ := yDY (P := Tryz.prog) hit hp; have hwd := Lib.decode_width_pos s pos hp; have HN := jh (HG.out.symm.trans (yGH hp)); obtain ⟨r, hr⟩ : ∃ r : Int, r = ((Utf8.decode s pos).1 : Int) := ⟨_, rfl⟩
   rw [← hr] at hnx HN; have hb1 := hw1.below _ _ hb (jr _); have hit2 := hw1.it; have hT1 := hT.below hb1; have hks := jl hit2; clear hr hit hb HG; go_wp2_with fail; refine (yNa _ 0 r hT1.tab).mono ?_; rintro e w2 ⟨rfl, hb2⟩; have hit3 := (hb2.block _ hks).trans hit2; have hb3 := hb1.trans (hb2.mono hb1.size); clear hit2 hb1 hb2; cases hi : isF (cls 0) r
   ·have HF := jh (HN.out.trans (by rw [hi]; rfl) : good 0 0 (rs s) = false); go_wp2; go_ret; exact ⟨by rw [yCe, HF.out]; rfl, hb3⟩
   ·have HF := jh (HN.out.trans (by rw [hi, Bool.true_and]) : good 0 0 (rs s) = good 0 0 (yDX s (pos + (Utf8.decode s pos).2))); go_wp2; go_roundw
    case rel => exact ⟨_, hit3, hb3, HF.out.symm⟩
    case measure => rw [iterPos_of hit3, hpos0]; omega
  ·have hnx : ∀ ty, (Instr.next (.pointer (some ⟨w.heap.size, 0, none⟩)) true ty).run Tryz.prog wr = _ := fun ty => Lib.run_next_end_at wr w.heap.size s pos ty hit hp
   have HT := jh (HG.out.symm.trans (yH6 hp)); have hT1 := hT.below hb; go_wp2_with fail; refine (yEy s _ hs hT1).mono ?_; rintro e w2 ⟨rfl, hb2⟩; go_wp2; go_ret; exact ⟨by rw [yCe, HT.out]; rfl, hb.trans (hb2.mono hb.size)⟩
end Go.Proofs.YtkhejkfjhddobaaGreatDoor
