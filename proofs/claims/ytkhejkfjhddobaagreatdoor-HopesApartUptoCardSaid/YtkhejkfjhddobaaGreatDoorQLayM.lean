/- strings.Contains and math/bits.Mul64 by the library's contracts. The tables of numbers and the fields are printed by the kit (lay-plain.mjs, wip/mklay.py). -/
import Derived.Shelf.Strings.Search3
import Derived.Shelf.Bits.Mul64
import Derived.Test.YtkhejkfjhddobaaGreatDoorNLawM
set_option maxHeartbeats 4000000
namespace Go.Proofs.YtkhejkfjhddobaaGreatDoor
open Go.Shelf
def yGA : Go.Shelf.Ren := ⟨fun | 144 => 127 | 143 => 129 | 219 => 130 | 217 => 131 | 225 => 132 | 224 => 133 | 267 => 134 | 266 => 135 | 314 => 136 | n => n, fun | 9 => 9 | 4 => 4 | 3 => 3 | 5 => 5 | 46 => 193 | 146 => 203 | 51 => 202 | n => n, fun | 1 => 3 | n => n⟩
theorem yFN : Go.Proofs.Lays.n144 Tryz.prog yGA := {
 mixed := by kernel_rfl
 f143 := Tryz.func129.trans (congrArg some (by kernel_rfl))
 f144 := Tryz.func127.trans (congrArg some (by kernel_rfl))
 f217 := Tryz.func131.trans (congrArg some (by kernel_rfl))
 f219 := Tryz.func130.trans (congrArg some (by kernel_rfl))
 f224 := Tryz.func133.trans (congrArg some (by kernel_rfl))
 f225 := Tryz.func132.trans (congrArg some (by kernel_rfl))
 f266 := Tryz.func135.trans (congrArg some (by kernel_rfl))
 f267 := Tryz.func134.trans (congrArg some (by kernel_rfl))
 f314 := Tryz.func136.trans (congrArg some (by kernel_rfl))
 t3 := Tryz.underlying3
 a3 := Tryz.isAgg3
 z3 := Tryz.sizeOf3
 v3 := Tryz.zeroValue3
 t4 := Tryz.underlying4
 a4 := Tryz.isAgg4
 z4 := Tryz.sizeOf4
 v4 := Tryz.zeroValue4
 t5 := Tryz.underlying5
 a5 := Tryz.isAgg5
 z5 := Tryz.sizeOf5
 v5 := Tryz.zeroValue5
 t9 := Tryz.underlying9
 a9 := Tryz.isAgg9
 z9 := Tryz.sizeOf9
 v9 := Tryz.zeroValue9
 t46 := Tryz.underlying193
 a46 := Tryz.isAgg193
 z46 := Tryz.sizeOf193
 v46 := Tryz.zeroValue193
 t51 := Tryz.underlying202
 a51 := Tryz.isAgg202
 z51 := Tryz.sizeOf202
 v51 := Tryz.zeroValue202
 t146 := Tryz.underlying203
 a146 := Tryz.isAgg203
 z146 := Tryz.sizeOf203
 v146 := Tryz.zeroValue203
 g1 := by kernel_rfl }
end Go.Proofs.YtkhejkfjhddobaaGreatDoor
namespace Gim
open Go Go.RowKit
def emB (s : ByteArray) : Bool := s.toList.isEmpty
def txB (s : ByteArray) : Bool := Lib.validD s.data.toList && !(decide (0 ≤ Lib.indexByte s.data.toList 39) && decide (0 ≤ Lib.indexByte s.data.toList 34))
def cmB (cmp : Int) (txt : ByteArray) (num : Int) : Bool := if cmp = 0 then emB txt && decide (num = 0) else if 1 ≤ cmp ∧ cmp ≤ 5 then txB txt && decide (num = 0) else if 6 ≤ cmp ∧ cmp ≤ 8 then emB txt && (decide (0 ≤ num) && decide (num ≤ 1000000)) else false
def lnB (op : Int) (n : Nat) : Bool := if op = 0 ∨ op = 1 then decide (2 ≤ n) else if op = 2 then decide (n = 1) else false
mutual
def gdX : Ex → Bool
 | .mk op args sts nm cmp txt num => if op = 3 then decide (args.length = 0) && ((decide (0 < sts.length) && yBk sts) && ((emB nm || yBm nm) && cmB cmp txt num)) else decide (sts.length = 0) && (emB nm && (decide (cmp = 0) && (emB txt && (decide (num = 0) && (lnB op args.length && yAQ args)))))
def yAQ : List Ex → Bool
 | [] => true
 | x :: r => gdX x && yAQ r
def gdT : St → Bool
 | .mk ax ts nm wh => decide (0 ≤ ax ∧ ax ≤ 3 ∧ 0 ≤ ts ∧ ts ≤ 3) && ((if ts = 0 then yBm nm else emB nm) && yAQ wh)
def yBk : List St → Bool
 | [] => true
 | x :: r => gdT x && yBk r
end
def gdP (sts : List St) : Bool := decide (0 < sts.length) && yBk sts
theorem yEI : ∀ (a b : List Ex), yAQ (a ++ b) = (yAQ a && yAQ b)
 | [], b => by simp [yAQ]
 | f :: r, b => by simp only [List.cons_append, yAQ, yEI r b, Bool.and_assoc]
theorem yGd : ∀ (a b : List St), yBk (a ++ b) = (yBk a && yBk b)
 | [], b => by simp [yBk]
 | f :: r, b => by simp only [List.cons_append, yBk, yGd r b, Bool.and_assoc]
theorem yL5 {l : List Ex} {q : Nat} {x : Ex} (h : l[q]? = some x) (hb : gdX x = false) : yAQ l = false := by have hq := (ji.1 h).1; have e : l = l.take (q + 1) ++ l.drop (q + 1) := (List.take_append_drop _ _).symm; rw [yAT h] at e; rw [e, yEI, yEI]; simp [yAQ, hb]
theorem yQ3 {l : List St} {q : Nat} {x : St} (h : l[q]? = some x) (hb : gdT x = false) : yBk l = false := by have hq := (ji.1 h).1; have e : l = l.take (q + 1) ++ l.drop (q + 1) := (List.take_append_drop _ _).symm; rw [yAT h] at e; rw [e, yGd, yGd]; simp [yBk, hb]
end Gim
namespace Go.Proofs.YtkhejkfjhddobaaGreatDoor
open Go.RowKit Gim
def CEx (x : Ex) : Prop := ∀ (W : World) (op : Int) (args : List Ex) (sts : List St) (nm : ByteArray) (cmp : Int) (txt : ByteArray) (num : Int) (a1 : Option Addr) (n1 c1 : Nat) (a2 : Option Addr) (n2 c2 : Nat), x = .mk op args sts nm cmp txt num → yAM W args a1 n1 c1 → yAH W sts a2 n2 c2 → yBd W →
 Calls Tryz.prog 78 #[.agg #[.int .i64 op, .slice a1 n1 c1, .slice a2 n2 c2, .string nm, .int .i64 cmp, .string txt, .int .i64 num]] W fun e w' => e = .returned (.bool (gdX x)) ∧ Below W.heap.size W w'
def CSt (x : St) : Prop := ∀ (W : World) (ax ts : Int) (nm : ByteArray) (wh : List Ex) (a1 : Option Addr) (n1 c1 : Nat), x = .mk ax ts nm wh → yAM W wh a1 n1 c1 → yBd W →
 Calls Tryz.prog 47 #[.agg #[.int .i64 ax, .int .i64 ts, .string nm, .slice a1 n1 c1]] W fun e w' => e = .returned (.bool (gdT x)) ∧ Below W.heap.size W w'
theorem yTD (s : ByteArray) (w : World) : Calls Tryz.prog 127 #[.string s, .string ⟨#[39]⟩] w fun e w' => e = .returned (.bool (decide (0 ≤ Lib.indexByte s.data.toList 39))) ∧ w' = w := Any.strings_Contains_one yFN s 39 w
theorem yTA (s : ByteArray) (w : World) : Calls Tryz.prog 127 #[.string s, .string ⟨#[34]⟩] w fun e w' => e = .returned (.bool (decide (0 ≤ Lib.indexByte s.data.toList 34))) ∧ w' = w := Any.strings_Contains_one yFN s 34 w
theorem yIS (s : ByteArray) (w : World) (hs : s.size ≤ 9223372036854775807) (hT : yBd w) : Calls Tryz.prog 112 #[.string s] w fun e w' => e = .returned (.bool (txB s)) ∧ Below w.heap.size w w' := by
 have hV := yEy s w hs hT; have h9 := fun W => yTD s W
 have h4 := fun W => yTA s W
 unfold txB; clear hT; obtain ⟨v, hv⟩ := je (Lib.validD s.data.toList); obtain ⟨c, hc⟩ := je (decide (0 ≤ Lib.indexByte s.data.toList 39)); obtain ⟨d, hd⟩ := je (decide (0 ≤ Lib.indexByte s.data.toList 34)); rw [hv] at hV ⊢; simp only [hc] at h9 ⊢; simp only [hd] at h4 ⊢; clear hv hc hd; cases v
 ·clear h9 h4; go_enter Tryz.func112, Tryz.ntmps112; go_wp2_with fail; refine hV.mono ?_; rintro e w1 ⟨rfl, b1⟩; have HB1 := jh b1; clear b1 hV; go_wp2_with fail; go_ret; exact ⟨rfl, HB1.out⟩
 ·cases c
  ·clear h4; go_enter Tryz.func112, Tryz.ntmps112; go_wp2_with fail; refine hV.mono ?_; rintro e w1 ⟨rfl, b1⟩; have HB1 := jh b1; clear b1 hV; go_wp2_with fail; refine (h9 _).mono ?_; rintro e w2 ⟨rfl, rfl⟩; clear h9; go_wp2_with fail; go_ret; exact ⟨rfl, HB1.out⟩
  ·cases d
   all_goals
    go_enter Tryz.func112, Tryz.ntmps112; go_wp2_with fail; refine hV.mono ?_; rintro e w1 ⟨rfl, b1⟩; have HB1 := jh b1; clear b1 hV; go_wp2_with fail; refine (h9 _).mono ?_; rintro e w2 ⟨rfl, rfl⟩; clear h9; go_wp2_with fail; refine (h4 _).mono ?_; rintro e w3 ⟨rfl, rfl⟩; clear h4; go_wp2_with fail; go_ret; exact ⟨rfl, HB1.out⟩
theorem yJt (w : World) (op : Int) (args : List Ex) (sts : List St) (nm : ByteArray) (cmp : Int) (txt : ByteArray) (num : Int) (a1 : Option Addr) (n1 c1 : Nat) (a2 : Option Addr) (n2 c2 : Nat) (h : CEx (.mk op args sts nm cmp txt num)) (h1 : yAM w args a1 n1 c1) (h2 : yAH w sts a2 n2 c2) (hT : yBd w) :
  Calls Tryz.prog 77 #[.agg #[.int .i64 op, .slice a1 n1 c1, .slice a2 n2 c2, .string nm, .int .i64 cmp, .string txt, .int .i64 num]] w fun e w' => e = .returned (.bool (!gdX (.mk op args sts nm cmp txt num))) ∧ Below w.heap.size w w' := by have b0 : Below w.heap.size w (w.alloc (.cells #[.int .i64 op, .slice a1 n1 c1, .slice a2 n2 c2, .string nm, .int .i64 cmp, .string txt, .int .i64 num] 66)) := (jf _ _).alloc (jr _) _; have hN := h _ op args sts nm cmp txt num a1 n1 c1 a2 n2 c2 rfl (h1.below b0) (h2.below b0) (hT.below b0); obtain ⟨r, hr⟩ := je (gdX (.mk op args sts nm cmp txt num)); rw [hr] at hN ⊢; have HB := jh b0; clear hr b0 h h1 h2 hT; go_enter Tryz.func77, Tryz.ntmps77; go_wp2_with fail; refine hN.mono ?_; rintro e w1 ⟨rfl, b1⟩; have HB1 := jh (HB.out.trans (b1.mono HB.out.size)); clear hN b1; go_wp2_with fail; go_ret; exact ⟨rfl, HB1.out⟩
theorem yGN (xs : List Ex) (a : Option Addr) (n cap : Nat) (w : World) (hF : yAM w xs a n cap) (hT : yBd w) (hE : ∀ x ∈ xs, CEx x) :
  Calls Tryz.prog 111 #[.slice a n cap, .func (.func 77) #[] #[]] w fun e w' => ∃ r : Int, e = .returned (.int .i64 r) ∧ decide (0 ≤ r) = (!yAQ xs) ∧ Below w.heap.size w w' := by
 have eg : ∀ args w, (callFunc 77 args).run Tryz.prog w = .ok (.enter 77 args) w := enters_of Tryz.func77 (by kernel_rfl) rfl
 have hcm := hF.cap_le; have hle := hF.le; have hnb : n ≤ 9223372036854775807 := by unfold maxLen at hcm; omega
 have HL := jh hF.len; have HF := jh hF; have HT := jh hT; have HE := jh hE; clear hF hT hE; go_enter Tryz.func111, Tryz.ntmps111; go_wp2_with fail; go_loopw [8] (fun i wr => ∃ q : Nat, i = .int .i64 q ∧ q ≤ n ∧ Below w.heap.size w wr ∧ Hid (yAQ (xs.take q) = true)) (fun i _ => n - (intOf i).toNat)
 case atStart => exact ⟨0, rfl, jz _, jf _ _, jh (by simp [yAQ])⟩
 case round =>
  obtain ⟨q, rfl, hq, hb, HG⟩ := hrel; by_cases hqn : q < n
  ·have hqn' : (q : Int) < n := by omega
   obtain ⟨b, o, op, args, sts, nm, cmp, txt, num, a1, n1, c1, a2, n2, c2, rfl, hbb, hel, d0, d1, d2, d3, d4, d5, d6, hF1, hF2⟩ := (HF.out.below hb).elem q hqn; have hC := yJt wr op args sts nm cmp txt num a1 n1 c1 a2 n2 c2 (HE.out _ (List.mem_of_getElem? hel)) hF1 hF2 (HT.out.below hb); obtain ⟨x, hx⟩ := je (Ex.mk op args sts nm cmp txt num); rw [hx] at hel hC; have HB := jh hb; have HEL := jh hel; clear hb hel hx hF1 hF2; cases hg : gdX x
   ·have HBAD := jh (yL5 HEL.out hg); rw [hg] at hC; have HR := jh (show decide (0 ≤ (q : Int)) = true by simp); clear hg HG; go_wp2_with fail; refine hC.mono ?_; rintro e w1 ⟨rfl, b1⟩; have HB1 := jh (HB.out.trans (b1.mono HB.out.size)); clear hC b1 d0 d1 d2 d3 d4 d5 d6; go_wp2_with fail; go_ret; exact ⟨q, rfl, by rw [HBAD.out, HR.out]; rfl, HB1.out⟩
   ·have HN := jh (show yAQ (xs.take (q + 1)) = true by rw [yAT HEL.out, yEI, HG.out]; simp [yAQ, hg]); rw [hg] at hC; clear hg HG; go_wp2_with fail; refine hC.mono ?_; rintro e w1 ⟨rfl, b1⟩; have HB1 := jh (HB.out.trans (b1.mono HB.out.size)); clear hC b1 d0 d1 d2 d3 d4 d5 d6; go_wp2_with fail; go_roundw
    case rel => exact ⟨q + 1, by go_num, by omega, HB1.out, HN⟩
    case measure => simp [intOf]; omega
  ·obtain rfl : q = n := by omega
   have HALL := jh (show yAQ xs = true by have h := HG.out; rw [jm (by rw [HL.out]; exact jr _)] at h; exact h); clear HG; go_wp2_with fail; go_ret; exact ⟨-1, rfl, by rw [HALL.out]; rfl, hb⟩
theorem yGU (xs : List Ex) (a : Option Addr) (n cap : Nat) (w : World) (hF : yAM w xs a n cap) (hT : yBd w) (hE : ∀ x ∈ xs, CEx x) :
  Calls Tryz.prog 76 #[.slice a n cap, .func (.func 77) #[] #[]] w fun e w' => e = .returned (.bool (!yAQ xs)) ∧ Below w.heap.size w w' := by have hC := yGN xs a n cap w hF hT hE; obtain ⟨g, hg⟩ := je (yAQ xs); rw [hg] at hC ⊢; clear hg hF hT hE; go_enter Tryz.func76, Tryz.ntmps76; go_wp2_with fail; refine hC.mono ?_; rintro e w1 ⟨r, rfl, hr, b1⟩; have HR := jh hr; have HB1 := jh b1; clear hC hr b1; go_wp2_with fail; go_ret; exact ⟨by rw [← HR.out]; rfl, HB1.out⟩
theorem yJv (w : World) (op : Int) (args : List Ex) (sts : List St) (nm : ByteArray) (cmp : Int) (txt : ByteArray) (num : Int) (a1 : Option Addr) (n1 c1 : Nat) (a2 : Option Addr) (n2 c2 : Nat) (h : CEx (.mk op args sts nm cmp txt num)) (h1 : yAM w args a1 n1 c1) (h2 : yAH w sts a2 n2 c2) (hT : yBd w) :
  Calls Tryz.prog 113 #[.agg #[.int .i64 op, .slice a1 n1 c1, .slice a2 n2 c2, .string nm, .int .i64 cmp, .string txt, .int .i64 num]] w fun e w' => e = .returned (.bool (!gdX (.mk op args sts nm cmp txt num))) ∧ Below w.heap.size w w' := by have b0 : Below w.heap.size w (w.alloc (.cells #[.int .i64 op, .slice a1 n1 c1, .slice a2 n2 c2, .string nm, .int .i64 cmp, .string txt, .int .i64 num] 66)) := (jf _ _).alloc (jr _) _; have hN := h _ op args sts nm cmp txt num a1 n1 c1 a2 n2 c2 rfl (h1.below b0) (h2.below b0) (hT.below b0); obtain ⟨r, hr⟩ := je (gdX (.mk op args sts nm cmp txt num)); rw [hr] at hN ⊢; have HB := jh b0; clear hr b0 h h1 h2 hT; go_enter Tryz.func113, Tryz.ntmps113; go_wp2_with fail; refine hN.mono ?_; rintro e w1 ⟨rfl, b1⟩; have HB1 := jh (HB.out.trans (b1.mono HB.out.size)); clear hN b1; go_wp2_with fail; go_ret; exact ⟨rfl, HB1.out⟩
theorem yGD (xs : List Ex) (a : Option Addr) (n cap : Nat) (w : World) (hF : yAM w xs a n cap) (hT : yBd w) (hE : ∀ x ∈ xs, CEx x) :
  Calls Tryz.prog 111 #[.slice a n cap, .func (.func 113) #[] #[]] w fun e w' => ∃ r : Int, e = .returned (.int .i64 r) ∧ decide (0 ≤ r) = (!yAQ xs) ∧ Below w.heap.size w w' := by
 have eg : ∀ args w, (callFunc 113 args).run Tryz.prog w = .ok (.enter 113 args) w := enters_of Tryz.func113 (by kernel_rfl) rfl
 have hcm := hF.cap_le; have hle := hF.le; have hnb : n ≤ 9223372036854775807 := by unfold maxLen at hcm; omega
 have HL := jh hF.len; have HF := jh hF; have HT := jh hT; have HE := jh hE; clear hF hT hE; go_enter Tryz.func111, Tryz.ntmps111; go_wp2_with fail; go_loopw [8] (fun i wr => ∃ q : Nat, i = .int .i64 q ∧ q ≤ n ∧ Below w.heap.size w wr ∧ Hid (yAQ (xs.take q) = true)) (fun i _ => n - (intOf i).toNat)
 case atStart => exact ⟨0, rfl, jz _, jf _ _, jh (by simp [yAQ])⟩
 case round =>
  obtain ⟨q, rfl, hq, hb, HG⟩ := hrel; by_cases hqn : q < n
  ·have hqn' : (q : Int) < n := by omega
   obtain ⟨b, o, op, args, sts, nm, cmp, txt, num, a1, n1, c1, a2, n2, c2, rfl, hbb, hel, d0, d1, d2, d3, d4, d5, d6, hF1, hF2⟩ := (HF.out.below hb).elem q hqn; have hC := yJv wr op args sts nm cmp txt num a1 n1 c1 a2 n2 c2 (HE.out _ (List.mem_of_getElem? hel)) hF1 hF2 (HT.out.below hb); obtain ⟨x, hx⟩ := je (Ex.mk op args sts nm cmp txt num); rw [hx] at hel hC; have HB := jh hb; have HEL := jh hel; clear hb hel hx hF1 hF2; cases hg : gdX x
   ·have HBAD := jh (yL5 HEL.out hg); rw [hg] at hC; have HR := jh (show decide (0 ≤ (q : Int)) = true by simp); clear hg HG; go_wp2_with fail; refine hC.mono ?_; rintro e w1 ⟨rfl, b1⟩; have HB1 := jh (HB.out.trans (b1.mono HB.out.size)); clear hC b1 d0 d1 d2 d3 d4 d5 d6; go_wp2_with fail; go_ret; exact ⟨q, rfl, by rw [HBAD.out, HR.out]; rfl, HB1.out⟩
   ·have HN := jh (show yAQ (xs.take (q + 1)) = true by rw [yAT HEL.out, yEI, HG.out]; simp [yAQ, hg]); rw [hg] at hC; clear hg HG; go_wp2_with fail; refine hC.mono ?_; rintro e w1 ⟨rfl, b1⟩; have HB1 := jh (HB.out.trans (b1.mono HB.out.size)); clear hC b1 d0 d1 d2 d3 d4 d5 d6; go_wp2_with fail; go_roundw
    case rel => exact ⟨q + 1, by go_num, by omega, HB1.out, HN⟩
    case measure => simp [intOf]; omega
  ·obtain rfl : q = n := by omega
   have HALL := jh (show yAQ xs = true by have h := HG.out; rw [jm (by rw [HL.out]; exact jr _)] at h; exact h); clear HG; go_wp2_with fail; go_ret; exact ⟨-1, rfl, by rw [HALL.out]; rfl, hb⟩
theorem yG8 (xs : List Ex) (a : Option Addr) (n cap : Nat) (w : World) (hF : yAM w xs a n cap) (hT : yBd w) (hE : ∀ x ∈ xs, CEx x) :
  Calls Tryz.prog 76 #[.slice a n cap, .func (.func 113) #[] #[]] w fun e w' => e = .returned (.bool (!yAQ xs)) ∧ Below w.heap.size w w' := by have hC := yGD xs a n cap w hF hT hE; obtain ⟨g, hg⟩ := je (yAQ xs); rw [hg] at hC ⊢; clear hg hF hT hE; go_enter Tryz.func76, Tryz.ntmps76; go_wp2_with fail; refine hC.mono ?_; rintro e w1 ⟨r, rfl, hr, b1⟩; have HR := jh hr; have HB1 := jh b1; clear hC hr b1; go_wp2_with fail; go_ret; exact ⟨by rw [← HR.out]; rfl, HB1.out⟩
theorem yJo (w : World) (ax ts : Int) (nm : ByteArray) (wh : List Ex) (a1 : Option Addr) (n1 c1 : Nat) (h : CSt (.mk ax ts nm wh)) (h1 : yAM w wh a1 n1 c1) (hT : yBd w) :
  Calls Tryz.prog 46 #[.agg #[.int .i64 ax, .int .i64 ts, .string nm, .slice a1 n1 c1]] w fun e w' => e = .returned (.bool (!gdT (.mk ax ts nm wh))) ∧ Below w.heap.size w w' := by have b0 : Below w.heap.size w (w.alloc (.cells #[.int .i64 ax, .int .i64 ts, .string nm, .slice a1 n1 c1] 64)) := (jf _ _).alloc (jr _) _; have hN := h _ ax ts nm wh a1 n1 c1 rfl (h1.below b0) (hT.below b0); obtain ⟨r, hr⟩ := je (gdT (.mk ax ts nm wh)); rw [hr] at hN ⊢; have HB := jh b0; clear hr b0 h h1 hT; go_enter Tryz.func46, Tryz.ntmps46; go_wp2_with fail; refine hN.mono ?_; rintro e w1 ⟨rfl, b1⟩; have HB1 := jh (HB.out.trans (b1.mono HB.out.size)); clear hN b1; go_wp2_with fail; go_ret; exact ⟨rfl, HB1.out⟩
theorem yGM (xs : List St) (a : Option Addr) (n cap : Nat) (w : World) (hF : yAH w xs a n cap) (hT : yBd w) (hE : ∀ x ∈ xs, CSt x) :
  Calls Tryz.prog 74 #[.slice a n cap, .func (.func 46) #[] #[]] w fun e w' => ∃ r : Int, e = .returned (.int .i64 r) ∧ decide (0 ≤ r) = (!yBk xs) ∧ Below w.heap.size w w' := by
 have eg : ∀ args w, (callFunc 46 args).run Tryz.prog w = .ok (.enter 46 args) w := enters_of Tryz.func46 (by kernel_rfl) rfl
 have hcm := hF.cap_le; have hle := hF.le; have hnb : n ≤ 9223372036854775807 := by unfold maxLen at hcm; omega
 have HL := jh hF.len; have HF := jh hF; have HT := jh hT; have HE := jh hE; clear hF hT hE; go_enter Tryz.func74, Tryz.ntmps74; go_wp2_with fail; go_loopw [8] (fun i wr => ∃ q : Nat, i = .int .i64 q ∧ q ≤ n ∧ Below w.heap.size w wr ∧ Hid (yBk (xs.take q) = true)) (fun i _ => n - (intOf i).toNat)
 case atStart => exact ⟨0, rfl, jz _, jf _ _, jh (by simp [yBk])⟩
 case round =>
  obtain ⟨q, rfl, hq, hb, HG⟩ := hrel; by_cases hqn : q < n
  ·have hqn' : (q : Int) < n := by omega
   obtain ⟨b, o, ax, ts, nm, wh, a1, n1, c1, rfl, hbb, hel, d0, d1, d2, d3, hF1⟩ := (HF.out.below hb).elem q hqn; have hC := yJo wr ax ts nm wh a1 n1 c1 (HE.out _ (List.mem_of_getElem? hel)) hF1 (HT.out.below hb); obtain ⟨x, hx⟩ := je (St.mk ax ts nm wh); rw [hx] at hel hC; have HB := jh hb; have HEL := jh hel; clear hb hel hx hF1; cases hg : gdT x
   ·have HBAD := jh (yQ3 HEL.out hg); rw [hg] at hC; have HR := jh (show decide (0 ≤ (q : Int)) = true by simp); clear hg HG; go_wp2_with fail; refine hC.mono ?_; rintro e w1 ⟨rfl, b1⟩; have HB1 := jh (HB.out.trans (b1.mono HB.out.size)); clear hC b1 d0 d1 d2 d3; go_wp2_with fail; go_ret; exact ⟨q, rfl, by rw [HBAD.out, HR.out]; rfl, HB1.out⟩
   ·have HN := jh (show yBk (xs.take (q + 1)) = true by rw [yAT HEL.out, yGd, HG.out]; simp [yBk, hg]); rw [hg] at hC; clear hg HG; go_wp2_with fail; refine hC.mono ?_; rintro e w1 ⟨rfl, b1⟩; have HB1 := jh (HB.out.trans (b1.mono HB.out.size)); clear hC b1 d0 d1 d2 d3; go_wp2_with fail; go_roundw
    case rel => exact ⟨q + 1, by go_num, by omega, HB1.out, HN⟩
    case measure => simp [intOf]; omega
  ·obtain rfl : q = n := by omega
   have HALL := jh (show yBk xs = true by have h := HG.out; rw [jm (by rw [HL.out]; exact jr _)] at h; exact h); clear HG; go_wp2_with fail; go_ret; exact ⟨-1, rfl, by rw [HALL.out]; rfl, hb⟩
theorem yG3 (xs : List St) (a : Option Addr) (n cap : Nat) (w : World) (hF : yAH w xs a n cap) (hT : yBd w) (hE : ∀ x ∈ xs, CSt x) :
  Calls Tryz.prog 45 #[.slice a n cap, .func (.func 46) #[] #[]] w fun e w' => e = .returned (.bool (!yBk xs)) ∧ Below w.heap.size w w' := by have hC := yGM xs a n cap w hF hT hE; obtain ⟨g, hg⟩ := je (yBk xs); rw [hg] at hC ⊢; clear hg hF hT hE; go_enter Tryz.func45, Tryz.ntmps45; go_wp2_with fail; refine hC.mono ?_; rintro e w1 ⟨r, rfl, hr, b1⟩; have HR := jh hr; have HB1 := jh b1; clear hC hr b1; go_wp2_with fail; go_ret; exact ⟨by rw [← HR.out]; rfl, HB1.out⟩
theorem yEA (ax ts : Int) (nm : ByteArray) (wh : List Ex) (hw : nm.size ≤ 9223372036854775807) (hE : ∀ x ∈ wh, CEx x) : CSt (.mk ax ts nm wh) := by
 intro w ax' ts' nm' wh' a n cap he hF hT; obtain ⟨rfl, rfl, rfl, rfl⟩ := St.mk.inj he; clear he; have b0 : Below w.heap.size w (w.alloc (.cells #[.int .i64 ax, .int .i64 ts, .string nm, .slice a n cap] 64)) := (jf _ _).alloc (jr _) _; have x0 := jw w (.cells #[.int .i64 ax, .int .i64 ts, .string nm, .slice a n cap] 64); have hN := yCF nm _ hw (hT.below b0); have hC := fun W (hb : Below w.heap.size w W) => yGU wh a n cap W (hF.below hb) (hT.below hb) hE
 have HB := jh b0; have HX := jh x0; have HC := jh hC; have hg : gdT (.mk ax ts nm wh) = (decide (0 ≤ ax ∧ ax ≤ 3 ∧ 0 ≤ ts ∧ ts ≤ 3) && ((if ts = 0 then yBm nm else emB nm) && yAQ wh)) := by unfold gdT; rfl
 obtain ⟨g, hgg⟩ := je (yAQ wh); obtain ⟨v, hvv⟩ := je (yBm nm); rw [hgg] at hC hg HC; rw [hvv] at hN hg; rw [hg]; clear hg hgg hvv hF hT hE b0 x0 hC; by_cases h1 : ax < 0
 ·have HH := jh (show decide (0 ≤ ax ∧ ax ≤ 3 ∧ 0 ≤ ts ∧ ts ≤ 3) = false by simp; omega); rw [HH.out, Bool.false_and]; clear hN HC; go_enter Tryz.func47, Tryz.ntmps47; go_wp2_with fail; go_ret; exact ⟨rfl, HB.out⟩
 by_cases h2 : 3 < ax
 ·have HH := jh (show decide (0 ≤ ax ∧ ax ≤ 3 ∧ 0 ≤ ts ∧ ts ≤ 3) = false by simp; omega); rw [HH.out, Bool.false_and]; clear hN HC; go_enter Tryz.func47, Tryz.ntmps47; go_wp2_with fail; go_ret; exact ⟨rfl, HB.out⟩
 by_cases h3 : ts < 0
 ·have HH := jh (show decide (0 ≤ ax ∧ ax ≤ 3 ∧ 0 ≤ ts ∧ ts ≤ 3) = false by simp; omega); rw [HH.out, Bool.false_and]; clear hN HC; go_enter Tryz.func47, Tryz.ntmps47; go_wp2_with fail; go_ret; exact ⟨rfl, HB.out⟩
 by_cases h4 : 3 < ts
 ·have HH := jh (show decide (0 ≤ ax ∧ ax ≤ 3 ∧ 0 ≤ ts ∧ ts ≤ 3) = false by simp; omega); rw [HH.out, Bool.false_and]; clear hN HC; go_enter Tryz.func47, Tryz.ntmps47; go_wp2_with fail; go_ret; exact ⟨rfl, HB.out⟩
 have HH := jh (show decide (0 ≤ ax ∧ ax ≤ 3 ∧ 0 ≤ ts ∧ ts ≤ 3) = true by simp; omega); rw [HH.out, Bool.true_and]; clear HH; by_cases h5 : ts = 0
 ·rw [if_pos h5]; subst h5; clear h3 h4; cases v
  ·go_enter Tryz.func47, Tryz.ntmps47; go_wp2_with fail; refine hN.mono ?_; rintro e w1 ⟨rfl, b1⟩; have hx := (b1.block _ (jl HX.out)).trans HX.out; have k0 := jc hx 0 rfl; have k1 := jc hx 1 rfl; have k2 := jc hx 2 rfl; have k3 := jc hx 3 rfl; clear hx; have HB1 := jh (HB.out.trans (b1.mono HB.out.size)); clear hN b1; clear HC; go_wp2_with fail; go_ret; exact ⟨rfl, HB1.out⟩
  ·go_enter Tryz.func47, Tryz.ntmps47; go_wp2_with fail; refine hN.mono ?_; rintro e w1 ⟨rfl, b1⟩; have hx := (b1.block _ (jl HX.out)).trans HX.out; have k0 := jc hx 0 rfl; have k1 := jc hx 1 rfl; have k2 := jc hx 2 rfl; have k3 := jc hx 3 rfl; clear hx; have HB1 := jh (HB.out.trans (b1.mono HB.out.size)); clear hN b1; have hC := HC.out w1 HB1.out; go_wp2_with fail; refine hC.mono ?_; rintro e w2 ⟨rfl, b2⟩; have HB2 := jh (HB1.out.trans (b2.mono HB1.out.size)); clear hC b2 k0 k1 k2 k3; go_wp2_with fail; go_ret; exact ⟨by simp, HB2.out⟩
 ·rw [if_neg h5]; have e5 : (ts == 0) = false := jn.2 h5; have e6 : (ts != 0) = true := by simp [h5]
  clear hN; unfold emB; cases h6 : nm.toList.isEmpty
  ·clear HC; go_enter Tryz.func47, Tryz.ntmps47; go_wp2_with fail; go_ret; exact ⟨rfl, HB.out⟩
  ·have hC := HC.out _ HB.out; go_enter Tryz.func47, Tryz.ntmps47; go_wp2_with fail; refine hC.mono ?_; rintro e w2 ⟨rfl, b2⟩; have HB2 := jh (HB.out.trans (b2.mono HB.out.size)); clear hC b2; go_wp2_with fail; go_ret; exact ⟨by simp, HB2.out⟩
theorem yEk (sts : List St) (a : Option Addr) (n cap : Nat) (w : World) (hF : yAH w sts a n cap) (hT : yBd w) (hE : ∀ x ∈ sts, CSt x) :
  Calls Tryz.prog 24 #[.agg #[.slice a n cap]] w fun e w' => e = .returned (.bool (gdP sts)) ∧ Below w.heap.size w w' := by
 have b0 : Below w.heap.size w (w.alloc (.cells #[.slice a n cap] 25)) := (jf _ _).alloc (jr _) _; have hC := yG3 sts a n cap _ (hF.below b0) (hT.below b0) hE; have hg : gdP sts = (decide (0 < n) && yBk sts) := by unfold gdP; rw [hF.len]
 have hcm := hF.cap_le; have hle := hF.le; have hnb : n ≤ 9223372036854775807 := by unfold maxLen at hcm; omega
 obtain ⟨g, hgg⟩ := je (yBk sts); rw [hgg] at hC hg; rw [hg]; have HB := jh b0; clear hg hgg hF hT hE b0; by_cases h0 : n = 0
 ·subst h0; clear hC; go_enter Tryz.func24, Tryz.ntmps24; go_wp2_with fail; go_ret; exact ⟨rfl, HB.out⟩
 ·have hp : 0 < (n : Int) := by omega
  have HP := jh (show decide (0 < n) = true by simp; omega); go_enter Tryz.func24, Tryz.ntmps24; go_wp2_with fail; refine hC.mono ?_; rintro e w1 ⟨rfl, b1⟩; have HB1 := jh (HB.out.trans (b1.mono HB.out.size)); clear hC b1; go_wp2_with fail; go_ret; exact ⟨by rw [HP.out]; simp, HB1.out⟩
end Go.Proofs.YtkhejkfjhddobaaGreatDoor
namespace Gim
open Go Go.RowKit
mutual
/-- predicates, rows that an expression adds at once; what then waits in their brackets -/
def pcX : Ex → Nat
 | .mk op args _ _ _ _ _ => if op = 3 then 1 else 1 + yAN args
def yAN : List Ex → Nat
 | [] => 0
 | x :: r => pcX x + yAN r
end
mutual
def rcX : Ex → Nat
 | .mk op args sts _ _ _ _ => if op = 3 then sts.length else yAV args
def yAV : List Ex → Nat
 | [] => 0
 | x :: r => rcX x + yAV r
end
mutual
def inX : Ex → Nat
 | .mk op args sts _ _ _ _ => if op = 3 then yBe sts else yDq args
def yDq : List Ex → Nat
 | [] => 0
 | x :: r => inX x + yDq r
end
mutual
theorem yBE : ∀ x : Ex, pcX x + rcX x + inX x ≤ szX x ∧ 1 ≤ pcX x
 | .mk op args sts nm cmp txt num => by unfold pcX rcX inX szX; have := yDd args; split <;> omega
theorem yDd : ∀ l : List Ex, yAN l + yAV l + yDq l ≤ yAU l
 | [] => by simp [yAN, yAV, yDq, yAU]
 | x :: r => by unfold yAN yAV yDq yAU; have h1 := yBE x; have h2 := yDd r; omega
end
def yBb (st : Cst) (i : Nat) : Nat := ((st.wh.drop i).map yAU).sum
theorem yMC : ∀ ts : List St, ((ts.map yFb).map yAU).sum = yBe ts
 | [] => rfl
 | .mk ax t nm wh :: r => by simp only [List.map_cons, List.sum_cons, yBe, szT, yFb, yMC r]
theorem yPy (st : Cst) (ws : List (List Ex)) (rows : List yCK) (preds : List yAG) (i : Nat) (hi : i ≤ st.wh.length) : yBb ⟨rows, st.wh ++ ws, preds⟩ i = yBb st i + (ws.map yAU).sum := by unfold yBb; show ((List.drop i (st.wh ++ ws)).map yAU).sum = _; rw [List.drop_append, show i - st.wh.length = 0 by omega, List.drop_zero, List.map_append, List.sum_append]
def yKY (B : Nat) (st : Cst) : Prop := (∀ r ∈ st.preds, r.args.length ≤ B) ∧ ∀ r ∈ st.rows, r.ps.length ≤ B
theorem mem_modify {α : Type} {l : List α} {k : Nat} {f : α → α} {x : α} (h : x ∈ l.modify k f) : x ∈ l ∨ ∃ y ∈ l, x = f y := by
 obtain ⟨i, hi⟩ := List.mem_iff_getElem?.1 h; by_cases hk : k = i
 ·subst hk; rw [List.getElem?_modify_eq] at hi; cases e : l[k]? with
  | none => rw [e] at hi; cases hi
  | some y =>
   rw [e] at hi; injection hi with hi; exact .inr ⟨y, List.mem_of_getElem? e, hi.symm⟩
 ·rw [List.getElem?_modify_ne _ _ hk] at hi; exact .inl (List.mem_of_getElem? hi)
structure yEz (st st' : Cst) (p r i b : Nat) : Prop where
 preds : st'.preds.length = st.preds.length + p
 rows : st'.rows.length = st.rows.length + r
 wh : st'.wh.length = st.wh.length + r
 pend : ∀ j, j ≤ st.wh.length → yBb st' j = yBb st j + i
 args : ∀ B, yKY B st → yKY (B + b) st'
 old : ∀ j, j < st.wh.length → st'.wh[j]? = st.wh[j]?
theorem yEz.refl (st : Cst) : yEz st st 0 0 0 0 := ⟨rfl, rfl, rfl, fun _ _ => rfl, fun _ h => h, fun _ _ => rfl⟩
theorem yEz.trans {a b c : Cst} {p r i n p2 r2 i2 n2 : Nat} (h : yEz a b p r i n) (k : yEz b c p2 r2 i2 n2) : yEz a c (p + p2) (r + r2) (i + i2) (n + n2) :=
 ⟨by rw [k.preds, h.preds]; omega, by rw [k.rows, h.rows]; omega, by rw [k.wh, h.wh]; omega, fun j hj => by rw [k.pend j (by rw [h.wh]; omega), h.pend j hj]; omega, fun B hB => by rw [← Nat.add_assoc]; exact k.args _ (h.args B hB), fun j hj => (k.old j (by rw [h.wh]; omega)).trans (h.old j hj)⟩
theorem yD3 (st : Cst) (op : Int) : yEz st (addPred st op) 1 0 0 0 :=
 ⟨by simp [addPred], rfl, rfl, fun _ _ => rfl, fun B hB => ⟨fun r hr => by
  have hr : r ∈ st.preds ++ [yBf op] := hr; rcases List.mem_append.1 hr with h | h
  ·exact hB.1 r h
  ·rw [List.mem_singleton.1 h]; exact jz _, hB.2⟩, fun _ _ => rfl⟩
theorem yMf (st : Cst) (k : Nat) (n : Int) : yEz st (addArg st k n) 0 0 0 1 :=
 ⟨by simp [addArg, List.length_modify], rfl, rfl, fun _ _ => rfl, fun B hB => ⟨fun r hr => by
  rcases mem_modify hr with h | ⟨y, h, e⟩
  ·exact Nat.le_succ_of_le (hB.1 r h)
  ·rw [e]; have := hB.1 y h; simp; exact this, fun r hr => Nat.le_succ_of_le (hB.2 r hr)⟩, fun _ _ => rfl⟩
theorem yLO (st : Cst) (k : Nat) (n : Int) : yEz st (addRow st k n) 0 0 0 1 :=
 ⟨rfl, by simp [addRow, List.length_modify], rfl, fun _ _ => rfl, fun B hB => ⟨fun r hr => Nat.le_succ_of_le (hB.1 r hr), fun r hr => by
  rcases mem_modify hr with h | ⟨y, h, e⟩
  ·exact Nat.le_succ_of_le (hB.2 r h)
  ·rw [e]; have := hB.2 y h; simp; exact this⟩, fun _ _ => rfl⟩
theorem yKQ (st : Cst) (k c : Nat) (nm : ByteArray) (cmp : Int) (txt : ByteArray) (num : Int) : yEz st (yCm st k c nm cmp txt num) 0 0 0 0 :=
 ⟨by simp [yCm, List.length_modify], rfl, rfl, fun _ _ => rfl, fun B hB => ⟨fun r hr => by
  rcases mem_modify hr with h | ⟨y, h, e⟩
  ·exact hB.1 r h
  ·rw [e]; exact hB.1 y h, hB.2⟩, fun _ _ => rfl⟩
theorem yBU (st : Cst) (ts : List St) : yEz st (yAh st ts) 0 ts.length (yBe ts) 0 :=
 ⟨rfl, by simp [yAh], by simp [yAh], fun j hj => by
  rw [← yMC]; exact yPy st _ _ _ j hj, fun B hB => ⟨hB.1, fun r hr => by
  have hr : r ∈ st.rows ++ ts.map yCx := hr; rcases List.mem_append.1 hr with h | h
  ·exact hB.2 r h
  ·obtain ⟨t, _, e⟩ := List.mem_map.1 h; rw [← e]; cases t; exact jz _⟩, fun j hj => by show (st.wh ++ ts.map yFb)[j]? = _; exact List.getElem?_append_left hj⟩
mutual
theorem yCd : ∀ (x : Ex) (st : Cst), yEz st (cX x st) (pcX x) (rcX x) (inX x) (pcX x - 1)
 | .mk op args sts nm cmp txt num, st => by
  unfold cX pcX rcX inX; by_cases h : op = 3
  ·rw [if_pos h, if_pos h, if_pos h, if_pos h]; have := ((yD3 st op).trans (yKQ _ st.preds.length sts.length nm cmp txt num)).trans (yBU _ sts); simpa using this
  ·rw [if_neg h, if_neg h, if_neg h, if_neg h]; have := (yD3 st op).trans (yF1 args st.preds.length (addPred st op)); simpa [Nat.add_comm] using this
theorem yF1 : ∀ (l : List Ex) (k : Nat) (st : Cst), yEz st (cXL l k st) (yAN l) (yAV l) (yDq l) (yAN l)
 | [], k, st => by unfold cXL yAN yAV yDq; exact yEz.refl st
 | x :: r, k, st => by unfold cXL yAN yAV yDq; have h1 := (yCd x st).trans (yMf _ k st.preds.length); have h2 := h1.trans (yF1 r k _); have h3 := (yBE x).2; rw [show pcX x + 0 + yAN r = pcX x + yAN r by omega, show rcX x + 0 + yAV r = rcX x + yAV r by omega, show inX x + 0 + yDq r = inX x + yDq r by omega, show pcX x - 1 + 1 + yAN r = pcX x + yAN r by omega] at h2; exact h2
end
theorem yLt : ∀ {l : List Ex} {q : Nat} {x : Ex} (_ : l[q]? = some x) (k : Nat) (st : Cst), cXL (l.take (q + 1)) k st = addArg (cX x (cXL (l.take q) k st)) k (cXL (l.take q) k st).preds.length
 | [], q, x, h, _, _ => by simp at h
 | y :: r, 0, x, h, k, st => by simp only [List.getElem?_cons_zero, Option.some.injEq] at h; subst h; simp [cXL]
 | y :: r, q + 1, x, h, k, st => by rw [List.getElem?_cons_succ] at h; rw [List.take_succ_cons, List.take_succ_cons]; unfold cXL; exact yLt h k _
theorem yJ0 : ∀ {l : List Ex} {q : Nat} {x : Ex} (_ : l[q]? = some x) (k : Nat) (st : Cst), yA5 k (l.take (q + 1)) st = addRow (cX x (yA5 k (l.take q) st)) k (yA5 k (l.take q) st).preds.length
 | [], q, x, h, _, _ => by simp at h
 | y :: r, 0, x, h, k, st => by simp only [List.getElem?_cons_zero, Option.some.injEq] at h; subst h; simp [yA5]
 | y :: r, q + 1, x, h, k, st => by rw [List.getElem?_cons_succ] at h; rw [List.take_succ_cons, List.take_succ_cons]; unfold yA5; exact yJ0 h k _
theorem yCi : ∀ (l : List Ex) (k : Nat) (st : Cst), yEz st (yA5 k l st) (yAN l) (yAV l) (yDq l) (yAN l)
 | [], k, st => by unfold yA5 yAN yAV yDq; exact yEz.refl st
 | x :: r, k, st => by unfold yA5 yAN yAV yDq; have h1 := (yCd x st).trans (yLO _ k st.preds.length); have h2 := h1.trans (yCi r k _); have h3 := (yBE x).2; rw [show pcX x + 0 + yAN r = pcX x + yAN r by omega, show rcX x + 0 + yAV r = rcX x + yAV r by omega, show inX x + 0 + yDq r = inX x + yDq r by omega, show pcX x - 1 + 1 + yAN r = pcX x + yAN r by omega] at h2; exact h2
theorem yKp (l : List Ex) (q : Nat) : yAN (l.take q) ≤ yAN l ∧ yAV (l.take q) ≤ yAV l ∧ yDq (l.take q) ≤ yDq l ∧ yAU (l.take q) ≤ yAU l := by
 induction l generalizing q with
 | nil => simp
 | cons x r ih =>
  cases q with
  | zero => simp [yAN, yAV, yDq, yAU]
  | succ q =>
   have := ih q; simp only [List.take_succ_cons, yAN, yAV, yDq, yAU]; omega
structure Fits (st : Cst) (n : Nat) : Prop where
 rows : st.rows.length + n ≤ 1048576
 wh : st.wh.length + n ≤ 1048576
 preds : st.preds.length + n ≤ 1048576
 args : ∃ B, yKY B st ∧ B + n ≤ 1048576
theorem Fits.less {st : Cst} {n m : Nat} (h : Fits st n) (hm : m ≤ n) : Fits st m := by obtain ⟨a, b, c, B, d, e⟩ := h; exact ⟨by omega, by omega, by omega, B, d, by omega⟩
theorem Fits.room {st st' : Cst} {n m p r i b : Nat} (h : Fits st n) (hr : yEz st st' p r i b) (h1 : p + m ≤ n) (h2 : r + m ≤ n) (h3 : b + m ≤ n) : Fits st' m := by obtain ⟨x, y, z, B, d, e⟩ := h; have := hr.rows; have := hr.wh; have := hr.preds; exact ⟨by omega, by omega, by omega, B + b, hr.args B d, by omega⟩
end Gim
