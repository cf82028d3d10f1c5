/- ask.goodText, goodStep and goodPath; the looks through lists of expressions and steps. Printed by wip/mkqgood.py. -/
import Derived.Test.YtghepjbfhjkinaaDoorQTree
import Derived.Test.YtghepjbfhjkinaaDoorQLay
import Derived.Deep.CutRange
import Derived.Deep.CutBlock
namespace Gim
open Go Go.RowKit
def emB (s : ByteArray) : Bool := s.toList.isEmpty
def txB (s : ByteArray) : Bool := Lib.validD s.data.toList && !(decide (0 ≤ Lib.indexByte s.data.toList 39) && decide (0 ≤ Lib.indexByte s.data.toList 34))
def cmB (cmp : Int) (txt : ByteArray) (num : Int) : Bool := if cmp = 0 then emB txt && decide (num = 0) else if 1 ≤ cmp ∧ cmp ≤ 5 then txB txt && decide (num = 0) else if 6 ≤ cmp ∧ cmp ≤ 8 then emB txt && (decide (0 ≤ num) && decide (num ≤ 1000000)) else false
def lnB (op : Int) (n : Nat) : Bool := if op = 0 ∨ op = 1 then decide (2 ≤ n) else if op = 2 then decide (n = 1) else false
mutual
def gdX : Ex → Bool
  | .mk op args sts nm cmp txt num => if op = 3 then decide (args.length = 0) && ((decide (0 < sts.length) && gdTL sts) && ((emB nm || nameB nm) && cmB cmp txt num)) else decide (sts.length = 0) && (emB nm && (decide (cmp = 0) && (emB txt && (decide (num = 0) && (lnB op args.length && gdXL args)))))
def gdXL : List Ex → Bool
  | [] => true
  | x :: r => gdX x && gdXL r
def gdT : St → Bool
  | .mk ax ts nm wh => decide (0 ≤ ax ∧ ax ≤ 3 ∧ 0 ≤ ts ∧ ts ≤ 3) && ((if ts = 0 then nameB nm else emB nm) && gdXL wh)
def gdTL : List St → Bool
  | [] => true
  | x :: r => gdT x && gdTL r
end
def gdP (sts : List St) : Bool := decide (0 < sts.length) && gdTL sts
theorem gdXL_app : ∀ (a b : List Ex), gdXL (a ++ b) = (gdXL a && gdXL b)
  | [], b => by simp [gdXL]
  | f :: r, b => by simp only [List.cons_append, gdXL, gdXL_app r b, Bool.and_assoc]
theorem gdTL_app : ∀ (a b : List St), gdTL (a ++ b) = (gdTL a && gdTL b)
  | [], b => by simp [gdTL]
  | f :: r, b => by simp only [List.cons_append, gdTL, gdTL_app r b, Bool.and_assoc]
theorem gdXL_bad {l : List Ex} {q : Nat} {x : Ex} (h : l[q]? = some x) (hb : gdX x = false) : gdXL l = false := by
  have hq := (List.getElem?_eq_some_iff.1 h).1
  have e : l = l.take (q + 1) ++ l.drop (q + 1) := (List.take_append_drop _ _).symm
  rw [takeL_next h] at e
  rw [e, gdXL_app, gdXL_app]
  simp [gdXL, hb]
theorem gdTL_bad {l : List St} {q : Nat} {x : St} (h : l[q]? = some x) (hb : gdT x = false) : gdTL l = false := by
  have hq := (List.getElem?_eq_some_iff.1 h).1
  have e : l = l.take (q + 1) ++ l.drop (q + 1) := (List.take_append_drop _ _).symm
  rw [takeL_next h] at e
  rw [e, gdTL_app, gdTL_app]
  simp [gdTL, hb]
end Gim
namespace Go.Proofs.YtghepjbfhjkinaaDoor
open Go.RowKit Gim
/-- ask.goodExpr of the expression, wherever it lies -/
def CEx (x : Ex) : Prop := ∀ (W : World) (op : Int) (args : List Ex) (sts : List St) (nm : ByteArray) (cmp : Int) (txt : ByteArray) (num : Int) (a1 : Option Addr) (n1 c1 : Nat) (a2 : Option Addr) (n2 c2 : Nat), x = .mk op args sts nm cmp txt num → FitXS W args a1 n1 c1 → FitTS W sts a2 n2 c2 → Laid W →
  Calls Tryd.prog 25 #[.agg #[.int .i64 op, .slice a1 n1 c1, .slice a2 n2 c2, .string nm, .int .i64 cmp, .string txt, .int .i64 num]] W fun e w' => e = .returned (.bool (gdX x)) ∧ Below W.heap.size W w'
/-- ask.goodStep of the step, wherever it lies -/
def CSt (x : St) : Prop := ∀ (W : World) (ax ts : Int) (nm : ByteArray) (wh : List Ex) (a1 : Option Addr) (n1 c1 : Nat), x = .mk ax ts nm wh → FitXS W wh a1 n1 c1 → Laid W →
  Calls Tryd.prog 19 #[.agg #[.int .i64 ax, .int .i64 ts, .string nm, .slice a1 n1 c1]] W fun e w' => e = .returned (.bool (gdT x)) ∧ Below W.heap.size W w'
theorem has39 (s : ByteArray) (w : World) : Calls Tryd.prog 34 #[.string s, .string ⟨#[39]⟩] w fun e w' => e = .returned (.bool (decide (0 ≤ Lib.indexByte s.data.toList 39))) ∧ w' = w := Any.strings_Contains_one laysContains s 39 w
theorem has34 (s : ByteArray) (w : World) : Calls Tryd.prog 34 #[.string s, .string ⟨#[34]⟩] w fun e w' => e = .returned (.bool (decide (0 ≤ Lib.indexByte s.data.toList 34))) ∧ w' = w := Any.strings_Contains_one laysContains s 34 w
theorem goodText_calls (s : ByteArray) (w : World) (hs : s.size ≤ 9223372036854775807) (hT : Laid w) : Calls Tryd.prog 30 #[.string s] w fun e w' => e = .returned (.bool (txB s)) ∧ Below w.heap.size w w' := by
  have hV := valid_calls s w hs hT
  have h9 := fun W => has39 s W
  have h4 := fun W => has34 s W
  unfold txB
  clear hT
  obtain ⟨v, hv⟩ : ∃ v, Lib.validD s.data.toList = v := ⟨_, rfl⟩
  obtain ⟨c, hc⟩ : ∃ c, decide (0 ≤ Lib.indexByte s.data.toList 39) = c := ⟨_, rfl⟩
  obtain ⟨d, hd⟩ : ∃ d, decide (0 ≤ Lib.indexByte s.data.toList 34) = d := ⟨_, rfl⟩
  rw [hv] at hV ⊢
  simp only [hc] at h9 ⊢
  simp only [hd] at h4 ⊢
  clear hv hc hd
  cases v
  · clear h9 h4
    go_enter Tryd.func30, Tryd.ntmps30
    go_wp2_with fail
    refine hV.mono ?_
    rintro e w1 ⟨rfl, b1⟩
    have HB1 := Lib.hid b1
    clear b1 hV
    go_wp2_with fail
    go_ret
    exact ⟨rfl, HB1.out⟩
  · cases c
    · clear h4
      go_enter Tryd.func30, Tryd.ntmps30
      go_wp2_with fail
      refine hV.mono ?_
      rintro e w1 ⟨rfl, b1⟩
      have HB1 := Lib.hid b1
      clear b1 hV
      go_wp2_with fail
      refine (h9 _).mono ?_
      rintro e w2 ⟨rfl, rfl⟩
      clear h9
      go_wp2_with fail
      go_ret
      exact ⟨rfl, HB1.out⟩
    · cases d
      all_goals
        go_enter Tryd.func30, Tryd.ntmps30
        go_wp2_with fail
        refine hV.mono ?_
        rintro e w1 ⟨rfl, b1⟩
        have HB1 := Lib.hid b1
        clear b1 hV
        go_wp2_with fail
        refine (h9 _).mono ?_
        rintro e w2 ⟨rfl, rfl⟩
        clear h9
        go_wp2_with fail
        refine (h4 _).mono ?_
        rintro e w3 ⟨rfl, rfl⟩
        clear h4
        go_wp2_with fail
        go_ret
        exact ⟨rfl, HB1.out⟩
theorem stepClo_calls (w : World) (op : Int) (args : List Ex) (sts : List St) (nm : ByteArray) (cmp : Int) (txt : ByteArray) (num : Int) (a1 : Option Addr) (n1 c1 : Nat) (a2 : Option Addr) (n2 c2 : Nat) (h : CEx (.mk op args sts nm cmp txt num)) (h1 : FitXS w args a1 n1 c1) (h2 : FitTS w sts a2 n2 c2) (hT : Laid w) :
    Calls Tryd.prog 24 #[.agg #[.int .i64 op, .slice a1 n1 c1, .slice a2 n2 c2, .string nm, .int .i64 cmp, .string txt, .int .i64 num]] w fun e w' => e = .returned (.bool (!gdX (.mk op args sts nm cmp txt num))) ∧ Below w.heap.size w w' := by
  have b0 : Below w.heap.size w (w.alloc (.cells #[.int .i64 op, .slice a1 n1 c1, .slice a2 n2 c2, .string nm, .int .i64 cmp, .string txt, .int .i64 num] 52)) := (Below.refl _ _).alloc (Nat.le_refl _) _
  have hN := h _ op args sts nm cmp txt num a1 n1 c1 a2 n2 c2 rfl (h1.below b0) (h2.below b0) (hT.below b0)
  obtain ⟨r, hr⟩ : ∃ r, gdX (.mk op args sts nm cmp txt num) = r := ⟨_, rfl⟩
  rw [hr] at hN ⊢
  have HB := Lib.hid b0
  clear hr b0 h h1 h2 hT
  go_enter Tryd.func24, Tryd.ntmps24
  go_wp2_with fail
  refine hN.mono ?_
  rintro e w1 ⟨rfl, b1⟩
  have HB1 := Lib.hid (HB.out.trans (b1.mono HB.out.size))
  clear hN b1
  go_wp2_with fail
  go_ret
  exact ⟨rfl, HB1.out⟩
set_option maxHeartbeats 2000000 in
theorem stepCloIdx_calls (xs : List Ex) (a : Option Addr) (n cap : Nat) (w : World) (hF : FitXS w xs a n cap) (hT : Laid w) (hE : ∀ x ∈ xs, CEx x) :
    Calls Tryd.prog 29 #[.slice a n cap, .func (.func 24) #[] #[]] w fun e w' => ∃ r : Int, e = .returned (.int .i64 r) ∧ decide (0 ≤ r) = (!gdXL xs) ∧ Below w.heap.size w w' := by
  have eg : ∀ args w, (callFunc 24 args).run Tryd.prog w = .ok (.enter 24 args) w := enters_of Tryd.func24 (by kernel_rfl) rfl
  have hcm := hF.cap_le
  have hle := hF.le
  have hnb : n ≤ 9223372036854775807 := by unfold maxLen at hcm; omega
  have HL := Lib.hid hF.len
  have HF := Lib.hid hF
  have HT := Lib.hid hT
  have HE := Lib.hid hE
  clear hF hT hE
  go_enter Tryd.func29, Tryd.ntmps29
  go_wp2_with fail
  go_loopw [8] (fun i wr => ∃ q : Nat, i = .int .i64 q ∧ q ≤ n ∧ Below w.heap.size w wr ∧ Hid (gdXL (xs.take q) = true)) (fun i _ => n - (RowKit.intOf i).toNat)
  case atStart => exact ⟨0, rfl, Nat.zero_le _, Below.refl _ _, Lib.hid (by simp [gdXL])⟩
  case round =>
    obtain ⟨q, rfl, hq, hb, HG⟩ := hrel
    by_cases hqn : q < n
    · have hqn' : (q : Int) < n := by omega
      obtain ⟨b, o, op, args, sts, nm, cmp, txt, num, a1, n1, c1, a2, n2, c2, rfl, hbb, hel, d0, d1, d2, d3, d4, d5, d6, hF1, hF2⟩ := (HF.out.below hb).elem q hqn
      have hC := stepClo_calls wr op args sts nm cmp txt num a1 n1 c1 a2 n2 c2 (HE.out _ (List.mem_of_getElem? hel)) hF1 hF2 (HT.out.below hb)
      obtain ⟨x, hx⟩ : ∃ x, Ex.mk op args sts nm cmp txt num = x := ⟨_, rfl⟩
      rw [hx] at hel hC
      have HB := Lib.hid hb
      have HEL := Lib.hid hel
      clear hb hel hx hF1 hF2
      cases hg : gdX x
      · have HBAD := Lib.hid (gdXL_bad HEL.out hg)
        rw [hg] at hC
        have HR := Lib.hid (show decide (0 ≤ (q : Int)) = true by simp)
        clear hg HG
        go_wp2_with fail
        refine hC.mono ?_
        rintro e w1 ⟨rfl, b1⟩
        have HB1 := Lib.hid (HB.out.trans (b1.mono HB.out.size))
        clear hC b1 d0 d1 d2 d3 d4 d5 d6
        go_wp2_with fail
        go_ret
        exact ⟨q, rfl, by rw [HBAD.out, HR.out]; rfl, HB1.out⟩
      · have HN := Lib.hid (show gdXL (xs.take (q + 1)) = true by rw [takeL_next HEL.out, gdXL_app, HG.out]; simp [gdXL, hg])
        rw [hg] at hC
        clear hg HG
        go_wp2_with fail
        refine hC.mono ?_
        rintro e w1 ⟨rfl, b1⟩
        have HB1 := Lib.hid (HB.out.trans (b1.mono HB.out.size))
        clear hC b1 d0 d1 d2 d3 d4 d5 d6
        go_wp2_with fail
        go_roundw
        case rel => exact ⟨q + 1, by go_num, by omega, HB1.out, HN⟩
        case measure => simp [RowKit.intOf]; omega
    · obtain rfl : q = n := by omega
      have HALL := Lib.hid (show gdXL xs = true by
        have h := HG.out
        rw [List.take_of_length_le (by rw [HL.out]; exact Nat.le_refl _)] at h
        exact h)
      clear HG
      go_wp2_with fail
      go_ret
      exact ⟨-1, rfl, by rw [HALL.out]; rfl, hb⟩
theorem stepCloCon_calls (xs : List Ex) (a : Option Addr) (n cap : Nat) (w : World) (hF : FitXS w xs a n cap) (hT : Laid w) (hE : ∀ x ∈ xs, CEx x) :
    Calls Tryd.prog 23 #[.slice a n cap, .func (.func 24) #[] #[]] w fun e w' => e = .returned (.bool (!gdXL xs)) ∧ Below w.heap.size w w' := by
  have hC := stepCloIdx_calls xs a n cap w hF hT hE
  obtain ⟨g, hg⟩ : ∃ g, gdXL xs = g := ⟨_, rfl⟩
  rw [hg] at hC ⊢
  clear hg hF hT hE
  go_enter Tryd.func23, Tryd.ntmps23
  go_wp2_with fail
  refine hC.mono ?_
  rintro e w1 ⟨r, rfl, hr, b1⟩
  have HR := Lib.hid hr
  have HB1 := Lib.hid b1
  clear hC hr b1
  go_wp2_with fail
  go_ret
  exact ⟨by rw [← HR.out]; rfl, HB1.out⟩
theorem exprClo_calls (w : World) (op : Int) (args : List Ex) (sts : List St) (nm : ByteArray) (cmp : Int) (txt : ByteArray) (num : Int) (a1 : Option Addr) (n1 c1 : Nat) (a2 : Option Addr) (n2 c2 : Nat) (h : CEx (.mk op args sts nm cmp txt num)) (h1 : FitXS w args a1 n1 c1) (h2 : FitTS w sts a2 n2 c2) (hT : Laid w) :
    Calls Tryd.prog 31 #[.agg #[.int .i64 op, .slice a1 n1 c1, .slice a2 n2 c2, .string nm, .int .i64 cmp, .string txt, .int .i64 num]] w fun e w' => e = .returned (.bool (!gdX (.mk op args sts nm cmp txt num))) ∧ Below w.heap.size w w' := by
  have b0 : Below w.heap.size w (w.alloc (.cells #[.int .i64 op, .slice a1 n1 c1, .slice a2 n2 c2, .string nm, .int .i64 cmp, .string txt, .int .i64 num] 52)) := (Below.refl _ _).alloc (Nat.le_refl _) _
  have hN := h _ op args sts nm cmp txt num a1 n1 c1 a2 n2 c2 rfl (h1.below b0) (h2.below b0) (hT.below b0)
  obtain ⟨r, hr⟩ : ∃ r, gdX (.mk op args sts nm cmp txt num) = r := ⟨_, rfl⟩
  rw [hr] at hN ⊢
  have HB := Lib.hid b0
  clear hr b0 h h1 h2 hT
  go_enter Tryd.func31, Tryd.ntmps31
  go_wp2_with fail
  refine hN.mono ?_
  rintro e w1 ⟨rfl, b1⟩
  have HB1 := Lib.hid (HB.out.trans (b1.mono HB.out.size))
  clear hN b1
  go_wp2_with fail
  go_ret
  exact ⟨rfl, HB1.out⟩
set_option maxHeartbeats 2000000 in
theorem exprCloIdx_calls (xs : List Ex) (a : Option Addr) (n cap : Nat) (w : World) (hF : FitXS w xs a n cap) (hT : Laid w) (hE : ∀ x ∈ xs, CEx x) :
    Calls Tryd.prog 29 #[.slice a n cap, .func (.func 31) #[] #[]] w fun e w' => ∃ r : Int, e = .returned (.int .i64 r) ∧ decide (0 ≤ r) = (!gdXL xs) ∧ Below w.heap.size w w' := by
  have eg : ∀ args w, (callFunc 31 args).run Tryd.prog w = .ok (.enter 31 args) w := enters_of Tryd.func31 (by kernel_rfl) rfl
  have hcm := hF.cap_le
  have hle := hF.le
  have hnb : n ≤ 9223372036854775807 := by unfold maxLen at hcm; omega
  have HL := Lib.hid hF.len
  have HF := Lib.hid hF
  have HT := Lib.hid hT
  have HE := Lib.hid hE
  clear hF hT hE
  go_enter Tryd.func29, Tryd.ntmps29
  go_wp2_with fail
  go_loopw [8] (fun i wr => ∃ q : Nat, i = .int .i64 q ∧ q ≤ n ∧ Below w.heap.size w wr ∧ Hid (gdXL (xs.take q) = true)) (fun i _ => n - (RowKit.intOf i).toNat)
  case atStart => exact ⟨0, rfl, Nat.zero_le _, Below.refl _ _, Lib.hid (by simp [gdXL])⟩
  case round =>
    obtain ⟨q, rfl, hq, hb, HG⟩ := hrel
    by_cases hqn : q < n
    · have hqn' : (q : Int) < n := by omega
      obtain ⟨b, o, op, args, sts, nm, cmp, txt, num, a1, n1, c1, a2, n2, c2, rfl, hbb, hel, d0, d1, d2, d3, d4, d5, d6, hF1, hF2⟩ := (HF.out.below hb).elem q hqn
      have hC := exprClo_calls wr op args sts nm cmp txt num a1 n1 c1 a2 n2 c2 (HE.out _ (List.mem_of_getElem? hel)) hF1 hF2 (HT.out.below hb)
      obtain ⟨x, hx⟩ : ∃ x, Ex.mk op args sts nm cmp txt num = x := ⟨_, rfl⟩
      rw [hx] at hel hC
      have HB := Lib.hid hb
      have HEL := Lib.hid hel
      clear hb hel hx hF1 hF2
      cases hg : gdX x
      · have HBAD := Lib.hid (gdXL_bad HEL.out hg)
        rw [hg] at hC
        have HR := Lib.hid (show decide (0 ≤ (q : Int)) = true by simp)
        clear hg HG
        go_wp2_with fail
        refine hC.mono ?_
        rintro e w1 ⟨rfl, b1⟩
        have HB1 := Lib.hid (HB.out.trans (b1.mono HB.out.size))
        clear hC b1 d0 d1 d2 d3 d4 d5 d6
        go_wp2_with fail
        go_ret
        exact ⟨q, rfl, by rw [HBAD.out, HR.out]; rfl, HB1.out⟩
      · have HN := Lib.hid (show gdXL (xs.take (q + 1)) = true by rw [takeL_next HEL.out, gdXL_app, HG.out]; simp [gdXL, hg])
        rw [hg] at hC
        clear hg HG
        go_wp2_with fail
        refine hC.mono ?_
        rintro e w1 ⟨rfl, b1⟩
        have HB1 := Lib.hid (HB.out.trans (b1.mono HB.out.size))
        clear hC b1 d0 d1 d2 d3 d4 d5 d6
        go_wp2_with fail
        go_roundw
        case rel => exact ⟨q + 1, by go_num, by omega, HB1.out, HN⟩
        case measure => simp [RowKit.intOf]; omega
    · obtain rfl : q = n := by omega
      have HALL := Lib.hid (show gdXL xs = true by
        have h := HG.out
        rw [List.take_of_length_le (by rw [HL.out]; exact Nat.le_refl _)] at h
        exact h)
      clear HG
      go_wp2_with fail
      go_ret
      exact ⟨-1, rfl, by rw [HALL.out]; rfl, hb⟩
theorem exprCloCon_calls (xs : List Ex) (a : Option Addr) (n cap : Nat) (w : World) (hF : FitXS w xs a n cap) (hT : Laid w) (hE : ∀ x ∈ xs, CEx x) :
    Calls Tryd.prog 23 #[.slice a n cap, .func (.func 31) #[] #[]] w fun e w' => e = .returned (.bool (!gdXL xs)) ∧ Below w.heap.size w w' := by
  have hC := exprCloIdx_calls xs a n cap w hF hT hE
  obtain ⟨g, hg⟩ : ∃ g, gdXL xs = g := ⟨_, rfl⟩
  rw [hg] at hC ⊢
  clear hg hF hT hE
  go_enter Tryd.func23, Tryd.ntmps23
  go_wp2_with fail
  refine hC.mono ?_
  rintro e w1 ⟨r, rfl, hr, b1⟩
  have HR := Lib.hid hr
  have HB1 := Lib.hid b1
  clear hC hr b1
  go_wp2_with fail
  go_ret
  exact ⟨by rw [← HR.out]; rfl, HB1.out⟩
theorem pathClo_calls (w : World) (ax ts : Int) (nm : ByteArray) (wh : List Ex) (a1 : Option Addr) (n1 c1 : Nat) (h : CSt (.mk ax ts nm wh)) (h1 : FitXS w wh a1 n1 c1) (hT : Laid w) :
    Calls Tryd.prog 18 #[.agg #[.int .i64 ax, .int .i64 ts, .string nm, .slice a1 n1 c1]] w fun e w' => e = .returned (.bool (!gdT (.mk ax ts nm wh))) ∧ Below w.heap.size w w' := by
  have b0 : Below w.heap.size w (w.alloc (.cells #[.int .i64 ax, .int .i64 ts, .string nm, .slice a1 n1 c1] 37)) := (Below.refl _ _).alloc (Nat.le_refl _) _
  have hN := h _ ax ts nm wh a1 n1 c1 rfl (h1.below b0) (hT.below b0)
  obtain ⟨r, hr⟩ : ∃ r, gdT (.mk ax ts nm wh) = r := ⟨_, rfl⟩
  rw [hr] at hN ⊢
  have HB := Lib.hid b0
  clear hr b0 h h1 hT
  go_enter Tryd.func18, Tryd.ntmps18
  go_wp2_with fail
  refine hN.mono ?_
  rintro e w1 ⟨rfl, b1⟩
  have HB1 := Lib.hid (HB.out.trans (b1.mono HB.out.size))
  clear hN b1
  go_wp2_with fail
  go_ret
  exact ⟨rfl, HB1.out⟩
set_option maxHeartbeats 2000000 in
theorem pathCloIdx_calls (xs : List St) (a : Option Addr) (n cap : Nat) (w : World) (hF : FitTS w xs a n cap) (hT : Laid w) (hE : ∀ x ∈ xs, CSt x) :
    Calls Tryd.prog 21 #[.slice a n cap, .func (.func 18) #[] #[]] w fun e w' => ∃ r : Int, e = .returned (.int .i64 r) ∧ decide (0 ≤ r) = (!gdTL xs) ∧ Below w.heap.size w w' := by
  have eg : ∀ args w, (callFunc 18 args).run Tryd.prog w = .ok (.enter 18 args) w := enters_of Tryd.func18 (by kernel_rfl) rfl
  have hcm := hF.cap_le
  have hle := hF.le
  have hnb : n ≤ 9223372036854775807 := by unfold maxLen at hcm; omega
  have HL := Lib.hid hF.len
  have HF := Lib.hid hF
  have HT := Lib.hid hT
  have HE := Lib.hid hE
  clear hF hT hE
  go_enter Tryd.func21, Tryd.ntmps21
  go_wp2_with fail
  go_loopw [8] (fun i wr => ∃ q : Nat, i = .int .i64 q ∧ q ≤ n ∧ Below w.heap.size w wr ∧ Hid (gdTL (xs.take q) = true)) (fun i _ => n - (RowKit.intOf i).toNat)
  case atStart => exact ⟨0, rfl, Nat.zero_le _, Below.refl _ _, Lib.hid (by simp [gdTL])⟩
  case round =>
    obtain ⟨q, rfl, hq, hb, HG⟩ := hrel
    by_cases hqn : q < n
    · have hqn' : (q : Int) < n := by omega
      obtain ⟨b, o, ax, ts, nm, wh, a1, n1, c1, rfl, hbb, hel, d0, d1, d2, d3, hF1⟩ := (HF.out.below hb).elem q hqn
      have hC := pathClo_calls wr ax ts nm wh a1 n1 c1 (HE.out _ (List.mem_of_getElem? hel)) hF1 (HT.out.below hb)
      obtain ⟨x, hx⟩ : ∃ x, St.mk ax ts nm wh = x := ⟨_, rfl⟩
      rw [hx] at hel hC
      have HB := Lib.hid hb
      have HEL := Lib.hid hel
      clear hb hel hx hF1
      cases hg : gdT x
      · have HBAD := Lib.hid (gdTL_bad HEL.out hg)
        rw [hg] at hC
        have HR := Lib.hid (show decide (0 ≤ (q : Int)) = true by simp)
        clear hg HG
        go_wp2_with fail
        refine hC.mono ?_
        rintro e w1 ⟨rfl, b1⟩
        have HB1 := Lib.hid (HB.out.trans (b1.mono HB.out.size))
        clear hC b1 d0 d1 d2 d3
        go_wp2_with fail
        go_ret
        exact ⟨q, rfl, by rw [HBAD.out, HR.out]; rfl, HB1.out⟩
      · have HN := Lib.hid (show gdTL (xs.take (q + 1)) = true by rw [takeL_next HEL.out, gdTL_app, HG.out]; simp [gdTL, hg])
        rw [hg] at hC
        clear hg HG
        go_wp2_with fail
        refine hC.mono ?_
        rintro e w1 ⟨rfl, b1⟩
        have HB1 := Lib.hid (HB.out.trans (b1.mono HB.out.size))
        clear hC b1 d0 d1 d2 d3
        go_wp2_with fail
        go_roundw
        case rel => exact ⟨q + 1, by go_num, by omega, HB1.out, HN⟩
        case measure => simp [RowKit.intOf]; omega
    · obtain rfl : q = n := by omega
      have HALL := Lib.hid (show gdTL xs = true by
        have h := HG.out
        rw [List.take_of_length_le (by rw [HL.out]; exact Nat.le_refl _)] at h
        exact h)
      clear HG
      go_wp2_with fail
      go_ret
      exact ⟨-1, rfl, by rw [HALL.out]; rfl, hb⟩
theorem pathCloCon_calls (xs : List St) (a : Option Addr) (n cap : Nat) (w : World) (hF : FitTS w xs a n cap) (hT : Laid w) (hE : ∀ x ∈ xs, CSt x) :
    Calls Tryd.prog 17 #[.slice a n cap, .func (.func 18) #[] #[]] w fun e w' => e = .returned (.bool (!gdTL xs)) ∧ Below w.heap.size w w' := by
  have hC := pathCloIdx_calls xs a n cap w hF hT hE
  obtain ⟨g, hg⟩ : ∃ g, gdTL xs = g := ⟨_, rfl⟩
  rw [hg] at hC ⊢
  clear hg hF hT hE
  go_enter Tryd.func17, Tryd.ntmps17
  go_wp2_with fail
  refine hC.mono ?_
  rintro e w1 ⟨r, rfl, hr, b1⟩
  have HR := Lib.hid hr
  have HB1 := Lib.hid b1
  clear hC hr b1
  go_wp2_with fail
  go_ret
  exact ⟨by rw [← HR.out]; rfl, HB1.out⟩
set_option maxHeartbeats 4000000 in
theorem goodStep_calls (ax ts : Int) (nm : ByteArray) (wh : List Ex) (hw : nm.size ≤ 9223372036854775807) (hE : ∀ x ∈ wh, CEx x) : CSt (.mk ax ts nm wh) := by
  intro w ax' ts' nm' wh' a n cap he hF hT
  obtain ⟨rfl, rfl, rfl, rfl⟩ := St.mk.inj he
  clear he
  have b0 : Below w.heap.size w (w.alloc (.cells #[.int .i64 ax, .int .i64 ts, .string nm, .slice a n cap] 37)) := (Below.refl _ _).alloc (Nat.le_refl _) _
  have x0 := heap_alloc_new w (.cells #[.int .i64 ax, .int .i64 ts, .string nm, .slice a n cap] 37)
  have hN := name_calls nm _ hw (hT.below b0)
  have hC := fun W (hb : Below w.heap.size w W) => stepCloCon_calls wh a n cap W (hF.below hb) (hT.below hb) hE
  have HB := Lib.hid b0
  have HX := Lib.hid x0
  have HC := Lib.hid hC
  have hg : gdT (.mk ax ts nm wh) = (decide (0 ≤ ax ∧ ax ≤ 3 ∧ 0 ≤ ts ∧ ts ≤ 3) && ((if ts = 0 then nameB nm else emB nm) && gdXL wh)) := by unfold gdT; rfl
  obtain ⟨g, hgg⟩ : ∃ g, gdXL wh = g := ⟨_, rfl⟩
  obtain ⟨v, hvv⟩ : ∃ v, nameB nm = v := ⟨_, rfl⟩
  rw [hgg] at hC hg HC
  rw [hvv] at hN hg
  rw [hg]
  clear hg hgg hvv hF hT hE b0 x0 hC
  by_cases h1 : ax < 0
  · have HH := Lib.hid (show decide (0 ≤ ax ∧ ax ≤ 3 ∧ 0 ≤ ts ∧ ts ≤ 3) = false by simp; omega)
    rw [HH.out, Bool.false_and]
    clear hN HC
    go_enter Tryd.func19, Tryd.ntmps19
    go_wp2_with fail
    go_ret
    exact ⟨rfl, HB.out⟩
  by_cases h2 : 3 < ax
  · have HH := Lib.hid (show decide (0 ≤ ax ∧ ax ≤ 3 ∧ 0 ≤ ts ∧ ts ≤ 3) = false by simp; omega)
    rw [HH.out, Bool.false_and]
    clear hN HC
    go_enter Tryd.func19, Tryd.ntmps19
    go_wp2_with fail
    go_ret
    exact ⟨rfl, HB.out⟩
  by_cases h3 : ts < 0
  · have HH := Lib.hid (show decide (0 ≤ ax ∧ ax ≤ 3 ∧ 0 ≤ ts ∧ ts ≤ 3) = false by simp; omega)
    rw [HH.out, Bool.false_and]
    clear hN HC
    go_enter Tryd.func19, Tryd.ntmps19
    go_wp2_with fail
    go_ret
    exact ⟨rfl, HB.out⟩
  by_cases h4 : 3 < ts
  · have HH := Lib.hid (show decide (0 ≤ ax ∧ ax ≤ 3 ∧ 0 ≤ ts ∧ ts ≤ 3) = false by simp; omega)
    rw [HH.out, Bool.false_and]
    clear hN HC
    go_enter Tryd.func19, Tryd.ntmps19
    go_wp2_with fail
    go_ret
    exact ⟨rfl, HB.out⟩
  have HH := Lib.hid (show decide (0 ≤ ax ∧ ax ≤ 3 ∧ 0 ≤ ts ∧ ts ≤ 3) = true by simp; omega)
  rw [HH.out, Bool.true_and]
  clear HH
  by_cases h5 : ts = 0
  · rw [if_pos h5]
    subst h5
    clear h3 h4
    cases v
    · go_enter Tryd.func19, Tryd.ntmps19
      go_wp2_with fail
      refine hN.mono ?_
      rintro e w1 ⟨rfl, b1⟩
      have hx := (b1.block _ (Array.getElem?_eq_some_iff.1 HX.out).1).trans HX.out
      have k0 : w1.cell? ⟨w.heap.size, 0, none⟩ = some (.int .i64 ax) := by simp [World.cell?, hx]
      have k1 : w1.cell? ⟨w.heap.size, 1, none⟩ = some (.int .i64 0) := by simp [World.cell?, hx]
      have k2 : w1.cell? ⟨w.heap.size, 2, none⟩ = some (.string nm) := by simp [World.cell?, hx]
      have k3 : w1.cell? ⟨w.heap.size, 3, none⟩ = some (.slice a n cap) := by simp [World.cell?, hx]
      clear hx
      have HB1 := Lib.hid (HB.out.trans (b1.mono HB.out.size))
      clear hN b1
      clear HC
      go_wp2_with fail
      go_ret
      exact ⟨rfl, HB1.out⟩
    · go_enter Tryd.func19, Tryd.ntmps19
      go_wp2_with fail
      refine hN.mono ?_
      rintro e w1 ⟨rfl, b1⟩
      have hx := (b1.block _ (Array.getElem?_eq_some_iff.1 HX.out).1).trans HX.out
      have k0 : w1.cell? ⟨w.heap.size, 0, none⟩ = some (.int .i64 ax) := by simp [World.cell?, hx]
      have k1 : w1.cell? ⟨w.heap.size, 1, none⟩ = some (.int .i64 0) := by simp [World.cell?, hx]
      have k2 : w1.cell? ⟨w.heap.size, 2, none⟩ = some (.string nm) := by simp [World.cell?, hx]
      have k3 : w1.cell? ⟨w.heap.size, 3, none⟩ = some (.slice a n cap) := by simp [World.cell?, hx]
      clear hx
      have HB1 := Lib.hid (HB.out.trans (b1.mono HB.out.size))
      clear hN b1
      have hC := HC.out w1 HB1.out
      go_wp2_with fail
      refine hC.mono ?_
      rintro e w2 ⟨rfl, b2⟩
      have HB2 := Lib.hid (HB1.out.trans (b2.mono HB1.out.size))
      clear hC b2 k0 k1 k2 k3
      go_wp2_with fail
      go_ret
      exact ⟨by simp, HB2.out⟩
  · rw [if_neg h5]
    have e5 : (ts == 0) = false := beq_eq_false_iff_ne.2 h5
    have e6 : (ts != 0) = true := by simp [h5]
    clear hN
    unfold emB
    cases h6 : nm.toList.isEmpty
    · clear HC
      go_enter Tryd.func19, Tryd.ntmps19
      go_wp2_with fail
      go_ret
      exact ⟨rfl, HB.out⟩
    · have hC := HC.out _ HB.out
      go_enter Tryd.func19, Tryd.ntmps19
      go_wp2_with fail
      refine hC.mono ?_
      rintro e w2 ⟨rfl, b2⟩
      have HB2 := Lib.hid (HB.out.trans (b2.mono HB.out.size))
      clear hC b2
      go_wp2_with fail
      go_ret
      exact ⟨by simp, HB2.out⟩
theorem goodPath_calls (sts : List St) (a : Option Addr) (n cap : Nat) (w : World) (hF : FitTS w sts a n cap) (hT : Laid w) (hE : ∀ x ∈ sts, CSt x) :
    Calls Tryd.prog 14 #[.agg #[.slice a n cap]] w fun e w' => e = .returned (.bool (gdP sts)) ∧ Below w.heap.size w w' := by
  have b0 : Below w.heap.size w (w.alloc (.cells #[.slice a n cap] 24)) := (Below.refl _ _).alloc (Nat.le_refl _) _
  have hC := pathCloCon_calls sts a n cap _ (hF.below b0) (hT.below b0) hE
  have hg : gdP sts = (decide (0 < n) && gdTL sts) := by unfold gdP; rw [hF.len]
  have hcm := hF.cap_le
  have hle := hF.le
  have hnb : n ≤ 9223372036854775807 := by unfold maxLen at hcm; omega
  obtain ⟨g, hgg⟩ : ∃ g, gdTL sts = g := ⟨_, rfl⟩
  rw [hgg] at hC hg
  rw [hg]
  have HB := Lib.hid b0
  clear hg hgg hF hT hE b0
  by_cases h0 : n = 0
  · subst h0
    clear hC
    go_enter Tryd.func14, Tryd.ntmps14
    go_wp2_with fail
    go_ret
    exact ⟨rfl, HB.out⟩
  · have hp : 0 < (n : Int) := by omega
    have HP := Lib.hid (show decide (0 < n) = true by simp; omega)
    go_enter Tryd.func14, Tryd.ntmps14
    go_wp2_with fail
    refine hC.mono ?_
    rintro e w1 ⟨rfl, b1⟩
    have HB1 := Lib.hid (HB.out.trans (b1.mono HB.out.size))
    clear hC b1
    go_wp2_with fail
    go_ret
    exact ⟨by rw [HP.out]; simp, HB1.out⟩
end Go.Proofs.YtghepjbfhjkinaaDoor
