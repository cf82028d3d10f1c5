/- The walk of gimlettop.WholeRunes. -/
import Derived.Test.YtbbfifaojepjiaaDoorGoodWalk
import Derived.Test.YtbbfifaojepjiaaDoorAllWalk
import Derived.Test.YtbbfifaojepjiaaDoorPutWalk
import Derived.Test.YtbbfifaojepjiaaDoorConvR
import Derived.Test.YtbbfifaojepjiaaDoorRunesOrderWalk
import Derived.Test.YtbbfifaojepjiaaDoorAwakeA
import Derived.Test.YtbbfifaojepjiaaDoorStepApp
import Derived.Deep.RegionWith
import Derived.Deep.RegionHeld3
import Derived.Deep.RegionHeld
import Derived.Deep.CutRange
import Derived.Deep.CutBlock
import Derived.Test.YtbbfifaojepjiaaDoorTakesLaw
namespace Gim
open Go Go.RowKit
/-- what is asked of each way out but a panic, and of a panic nothing can be -/
def NoP (Q : Exit → Act → World → Prop) : Exit → Act → World → Prop
  | .panic _, _, _ => False
  | e, a, w => Q e a w
theorem NoP.imp {Q : Exit → Act → World → Prop} : ∀ e a w, NoP Q e a w → Q e a w := by
  intro e a w h
  cases e <;> first | exact h | exact h.elim
theorem good_w : goodB [233, 128, 97] = 2 := by decide +kernel
theorem put_w : strOfNums (Lib.encodeRuneZ 233) = ⟨#[195, 169]⟩ := by decide +kernel
theorem prF_lt (s : ByteArray) : ∀ (f p : Nat), ∀ y ∈ prF s f p, y.1 < s.size
  | 0, _, y, h => by simp [prF] at h
  | f + 1, p, y, h => by
    rw [prF] at h
    split at h
    · rename_i hp
      rcases List.mem_cons.1 h with rfl | h
      · exact hp
      · exact prF_lt s f _ y h
    · simp at h
theorem prAt_lt {s : ByteArray} {p : Nat} {y : Nat × Int} (h : y ∈ prAt s p) : y.1 < s.size := prF_lt s _ p y h
theorem prefix_snoc {α : Type} {pre L : List α} {x : α} (h : pre <+: L) : pre ++ [x] <+: L ↔ L[pre.length]? = some x := by
  obtain ⟨t, rfl⟩ := h
  rw [List.prefix_append_right_inj]
  simp only [List.getElem?_append_right (Nat.le_refl _), Nat.sub_self]
  cases t with
  | nil => simp
  | cons a t => simp [List.cons_prefix_cons, eq_comm]
theorem rs_prAt (s : ByteArray) : ∀ (f p : Nat), s.size ≤ p + f → rsAt s p = (prAt s p).map fun x => x.2
  | 0, p, h => by rw [rsAt_end (by omega), prAt_end (by omega)]; rfl
  | f + 1, p, h => by
    by_cases hp : p < s.size
    · have hw := Lib.decode_width_pos s p hp
      rw [rsAt_next hp, prAt_next hp, rs_prAt s f _ (by omega)]
      rfl
    · rw [rsAt_end hp, prAt_end hp]; rfl
/-- '[]rune(s)' as it lies in new memory -/
theorem rd_runes (w : World) (s : ByteArray) (e : TypeId) (hs : s.size ≤ 9223372036854775807) : Rd ((w.alloc (.cells (Conv.runesFrom s s.size 0 #[] ++ Array.replicate (grownCap w (Conv.runesFrom s s.size 0 #[]).size 0 e - (Conv.runesFrom s s.size 0 #[]).size) (.int .i32 0)) e)).drew) .i32 (some ⟨w.heap.size, 0, none⟩) (Conv.runesFrom s s.size 0 #[]).size (grownCap w (Conv.runesFrom s s.size 0 #[]).size 0 e) (rs s) := by
  have hl := rs_length s
  have hsize : (Conv.runesFrom s s.size 0 #[]).size = (rs s).length := by rw [convRunes_eq]; simp
  refine ⟨hsize.symm, grownCap_ge _ _ _ _, grownCap_le_maxLen _ _ _ _ (by rw [hsize]; unfold maxLen; omega), fun j hj => ⟨_, 0, rfl, by simp, fun i hi => ?_⟩⟩
  have hh := heap_alloc_new w (.cells (Conv.runesFrom s s.size 0 #[] ++ Array.replicate (grownCap w (Conv.runesFrom s s.size 0 #[]).size 0 e - (Conv.runesFrom s s.size 0 #[]).size) (.int .i32 0)) e)
  have hh2 : (w.alloc (.cells (Conv.runesFrom s s.size 0 #[] ++ Array.replicate (grownCap w (Conv.runesFrom s s.size 0 #[]).size 0 e - (Conv.runesFrom s s.size 0 #[]).size) (.int .i32 0)) e)).drew.heap[w.heap.size]? = _ := hh
  simp only [World.cell?, hh2, Nat.zero_add]
  rw [hsize] at hi
  rw [Array.getElem?_append_left (by rw [hsize]; exact hi), convRunes_eq]
  simp [hi, gt]
theorem Rd.heap {w w' : World} {k : IntKind} {ao : Option Addr} {n cap : Nat} {xs : List Int} (h : Rd w k ao n cap xs) (hh : w'.heap = w.heap) : Rd w' k ao n cap xs :=
  ⟨h.len, h.le, h.cap_le, fun j hj => by
    obtain ⟨b, o, h1, h2, h3⟩ := h.cell j hj
    refine ⟨b, o, h1, by rw [hh]; exact h2, fun i hi => ?_⟩
    have := h3 i hi
    unfold World.cell? at this ⊢
    rw [hh]
    exact this⟩
theorem dec_bz (s : ByteArray) {p : Nat} (hp : p < s.size) : decB ((bz s.data.toList).drop p) = Utf8.decode s p := by
  have hz : s.data.toList.length = s.size := rfl
  rw [show (bz s.data.toList).drop p = bz (s.data.toList.drop p) from (List.map_drop).symm, decB_bz (by intro h; have := congrArg List.length h; simp at this; omega), Lib.decodeL_drop]
/-- one character after the other: where it lies, where the next one lies -/
theorem prAt_at (s : ByteArray) : ∀ (f p i : Nat) (y : Nat × Int), s.size ≤ p + f → (prAt s p)[i]? = some y →
    y.1 < s.size ∧ y.2 = ((decB ((bz s.data.toList).drop y.1)).1 : Int) ∧ (((prAt s p)[i + 1]?).map (·.1)).getD s.size = y.1 + (decB ((bz s.data.toList).drop y.1)).2
  | 0, p, i, y, h, hy => by rw [prAt_end (by omega)] at hy; simp at hy
  | f + 1, p, i, y, h, hy => by
    by_cases hp : p < s.size
    · have hw := Lib.decode_width_pos s p hp
      rw [prAt_next hp] at hy ⊢
      cases i with
      | zero =>
        simp only [List.getElem?_cons_zero, Option.some.injEq] at hy
        subst hy
        refine ⟨hp, by rw [dec_bz s hp], ?_⟩
        rw [List.getElem?_cons_succ]
        simp only [dec_bz s hp]
        by_cases hq : p + (Utf8.decode s p).2 < s.size
        · rw [prAt_next hq]; simp
        · rw [prAt_end hq]
          have hle := decB_le (xs := (bz s.data.toList).drop p) (by rw [List.length_drop, bz_length]; have hz : s.data.toList.length = s.size := rfl; omega)
          rw [dec_bz s hp, List.length_drop, bz_length] at hle
          have hz : s.data.toList.length = s.size := rfl
          simp
          omega
      | succ i =>
        rw [List.getElem?_cons_succ] at hy
        rw [List.getElem?_cons_succ]
        exact prAt_at s f _ i y (by omega) hy
    · rw [prAt_end hp] at hy; simp at hy
/-- what Next answers at a character's place -/
theorem next_law (s : ByteArray) (i : Nat) (y : Nat × Int) (h : (prAt s 0)[i]? = some y) : ∃ wd : Nat, 1 ≤ wd ∧ y.1 < s.size ∧ y.1 + wd ≤ s.size ∧ (((prAt s 0)[i + 1]?).map (·.1)).getD s.size = y.1 + wd ∧
    (nextB (bz s.data.toList) y.1 = (y.2, (wd : Int), 0, 0) ∨ (y.2 = 65533 ∧ wd = 1 ∧ (nextB (bz s.data.toList) y.1 = (65533, 1, 2, 0) ∨ nextB (bz s.data.toList) y.1 = (0, (s.size : Int) - y.1, 1, 0)))) := by
  obtain ⟨h1, h2, h3⟩ := prAt_at s s.size 0 i y (by omega) h
  have hz : (bz s.data.toList).length = s.size := by rw [bz_length]; rfl
  have hl : 1 ≤ ((bz s.data.toList).drop y.1).length := by rw [List.length_drop]; omega
  have hb : ∀ x ∈ (bz s.data.toList).drop y.1, 0 ≤ x ∧ x ≤ 255 := fun x hx => bz_byte (List.mem_of_mem_drop hx)
  have hw := decB_width (xs := (bz s.data.toList).drop y.1) (by omega)
  have hle := decB_le (xs := (bz s.data.toList).drop y.1) (by omega)
  rw [List.length_drop, hz] at hle
  refine ⟨_, hw, h1, by omega, h3, ?_⟩
  unfold nextB
  rw [if_neg (by rw [hz]; omega), if_neg (by rw [hz]; omega), Int.toNat_natCast, hz]
  rcases alike hl (fun j => by
      unfold bn gt
      by_cases hj : j < ((bz s.data.toList).drop y.1).length
      · have := hb _ (List.getElem_mem hj)
        simp only [List.getElem?_eq_getElem hj, Option.getD_some]
        omega
      · rw [List.getElem?_eq_none (by omega)]; decide) with ⟨m, hF, m1, m4, hml, hf, hd, hv, hok⟩ | ⟨m, hF, hlt, hf, hd⟩ | ⟨k, m, hF, hk, hf, hd⟩
  · left
    rw [hf, if_neg (by decide), if_neg (by rw [hd]; exact fun q => hok ⟨q.1, by omega⟩), h2]
  · right
    rw [hf, if_pos rfl, h2, hd]
    exact ⟨rfl, rfl, .inr rfl⟩
  · right
    rw [hf, if_neg (by decide), h2, hd]
    exact ⟨rfl, rfl, .inl rfl⟩
/-- the ways through a statement that writes the slots 36 to 43 meet -/
theorem wp_meet8 {P : Program} {c : Code} {Q : Exit → Act → World → Prop} {a : Act} {w : World} (S : World → Prop)
    (h1 : c.wp P (fun e a' w' => match e with
      | .normal => (∃ v1 v2 v3 v4 v5 v6 v7 v8, a' = (((((((a.put (some 36) v1).put (some 37) v2).put (some 38) v3).put (some 39) v4).put (some 40) v5).put (some 41) v6).put (some 42) v7).put (some 43) v8) ∧ S w'
      | _ => False) a w)
    (h2 : ∀ v1 v2 v3 v4 v5 v6 v7 v8 w', S w' → Q .normal ((((((((a.put (some 36) v1).put (some 37) v2).put (some 38) v3).put (some 39) v4).put (some 40) v5).put (some 41) v6).put (some 42) v7).put (some 43) v8) w') : c.wp P Q a w := by
  refine Code.wp_mono ?_ h1
  intro e a' w' h
  cases e <;> first | exact h.elim | skip
  obtain ⟨⟨v1, v2, v3, v4, v5, v6, v7, v8, rfl⟩, hS⟩ := h
  exact h2 _ _ _ _ _ _ _ _ _ hS
end Gim
namespace Go.Proofs.YtbbfifaojepjiaaDoor
open Go.RowKit Go.Shelf Gim
attribute [local go_sem] Oper.semAt_some
theorem info_int : (Tryd.prog.info? 3).map (fun i => (i.zero, i.size, i.bytes)) = some (some (.int .i64 0), 1, 8) := by kernel_rfl
/-- the places and the characters collected so far -/
structure Two (w : World) (B PB LB : Nat) (vp vl : Value) (ps : List (Nat × Int)) : Prop where
  cp : w.heap[PB]? = some (.cells #[vp] 35)
  cl : w.heap[LB]? = some (.cells #[vl] 36)
  rp : Row w B 3 .i64 vp (ps.map fun x => (x.1 : Int))
  rl : Row w B 21 .i32 vl (ps.map fun x => x.2)
theorem Two.below {w w' : World} {B PB LB : Nat} {vp vl : Value} {ps : List (Nat × Int)} (h : Two w B PB LB vp vl ps) (hb : Below w.heap.size w w') : Two w' B PB LB vp vl ps :=
  ⟨(hb.block _ (Array.getElem?_eq_some_iff.1 h.cp).1).trans h.cp, (hb.block _ (Array.getElem?_eq_some_iff.1 h.cl).1).trans h.cl, h.rp.stays hb, h.rl.stays hb⟩
theorem row_type {w : World} {B : Nat} {e : TypeId} {k : IntKind} {v : Value} {xs : List Int} (h : Row w B e k v xs) : ∀ g, v.ownBlock = some g → ∃ cur, w.heap[g]? = some (.cells cur e) := by
  intro g hg
  rcases h.2 with ⟨h1, _⟩ | ⟨g', cap, cur, h1, h2, h3, _⟩
  · rw [h1] at hg; cases hg
  · rw [h1] at hg
    cases hg
    exact ⟨cur, h3⟩
theorem Two.ne {w : World} {B PB LB : Nat} {vp vl : Value} {ps : List (Nat × Int)} (h : Two w B PB LB vp vl ps) : ∀ g, vp.ownBlock = some g → vl.ownBlock ≠ some g := by
  intro g hg hk
  obtain ⟨c1, h1⟩ := row_type h.rp g hg
  obtain ⟨c2, h2⟩ := row_type h.rl g hk
  rw [h1] at h2
  injection h2 with h2
  injection h2 with _ h3
  exact absurd h3 (by decide)
theorem row_ne {w : World} {B B' : Nat} {v v' : Value} {xs ys : List Int} (h : Row w B 3 .i64 v xs) (k : Row w B' 21 .i32 v' ys) : ∀ g, v.ownBlock = some g → v'.ownBlock ≠ some g := by
  intro g hg hk
  obtain ⟨c1, h1⟩ := row_type h g hg
  obtain ⟨c2, h2⟩ := row_type k g hk
  rw [h1] at h2
  injection h2 with h2
  injection h2 with _ h3
  exact absurd h3 (by decide)
/-- both stored -/
theorem two_end {W1 w6 : World} {IT PB LB : Nat} {vp vl v5 v6 : Value} {ps : List (Nat × Int)} {pos : Nat} {r : Int} (hPL : PB < LB) (hLI : LB < IT) (T1 : Two W1 (IT + 1) PB LB vp vl ps)
    (F6 : Fr (fun j => vp.ownBlock = some j ∨ vl.ownBlock = some j) W1 w6) (kP6 : w6.heap[PB]? = some (.cells #[vp] 35)) (kL6 : w6.heap[LB]? = some (.cells #[vl] 36))
    (r5 : Row w6 (IT + 1) 3 .i64 v5 ((ps.map fun x => (x.1 : Int)) ++ [(pos : Int)])) (r6 : Row w6 (IT + 1) 21 .i32 v6 ((ps.map fun x => x.2) ++ [r])) :
    Two ((w6.setCell ⟨PB, 0, none⟩ v5).setCell ⟨LB, 0, none⟩ v6) (IT + 1) PB LB v5 v6 (ps ++ [(pos, r)]) ∧ Fr (fun j => j = PB ∨ j = LB ∨ IT + 1 ≤ j) W1 ((w6.setCell ⟨PB, 0, none⟩ v5).setCell ⟨LB, 0, none⟩ v6) := by
  have e1 := Fr.set (Fr.refl (fun j => j = PB ∨ j = LB) w6) PB 0 v5 (.inl rfl)
  have e2 := Fr.set e1 LB 0 v6 (.inr rfl)
  have g1 := Go.Joins.block_setCell kP6 (i := 0) v5
  have g2 : ((w6.setCell ⟨PB, 0, none⟩ v5).setCell ⟨LB, 0, none⟩ v6).heap[PB]? = _ := ((Fr.set (Fr.refl (fun j => j = LB) (w6.setCell ⟨PB, 0, none⟩ v5)) LB 0 v6 rfl).block PB (Array.getElem?_eq_some_iff.1 g1).1 (fun k => by have k : PB = LB := k; omega)).trans g1
  have l1 : (w6.setCell ⟨PB, 0, none⟩ v5).heap[LB]? = _ := ((Fr.set (Fr.refl (fun j => j = PB) w6) PB 0 v5 rfl).block LB (Array.getElem?_eq_some_iff.1 kL6).1 (fun k => by have k : LB = PB := k; omega)).trans kL6
  have l2 := Go.Joins.block_setCell l1 (i := 0) v6
  refine ⟨⟨g2, l2, ?_, ?_⟩, ?_⟩
  · have := r5.fr e2 (fun g hg k => by have := (r5.lt g hg).1; rcases k with k | k <;> omega)
    simpa using this
  · have := r6.fr e2 (fun g hg k => by have := (r6.lt g hg).1; rcases k with k | k <;> omega)
    simpa using this
  · exact (F6.mono (fun j k => .inr (.inr (k.elim (fun k => (T1.rp.lt j k).1) (fun k => (T1.rl.lt j k).1))))).then e2 (fun j _ k => k.elim .inl (fun k => .inr (.inl k)))
theorem join_calls (w : World) (ao : Option Addr) (n cap : Nat) (xs : List Int) (h : Rd w .i32 ao n cap xs) :
    Calls Tryd.prog 13 #[.slice ao n cap] w fun e w' => e = .returned (.string (runesBytes xs)) ∧ w' = w := by
  have hcv := h.conv (P := Tryd.prog) (src := 36) (dst := 9) (e := 21) Tryd.underlying36 Tryd.underlying21 Tryd.underlying9
  go_enter Tryd.func13, Tryd.ntmps13
  go_wp2
  go_ret
  exact ⟨rfl, rfl⟩
set_option maxRecDepth 100000 in
set_option maxHeartbeats 8000000 in
theorem wholeRunes_walk (s : ByteArray) (w : World) (hs : s.size ≤ 1048576) (hT : U8 w) :
    Calls Tryd.prog 4 #[.string s] w fun e w' => e = .returned (.bool true) ∧ Below w.heap.size w w' := by
  refine (callsIn_wide (n := 6)).1 (callsIn_of_wp_marks Tryd.func4 rfl trivial ?_ rfl)
  refine wpIn_wide.2 (Code.wp_mono NoP.imp ?_)
  simp only [Tryd.ntmps4, List.size_toArray, List.length_cons, List.length_nil, Nat.reduceAdd, Nat.reduceSub, Array.replicate_succ, Array.replicate_zero, List.push_toArray, List.append_toArray, List.nil_append, List.cons_append]
  have b0 := (Below.refl w.heap.size w).alloc (Nat.le_refl _) (Obj.cells #[.bool false] 4)
  have y0 := heap_alloc_new w (Obj.cells #[.bool false] 4)
  obtain ⟨w0, hw0⟩ : ∃ w0, Hid (w0 = w.alloc (Obj.cells #[.bool false] 4)) := ⟨_, rfl⟩
  rw [← hw0.out] at b0 y0
  obtain ⟨P0, hP0⟩ : ∃ P0, Hid (P0 = w.heap.size) := ⟨_, rfl⟩
  rw [← hP0.out] at y0
  have HT := Lib.hid hT
  clear hT
  go_upto_region 1 with fail
  rw [← hw0.out, ← hP0.out]
  go_wp2_with fail
  refine (put_calls w0 none 0 0 [] ⟨rfl, Nat.le_refl _, Nat.zero_le _, fun j hj => absurd hj (Nat.not_lt_zero _)⟩ (fun _ => ⟨rfl, rfl⟩) 233 (by decide) (by decide) (by decide)).mono ?_
  rintro E w1 ⟨v1, rfl, hr1, b1⟩
  have y1 := (b1.block P0 (Array.getElem?_eq_some_iff.1 y0).1).trans y0
  have hB1 := b0.trans (b1.mono b0.size)
  rw [List.nil_append] at hr1
  obtain ⟨a1, c1, rfl, rd1⟩ := hr1.rd
  have hcv := rd1.convB (P := Tryd.prog) (src := 32) (dst := 9) (e := 5) rfl rfl rfl
  rw [put_w] at hcv
  have hcw := Go.Joins.run_convert_bytes_const_at (P := Tryd.prog) w1 32 5 #[.int .u8 233, .int .u8 128, .int .u8 97] 3 3 w1.heap.size rfl Tryd.underlying32 Tryd.underlying5
  have r2 := rb_new w1 5 (3, 4) [233, 128, 97] (by decide) (by decide)
  have b2 : Below w1.heap.size w1 (w1.alloc (.cells ([233, 128, 97].map (Value.int .u8)).toArray 5 (3, 4))) := (Below.refl _ _).alloc (Nat.le_refl _) _
  have hB2 := hB1.trans (b2.mono hB1.size)
  have hG := good_calls _ _ _ _ _ r2 (HT.out.below hB2) (by decide)
  rw [good_w] at hG
  have HG := Lib.hid hG
  have HB2 := Lib.hid hB2
  have y2 := (b2.block P0 (Array.getElem?_eq_some_iff.1 y1).1).trans y1
  have Y2 := Lib.hid y2
  clear hG r2 b2 hB2 y2 y1 hB1 hr1 rd1 b1 b0 y0
  go_wp2_with fail
  refine HG.out.mono ?_
  rintro E w2 ⟨rfl, b2⟩
  have y2 := (b2.block P0 (Array.getElem?_eq_some_iff.1 Y2.out).1).trans Y2.out
  have hB2 := HB2.out.trans (b2.mono HB2.out.size)
  clear HG HB2 Y2 hcv hcw b2 hw0
  have b3 := hB2.alloc hB2.size (Obj.cells #[.slice none 0 0] 35)
  have y3 : (w2.alloc (Obj.cells #[.slice none 0 0] 35)).heap[P0]? = _ := (heap_alloc_old _ _ (Array.getElem?_eq_some_iff.1 y2).1).trans y2
  have z3 := heap_alloc_new w2 (Obj.cells #[.slice none 0 0] 35)
  obtain ⟨PB, hPB⟩ : ∃ PB, Hid (PB = w2.heap.size) := ⟨_, rfl⟩
  go_upto_region 4 with fail
  obtain ⟨w3, hw3⟩ : ∃ w3, Hid (w3 = w2.alloc (Obj.cells #[.slice none 0 0] 35)) := ⟨_, rfl⟩
  rw [← hw3.out] at b3 y3 z3 ⊢
  rw [← hPB.out] at z3 ⊢
  have b4 := b3.alloc b3.size (Obj.cells #[.slice none 0 0] 36)
  have y4 : (w3.alloc (Obj.cells #[.slice none 0 0] 36)).heap[P0]? = _ := (heap_alloc_old _ _ (Array.getElem?_eq_some_iff.1 y3).1).trans y3
  have z4 : (w3.alloc (Obj.cells #[.slice none 0 0] 36)).heap[PB]? = _ := (heap_alloc_old _ _ (Array.getElem?_eq_some_iff.1 z3).1).trans z3
  have u4 := heap_alloc_new w3 (Obj.cells #[.slice none 0 0] 36)
  obtain ⟨LB, hLB⟩ : ∃ LB, Hid (LB = w3.heap.size) := ⟨_, rfl⟩
  go_upto_region 5 with fail
  obtain ⟨w4, hw4⟩ : ∃ w4, Hid (w4 = w3.alloc (Obj.cells #[.slice none 0 0] 36)) := ⟨_, rfl⟩
  rw [← hw4.out] at b4 y4 z4 u4 ⊢
  rw [← hLB.out] at u4 ⊢
  obtain ⟨IT, hIT⟩ : ∃ IT, Hid (IT = w4.heap.size) := ⟨_, rfl⟩
  have hl4 := (Array.getElem?_eq_some_iff.1 u4).1
  have hl3 := (Array.getElem?_eq_some_iff.1 z3).1
  have hl2 := (Array.getElem?_eq_some_iff.1 y2).1
  have hP0PB : P0 < PB := by rw [hPB.out]; exact hl2
  have hPBLB : PB < LB := by rw [hLB.out]; exact hl3
  have hLBIT : LB < IT := by rw [hIT.out]; exact hl4
  have hT4 : Two w4 (IT + 1) PB LB (.slice none 0 0) (.slice none 0 0) [] := ⟨z4, u4, World.ownsRow_nil _ _ _ _, World.ownsRow_nil _ _ _ _⟩
  have HB4 := Lib.hid b4
  have Y4 := Lib.hid y4
  clear hw3 hw4 hB2 b3 y3 z3 b4 y4 z4 u4 hl4 hl3 hl2 y2
  have hIT0 := World.iter_heap w4 s 0
  have bIT := (Below.refl w4.heap.size w4).alloc (Nat.le_refl _) (Obj.stringIter s 0)
  rw [← hIT.out] at hIT0
  go_wp2_with fail
  try rw [← hIT.out]
  have HL := Lib.hid (show w.heap.size ≤ w4.heap.size from HB4.out.size)
  go_loopw [5] (fun _ wr => ∃ (pos : Nat) (ps : List (Nat × Int)) (vp vl : Value), wr.heap[IT]? = some (.stringIter s pos) ∧ Two wr (IT + 1) PB LB vp vl ps ∧ Below w.heap.size w wr ∧ wr.heap[P0]? = some (Obj.cells #[.bool false] 4) ∧ IT + 1 ≤ wr.heap.size ∧ Hid (ps ++ prAt s pos = prAt s 0)) (fun _ wr => s.size - wr.iterPos IT)
  case atStart =>
    have b5 := HB4.out.alloc HB4.out.size (Obj.stringIter s 0)
    refine ⟨0, [], _, _, hIT0, hT4.below bIT, b5, (heap_alloc_old _ _ (Array.getElem?_eq_some_iff.1 Y4.out).1).trans Y4.out, by (show _ ≤ (w4.alloc (Obj.stringIter s 0)).heap.size); rw [World.size_alloc, hIT.out]; exact Nat.le_refl _, Lib.hid rfl⟩
  case round =>
    obtain ⟨pos, ps, vp, vl, hit, hT, hb, hy, hsz, H⟩ := hrel
    have hpos0 := iterPos_of hit
    by_cases hp : pos < s.size
    · obtain ⟨W1, hnx, hw1⟩ := next_some (P := Tryd.prog) hit hp
      have hwd := Lib.decode_width_pos s pos hp
      have hN := H.out
      rw [prAt_next hp] at hN
      have HN := Lib.hid (show (ps ++ [(pos, ((Utf8.decode s pos).1 : Int))]) ++ prAt s (pos + (Utf8.decode s pos).2) = prAt s 0 by rw [List.append_assoc]; exact hN)
      have hlen : ps.length < 1099511627776 := by
        have h1 := congrArg List.length hN
        have h2 := prAt_length s 0
        simp at h1
        omega
      have HWD := Lib.hid hwd
      obtain ⟨r, hr⟩ : ∃ r : Int, Hid (r = ((Utf8.decode s pos).1 : Int)) := ⟨_, rfl⟩
      rw [← hr.out] at HN
      simp only [← hr.out] at hnx
      have bW1 := hw1.below _ _ (Below.refl (IT) wr) (Nat.le_refl _)
      have bW := hw1.below _ _ hb (by have := HB4.out.size; rw [hIT.out]; exact this)
      have T1 : Two W1 (IT + 1) PB LB vp vl ps := ⟨(hw1.other _ (by omega)).trans hT.cp, (hw1.other _ (by omega)).trans hT.cl, hw1.owns _ _ _ _ _ _ hT.rp, hw1.owns _ _ _ _ _ _ hT.rl⟩
      have hit1 := hw1.it
      have hyW : W1.heap[P0]? = _ := (hw1.other P0 (by omega)).trans hy
      have hszW : IT + 1 ≤ W1.heap.size := by rw [hw1.size]; exact hsz
      clear hN H hwd hT hb hy hsz hit bW1
      have hPL : PB ≠ LB := by omega
      have hLP : LB ≠ PB := by omega
      go_upto_region 8 with fail
      have cPB : W1.cell? ⟨PB, 0, none⟩ = some vp := by simp [World.cell?, T1.cp]
      have cLB : W1.cell? ⟨LB, 0, none⟩ = some vl := by simp [World.cell?, T1.cl]
      have B1 : ∀ o, Below W1.heap.size W1 (W1.alloc o).drew := fun o => ((Below.refl _ _).alloc (Nat.le_refl _) o).drew
      have B2 : ∀ o o', Below W1.heap.size W1 ((W1.alloc o).alloc o').drew := fun o o' => (((Below.refl _ _).alloc (Nat.le_refl _) o).alloc (by simp) o').drew
      have hown : ∀ g, vp.ownBlock = some g → g < W1.heap.size := fun g hg => (T1.rp.lt g hg).2
      have hownl : ∀ g, vl.ownBlock = some g → g < W1.heap.size := fun g hg => (T1.rl.lt g hg).2
      have hszd : ∀ o, W1.heap.size ≤ (W1.alloc o).drew.heap.size ∧ ∀ o', W1.heap.size ≤ ((W1.alloc o).alloc o').drew.heap.size := fun o => ⟨(B1 o).size, fun o' => (B2 o o').size⟩
      have cPB1 : ∀ o, (W1.alloc o).drew.cell? ⟨PB, 0, none⟩ = some vp := fun o => by have := (B1 o).block PB (Array.getElem?_eq_some_iff.1 T1.cp).1; simp only [World.cell?, this, T1.cp]; rfl
      have cPB2 : ∀ o o', ((W1.alloc o).alloc o').drew.cell? ⟨PB, 0, none⟩ = some vp := fun o o' => by have := (B2 o o').block PB (Array.getElem?_eq_some_iff.1 T1.cp).1; simp only [World.cell?, this, T1.cp]; rfl
      have cLB1 : ∀ o, (W1.alloc o).drew.cell? ⟨LB, 0, none⟩ = some vl := fun o => by have := (B1 o).block LB (Array.getElem?_eq_some_iff.1 T1.cl).1; simp only [World.cell?, this, T1.cl]; rfl
      have cLB2 : ∀ o o', ((W1.alloc o).alloc o').drew.cell? ⟨LB, 0, none⟩ = some vl := fun o o' => by have := (B2 o o').block LB (Array.getElem?_eq_some_iff.1 T1.cl).1; simp only [World.cell?, this, T1.cl]; rfl
      have HL5 := Lib.hid (show ((ps.map fun x => (x.1 : Int)) ++ [(pos : Int)]).length = ps.length + 1 by simp)
      have HL6 := Lib.hid (show ((ps.map fun x => x.2) ++ [r]).length = ps.length + 1 by simp)
      refine wp_meet8 (fun wx => (∃ vp' vl', Two wx (IT + 1) PB LB vp' vl' (ps ++ [(pos, r)])) ∧ Fr (fun j => j = PB ∨ j = LB ∨ IT + 1 ≤ j) W1 wx) ?_ ?_
      · simp only [Act.put, List.setIfInBounds_toArray, List.set_cons_zero, List.set_cons_succ]
        go_region_law (first
          | (refine step_app1 _ rfl _ _ _ rfl (IT + 1) 3 .i64 8 info_int Tryd.underlying35 vp (ps.map fun x => (x.1 : Int)) rfl _ (pos : Int) rfl (by rw [List.length_map]; exact hlen) (by decide) (by first | exact T1.rp.stays (B1 _) | exact T1.rp.stays (B2 _ _)) (by go_simp) (by first | exact Nat.le_trans hszW (hszd _).1 | exact Nat.le_trans hszW ((hszd _).2 _)) ?_
             intro v5 w5 hrow5 hgrow5
             obtain ⟨a5, c5, hv5, _⟩ := hrow5.rd; rw [HL5.out] at hv5; subst hv5
             have F5 : Fr (fun j => vp.ownBlock = some j) W1 w5 := (by first | exact (Fr.of (B1 _)).grown hgrow5 (fun g hg => .inl hg) | exact (Fr.of (B2 _ _)).grown hgrow5 (fun g hg => .inl hg))
             have rl5 := T1.rl.fr F5 (fun g hg k => T1.ne g k hg)
             have ne5 := row_ne hrow5 rl5
             have k5 := (F5.block LB (Array.getElem?_eq_some_iff.1 T1.cl).1 (fun k => by have := (T1.rp.lt LB k).1; omega)).trans T1.cl
             have cLB5 : w5.cell? ⟨LB, 0, none⟩ = some vl := (by simp [World.cell?, k5])
             have cLB7 : ∀ o, (w5.alloc o).cell? ⟨LB, 0, none⟩ = some vl := (fun o => by have := heap_alloc_old w5 o (Array.getElem?_eq_some_iff.1 k5).1; simp [World.cell?, this, k5]))
          | (refine step_app1 _ rfl _ _ _ rfl (IT + 1) 21 .i32 4 info_rune Tryd.underlying36 vl (ps.map fun x => x.2) rfl _ r rfl (by rw [List.length_map]; exact hlen) (by decide) (by first | exact rl5 | exact rl5.stays ((Below.refl _ _).alloc (Nat.le_refl _) _)) (by first | (go_simp; done) | (unfold World.cell?; rw [hgrow5.block (W1.heap.size + 1) (by first | (simp; done) | (simp; omega)) (fun k => by have := hown _ (by first | exact k | exact k.symm); omega)]; change World.cell? _ ⟨_, _, none⟩ = _; go_simp; done) | (unfold World.cell?; rw [hgrow5.block W1.heap.size (by first | (simp; done) | (simp; omega)) (fun k => by have := hown _ (by first | exact k | exact k.symm); omega)]; change World.cell? _ ⟨_, _, none⟩ = _; go_simp; done)) (by have := F5.size; first | omega | (simp; omega)) ?_
             intro v6 w6 hrow6 hgrow6
             obtain ⟨a6, c6, hv6, _⟩ := hrow6.rd; rw [HL6.out] at hv6; subst hv6
             have F6 : Fr (fun j => vp.ownBlock = some j ∨ vl.ownBlock = some j) W1 w6 := (by first | exact (F5.mono (fun j k => .inl k)).grown hgrow6 (fun g hg => .inl (.inr hg)) | exact ((F5.mono (q := fun j => vp.ownBlock = some j ∨ vl.ownBlock = some j) (fun j k => .inl k)).alloc _).grown hgrow6 (fun g hg => .inl (.inr hg)))
             have G6 : Fr (fun j => vl.ownBlock = some j) w5 w6 := (by first | exact (Fr.refl _ w5).grown hgrow6 (fun g hg => .inl hg) | exact ((Fr.refl _ w5).alloc _).grown hgrow6 (fun g hg => .inl hg))
             have row56 := hrow5.fr G6 (fun g hg k => ne5 g hg k)
             have kP6 := (F6.block PB (Array.getElem?_eq_some_iff.1 T1.cp).1 (fun k => k.elim (fun k => by have := (T1.rp.lt PB k).1; omega) (fun k => by have := (T1.rl.lt PB k).1; omega))).trans T1.cp
             have kL6 := (F6.block LB (Array.getElem?_eq_some_iff.1 T1.cl).1 (fun k => k.elim (fun k => by have := (T1.rp.lt LB k).1; omega) (fun k => by have := (T1.rl.lt LB k).1; omega))).trans T1.cl
             have cP6 : w6.cell? ⟨PB, 0, none⟩ = some vp := (by simp [World.cell?, kP6])
             have cL6 : w6.cell? ⟨LB, 0, none⟩ = some vl := (by simp [World.cell?, kL6])
             have zP6 : w6.frozen? ⟨PB, 0, none⟩ = false := (by simp [World.frozen?, kP6])
             have zL6 : w6.frozen? ⟨LB, 0, none⟩ = false := (by simp [World.frozen?, kL6])))
        all_goals
          have hE := two_end hPBLB hLBIT T1 F6 kP6 kL6 row56 hrow6
          exact ⟨⟨_, _, _, _, _, _, _, _, rfl⟩, ⟨_, _, hE.1⟩, hE.2⟩
      · rintro v1 v2 v3 v4 v5 v6 v7 v8 W8 ⟨⟨vp8, vl8, hE1⟩, hE2⟩
        have hit8 := (hE2.block IT (Array.getElem?_eq_some_iff.1 hit1).1 (fun k => by rcases k with k | k | k <;> omega)).trans hit1
        have hy8 := (hE2.block P0 (Array.getElem?_eq_some_iff.1 hyW).1 (fun k => by rcases k with k | k | k <;> omega)).trans hyW
        have hb8 : Below w.heap.size w W8 := bW.trans (hE2.below bW.size (fun j k => by have := hP0.out; rcases k with k | k | k <;> omega))
        have hsz8 := Nat.le_trans hszW hE2.size
        clear hE2 hszd hown hownl B1 B2 cPB1 cPB2 cLB1 cLB2 cPB cLB
        simp only [Act.put, List.setIfInBounds_toArray, List.set_cons_zero, List.set_cons_succ]
        go_wp2_with fail
        go_roundw
        case rel => exact ⟨_, _, _, _, hit8, hE1, hb8, hy8, hsz8, HN⟩
        case measure => have := HWD.out; rw [iterPos_of hit8, hpos0]; omega
    · obtain ⟨wL, rfl⟩ : ∃ wL, wL = wr := ⟨_, rfl⟩
      have hnx : ∀ ty, (Instr.next (.pointer (some ⟨IT, 0, none⟩)) true ty).run Tryd.prog wL = _ := fun ty => Lib.run_next_end_at wL IT s pos ty hit hp
      have HE := Lib.hid (H.out.symm.trans (by rw [prAt_end hp, List.append_nil]) : prAt s 0 = ps)
      clear H
      have b9 := (Below.refl wL.heap.size wL).alloc (Nat.le_refl _) (Obj.cells #[.int .i64 0] 3)
      go_upto_region 10 with fail
      go_wp2_with fail
      refine ((callsIn_wide (n := 5)).1 (all_in Fence.wide 5 trivial rfl s _)).mono ?_
      rintro E wx ⟨rfl, rfl⟩
      have hnil : ∀ (W : World) (p : Value), (binOp .eql 38 (.func (.func 28) #[] #[p]) .nilFunc).run Tryd.prog W = .ok (.bool false) W := fun _ _ => by kernel_rfl
      go_wp2_with fail
      clear hnil b9 hnx hit hpos0
      obtain ⟨NB, hNB⟩ : ∃ NB, Hid (NB = wL.heap.size) := ⟨_, rfl⟩
      have hNBI : IT < NB := by rw [hNB.out]; exact hsz
      obtain ⟨ap, cp, hvp, rdp⟩ := hT.rp.rd
      obtain ⟨al, cl, hvl, rdl⟩ := hT.rl.rd
      rw [List.length_map] at hvp rdp hvl rdl
      subst hvp hvl
      have hpsl : ps.length ≤ 1048576 := by rw [← HE.out]; exact Nat.le_trans (prAt_length s 0) (by omega)
      refine (wpIn_wide (n := 6)).1 ?_
      apply wpIn_rangeFunc_ownF (encs := encP) (Kp := KeepsWalks) rfl (by omega) (gf := 28) (lb := #[.pointer (some ⟨wL.heap.size + 1, 0, none⟩)]) rfl trivial (enters_of Tryd.func28 (by kernel_rfl) rfl)
        (all_stops Fence.wide 5 trivial rfl (by omega) (wL.heap.size + 1) s (by omega) ((wL.alloc (.cells #[.int .i64 0] 3)).alloc (.cells #[.string s] 9)) (by simp) (by have hh := heap_alloc_new (wL.alloc (.cells #[.int .i64 0] 3)) (.cells #[.string s] 9); rw [World.size_alloc] at hh; unfold World.cell?; rw [hh]; rfl)) walksK_t walksK_b (Below.refl _ _) (fun _ => rfl)
        (fun pre W => (W.cell? ⟨wL.heap.size, 0, none⟩ = some (.int .i64 (pre.length : Nat)) ∧ W.frozen? ⟨wL.heap.size, 0, none⟩ = false ∧ Hid (pre <+: prAt s 0)) ∧ Below wL.heap.size wL W)
        (fun _ pre _ => ¬ pre <+: prAt s 0)
        (OwnFrom.and (fun s A B row hs hg hr => ⟨cell_kept hs.1 hg (fun r e => (hr r e).2), (frozen_kept hs.1 hg (fun r e => (hr r e).2)).trans hs.2.1, hs.2.2⟩) (ownFrom_below (Nat.le_refl _) (by simp; omega)))
        (fun _ _ _ _ _ hs _ _ => hs)
        ?h0
      case hassign =>
        intro l x W K hK
        gi_wp2
        exact hK
      case h0 =>
        have e1 : ((wL.alloc (.cells #[.int .i64 0] 3)).alloc (.cells #[.string s] 9)).heap[wL.heap.size]? = _ := (heap_alloc_old _ _ (by simp)).trans (heap_alloc_new wL (.cells #[.int .i64 0] 3))
        exact ⟨⟨by simp [World.cell?, e1], by simp [World.frozen?, e1], Lib.hid (List.nil_prefix)⟩, ((Below.refl _ _).alloc (Nat.le_refl _) _).alloc (by simp) _⟩
      case hbody =>
        rintro l pre x W ⟨⟨hc, hf, HP⟩, hB⟩ hlen
        rw [← hNB.out] at hc hf
        have T := hT.below hB
        have cPB : W.cell? ⟨PB, 0, none⟩ = some (.slice ap ps.length cp) := by simp [World.cell?, T.cp]
        have cLB : W.cell? ⟨LB, 0, none⟩ = some (.slice al ps.length cl) := by simp [World.cell?, T.cl]
        have hP : W.heap[P0]? = _ := (hB.block P0 (by have := hNB.out; omega)).trans hy
        have cP0 : W.cell? ⟨P0, 0, none⟩ = some (.bool false) := by simp [World.cell?, hP]
        have fP0 : W.frozen? ⟨P0, 0, none⟩ = false := by simp [World.frozen?, hP]
        obtain ⟨i, r⟩ := x
        obtain ⟨j, hj⟩ : ∃ j, j = min i 1125899906842624 := ⟨_, rfl⟩
        have hpx := prefix_snoc (x := (i, r)) HP.out
        rw [HE.out] at hpx
        obtain ⟨n, hn⟩ : ∃ n, Hid (n = pre.length) := ⟨_, rfl⟩
        rw [← hn.out] at hc hpx
        dsimp only
        simp only [← hj, ← hNB.out]
        have hcle := rdp.le
        have hclm := rdp.cap_le
        have hlle := rdl.le
        have hllm := rdl.cap_le
        have hPP : P0 ≠ NB := by omega
        by_cases hnl : n < ps.length
        · have hnl' : (n : Int) < ps.length := by omega
          obtain ⟨b, o, rfl, hb1, hcb⟩ := (rdp.below hB).cell n hnl
          obtain ⟨b2, o2, rfl, hb2, hcb2⟩ := (rdl.below hB).cell n hnl
          have k1 := hcb n hnl
          have k2 := hcb2 n hnl
          have hg1 : gt (ps.map fun x => (x.1 : Int)) n = ((ps[n]).1 : Int) := by rw [gt_lt (by rw [List.length_map]; exact hnl), List.getElem_map]
          have hg2 : gt (ps.map fun x => x.2) n = (ps[n]).2 := by rw [gt_lt (by rw [List.length_map]; exact hnl), List.getElem_map]
          rw [hg1] at k1
          rw [hg2] at k2
          have hyl := prAt_lt (s := s) (p := 0) (y := ps[n]) (by rw [HE.out]; exact List.getElem_mem _)
          have hps : ps[n]? = some ps[n] := List.getElem?_eq_getElem hnl
          obtain ⟨y, hy0⟩ : ∃ y, y = ps[n] := ⟨_, rfl⟩
          rw [← hy0] at k1 k2 hyl hps
          rw [hps] at hpx
          obtain ⟨y1, y2⟩ := y
          simp only [] at k1 k2 hyl
          clear hcb hcb2 hg1 hg2 hy0 hps
          by_cases h1 : y1 = j
          · by_cases h2 : y2 = r
            · have hpre : pre ++ [(i, r)] <+: prAt s 0 := by
                rw [HE.out]
                refine hpx.2 ?_
                rw [show y1 = i by omega, h2]
              have HPRE := Lib.hid hpre
              have hlen2 : (pre ++ [(i, r)]).length = n + 1 := by rw [List.length_append, ← hn.out]; rfl
              have HLEN := Lib.hid hlen2
              subst h1
              subst h2
              clear hpx hpre hlen2
              gi_wp2
              all_goals exact ⟨KeepsOthers.setCell _ _ _, (KeepsOthers.setCell _ _ _).walks, ⟨⟨by rw [HLEN.out]; simp [World.cell?_setCell_same', hc], by rw [World.frozen?_setCell]; exact hf, HPRE⟩, (by have hq := hB; rw [← hNB.out] at hq; exact hq.setCell (p := ⟨NB, 0, none⟩) (Nat.le_refl _) _)⟩⟩
            · have hno : ¬ pre ++ [(i, r)] <+: prAt s 0 := by
                rw [HE.out]
                intro hk
                have := hpx.1 hk
                simp only [Option.some.injEq, Prod.mk.injEq] at this
                exact h2 this.2
              have HNO := Lib.hid hno
              have hb2' : (y2 != r) = true := by simpa using h2
              subst h1
              clear hpx hno
              gi_wp2
              all_goals exact ⟨KeepsOthers.setCell _ _ _, HNO.out⟩
          · have hno : ¬ pre ++ [(i, r)] <+: prAt s 0 := by
              rw [HE.out]
              intro hk
              have := hpx.1 hk
              simp only [Option.some.injEq, Prod.mk.injEq] at this
              exact h1 (by omega)
            have HNO := Lib.hid hno
            have hb1' : (((y1 : Nat) : Int) != (j : Int)) = true := by simp; omega
            clear hpx hno
            gi_wp2
            all_goals exact ⟨KeepsOthers.setCell _ _ _, HNO.out⟩
        · have hno : ¬ pre ++ [(i, r)] <+: prAt s 0 := by
            rw [HE.out]
            intro hk
            have := hk.length_le
            rw [List.length_append, ← hn.out] at this
            simp at this
            omega
          have HNO := Lib.hid hno
          have hnl' : ¬ (n : Int) < ps.length := by omega
          have hge : (ps.length : Int) ≤ n := by omega
          clear hpx hno
          gi_wp2
          all_goals exact ⟨KeepsOthers.setCell _ _ _, HNO.out⟩
      case hdone =>
        rintro D ys W hD rfl ⟨⟨hc, hf, HP⟩, hB⟩ hK
        simp only [← hNB.out] at hc hf hD ⊢
        have T := hT.below hB
        have cLB : W.cell? ⟨LB, 0, none⟩ = some (.slice al ps.length cl) := by simp [World.cell?, T.cl]
        rw [HE.out] at hc
        have hrs : rs s = ps.map fun x => x.2 := by rw [← HE.out]; exact rs_prAt s s.size 0 (by omega)
        have HRS := Lib.hid hrs
        have rdW := rdl.below hB
        have hcvl := fun (W' : World) (b : Below W.heap.size W W') => (rdW.below b).conv (P := Tryd.prog) (src := 36) (dst := 9) (e := 21) Tryd.underlying36 Tryd.underlying21 Tryd.underlying9
        have hcvd := hcvl W.drew ((Below.refl _ _).drew)
        have hcvd1 := hcvl (W.drewN 1) (((Drew.refl _).drewN 1).below _)
        have hcA := fun W' => run_runes_any (P := Tryd.prog) W' 9 36 21 s Tryd.underlying9 Tryd.underlying36 Tryd.underlying21
        have hcB := fun W' => (rd_runes W' s 21 (by omega)).conv (P := Tryd.prog) (src := 36) (dst := 9) (e := 21) Tryd.underlying36 Tryd.underlying21 Tryd.underlying9
        have hcC : (convert 36 9 (.slice (some ⟨W.heap.size, 0, none⟩) (Conv.runesFrom s s.size 0 #[]).size (grownCap W.drew (Conv.runesFrom s s.size 0 #[]).size 0 21))).run Tryd.prog (W.alloc (.cells (Conv.runesFrom s s.size 0 #[] ++ Array.replicate (grownCap W.drew (Conv.runesFrom s s.size 0 #[]).size 0 21 - (Conv.runesFrom s s.size 0 #[]).size) (Value.int .i32 0)) 21)).drew.drew = .ok (.string (runesBytes (rs s))) (W.alloc (.cells (Conv.runesFrom s s.size 0 #[] ++ Array.replicate (grownCap W.drew (Conv.runesFrom s s.size 0 #[]).size 0 21 - (Conv.runesFrom s s.size 0 #[]).size) (Value.int .i32 0)) 21)).drew.drew := ((rd_runes W.drew s 21 (by omega)).heap (w' := (W.alloc (.cells (Conv.runesFrom s s.size 0 #[] ++ Array.replicate (grownCap W.drew (Conv.runesFrom s s.size 0 #[]).size 0 21 - (Conv.runesFrom s s.size 0 #[]).size) (Value.int .i32 0)) 21)).drew.drew) rfl).conv Tryd.underlying36 Tryd.underlying21 Tryd.underlying9
        have hNBs : NB < W.heap.size := by have := hB.size; unfold World.cell? at hc; split at hc; (rename_i hh; exact (Array.getElem?_eq_some_iff.1 hh).1); simp at hc
        have hLBs : LB < W.heap.size := (Array.getElem?_eq_some_iff.1 T.cl).1
        go_upto_region 19 with fail
        go_cut [91] from 73 to 91 (fun v wx => v = .bool false ∧ Below W.heap.size W wx)
        case first =>
          have hkeep : ∀ W' : World, Below W.heap.size W W' → W'.cell? ⟨NB, 0, none⟩ = some (.int .i64 ps.length) ∧ W'.cell? ⟨LB, 0, none⟩ = some (.slice al ps.length cl) ∧ (convert 36 9 (.slice al ps.length cl)).run Tryd.prog W' = .ok (.string (runesBytes (ps.map fun x => x.2))) W' := fun W' b =>
            ⟨(b.cell (p := ⟨NB, 0, none⟩) hNBs).trans hc, (b.cell (p := ⟨LB, 0, none⟩) hLBs).trans cLB, hcvl W' b⟩
          have bw1 : Below W.heap.size W W.drew := (Below.refl _ _).drew
          have bw2 : Below W.heap.size W (W.drewN 1) := ((Drew.refl _).drewN 1).below _
          have bwA : ∀ o, Below W.heap.size W (W.alloc o).drew := fun o => ((Below.refl _ _).alloc (Nat.le_refl _) o).drew
          have bwB : ∀ o, Below W.heap.size W (W.alloc o).drew.drew := fun o => (bwA o).drew
          have bwC : ∀ o, Below W.heap.size W ((W.drewN 2).alloc o) := fun o => (((Drew.refl W).drewN 2).below _).alloc (Nat.le_refl _) o
          go_region_held (fun W' => W'.cell? ⟨NB, 0, none⟩ = some (.int .i64 ps.length) ∧ W'.cell? ⟨LB, 0, none⟩ = some (.slice al ps.length cl) ∧ (convert 36 9 (.slice al ps.length cl)).run Tryd.prog W' = .ok (.string (runesBytes (ps.map fun x => x.2))) W') (first | exact hkeep _ (by assumption) | exact hkeep _ (((Below.refl _ _).drew)) | exact hkeep _ (cm.alloc cm.size _).drew | exact hkeep _ (bwA _) | exact hkeep _ (bwB _) | exact hkeep _ (bwC _) | exact hkeep _ bw2 | go_keep) (first
            | (go_at_call 13; refine (join_calls _ _ _ _ _ (rdW.below (by first | exact bw1 | assumption))).mono ?_; rintro e w' ⟨rfl, rfl⟩)
            | (go_at_call 14; refine (mend_calls s _ (by omega)).mono ?_; rintro e w' ⟨rfl, bm⟩; have cm : Below W.heap.size W w' := (by first | exact bw1.trans (bm.mono bw1.size) | exact bw2.trans (bm.mono bw2.size) | exact (bwA _).trans (bm.mono (bwA _).size) | exact (bwB _).trans (bm.mono (bwB _).size) | exact (bwC _).trans (bm.mono (bwC _).size) | (trace_state; fail)); first | (have hcM : (convert 36 9 (.slice (some ⟨W.heap.size, 0, none⟩) (Conv.runesFrom s s.size 0 #[]).size (grownCap W.drew (Conv.runesFrom s s.size 0 #[]).size 0 21))).run Tryd.prog w' = .ok (.string (runesBytes (rs s))) w' := ((Rd.heap (rd_runes W.drew s 21 (by omega)) rfl).below bm).conv Tryd.underlying36 Tryd.underlying21 Tryd.underlying9) | (have hcM : (convert 36 9 (.slice (some ⟨W.heap.size, 0, none⟩) (Conv.runesFrom s s.size 0 #[]).size (grownCap (W.drewN 1) (Conv.runesFrom s s.size 0 #[]).size 0 21))).run Tryd.prog w' = .ok (.string (runesBytes (rs s))) w' := ((rd_runes (W.drewN 1) s 21 (by omega)).below bm).conv Tryd.underlying36 Tryd.underlying21 Tryd.underlying9) | skip))
          all_goals
            go_wp2_with fail
            go_meet
            case rel => first | exact ⟨rfl, (cm.alloc cm.size _).drew⟩ | exact ⟨rfl, cm⟩
        case rest =>
        obtain ⟨rfl, bc⟩ := hcut
        clear hcB hcC hcA hcvd hcvd1 hcvl
        have rdC := rdW.below bc
        have HBC := Lib.hid bc
        have hBc : Below wL.heap.size wL wc := hB.trans (bc.mono (by have := hB.size; omega))
        have HBWC := Lib.hid hBc
        have hKc : wc.heap[D]? = some (.deferred (some [])) := (bc.block D (Array.getElem?_eq_some_iff.1 hK).1).trans hK
        have HKC := Lib.hid hKc
        clear hNBs hLBs hc hf cLB T rdW hK hKc
        go_wp2_with fail
        refine (runes_calls s wc (by omega)).mono ?_
        rintro E wd ⟨vd, rfl, hrd, bd⟩
        obtain ⟨ad, cd, hvd, rdd⟩ := hrd.rd
        rw [HRS.out, List.length_map] at hvd rdd
        subst hvd
        have HBD := Lib.hid bd
        have HBWD := Lib.hid (HBWC.out.trans (bd.mono (by have := HBWC.out.size; omega)))
        have Td := hT.below HBWD.out
        have cLBd : wd.cell? ⟨LB, 0, none⟩ = some (.slice al ps.length cl) := by simp [World.cell?, Td.cl]
        have rdLd := rdl.below HBWD.out
        have hcld := rdd.le
        have hcmd := rdd.cap_le
        have hlle := rdl.le
        have hllm := rdl.cap_le
        clear hrd bd rdC
        go_wp2_with fail
        go_loopw [95] (fun y wr' => ∃ i : Nat, y = .int .i64 i ∧ i ≤ ps.length ∧ Drew wd wr') (fun y _ => ps.length - (intOf y).toNat)
        case atStart => exact ⟨0, rfl, Nat.zero_le _, Drew.refl _⟩
        case round =>
          obtain ⟨i, rfl, hi, hdr⟩ := hrel
          by_cases hil : i < ps.length
          · have hil' : (i : Int) < ps.length := by omega
            obtain ⟨b, o, rfl, hb1, hcb⟩ := (rdd.below (hdr.below _)).cell i hil
            obtain ⟨b2, o2, rfl, hb2, hcb2⟩ := (rdLd.below (hdr.below _)).cell i hil
            have k1 := hcb i hil
            have k2 := hcb2 i hil
            obtain ⟨z, hz⟩ : ∃ z, z = gt (ps.map fun x => x.2) i := ⟨_, rfl⟩
            rw [← hz] at k1 k2
            have cLBr := ((hdr.below wd.heap.size).cell (p := ⟨LB, 0, none⟩) (by exact (Array.getElem?_eq_some_iff.1 Td.cl).1)).trans cLBd
            clear hcb hcb2 hz cLBd
            go_wp2_with fail
            go_roundw
            case rel => exact ⟨i + 1, by go_num, by omega, hdr⟩
            case measure => simp [RowKit.intOf]; omega
          · obtain rfl : i = ps.length := by omega
            have HBWR := Lib.hid (HBWD.out.trans ((hdr.below _).mono (Nat.le_refl _)))
            obtain ⟨xs, hxs⟩ : ∃ xs, Hid (xs = bz s.data.toList) := ⟨_, rfl⟩
            have hcv : ∀ wx : World, (convert 9 32 (.string s)).run Tryd.prog wx = _ := fun wx => run_bytes_of_string wx 9 32 5 s Tryd.underlying9 Tryd.underlying32 Tryd.underlying5
            have hge := grownCap_ge wr s.size 0 5
            have hrb := rb_str wr s 5 (grownCap wr s.size 0 5) ((bytesRow s (grownCap wr s.size 0 5)).size, (bytesRow s (grownCap wr s.size 0 5)).size + 1) hge (grownCap_le_maxLen _ _ _ _ (by unfold maxLen; omega))
            rw [← hxs.out] at hrb
            clear rdd cLBd Td rdLd hcld hcmd
            go_upto_region 28 with fail
            obtain ⟨cap, hcap⟩ : ∃ cap, Hid (cap = grownCap wr s.size 0 5) := ⟨_, rfl⟩
            rw [← hcap.out] at hrb hge ⊢
            have hb0 : Below wr.heap.size wr (wr.alloc (.cells (bytesRow s cap) 5 ((bytesRow s cap).size, (bytesRow s cap).size + 1))).drew := ((Below.refl _ _).alloc (Nat.le_refl _) _).drew
            obtain ⟨wb, hwb⟩ : ∃ wb, Hid (wb = (wr.alloc (.cells (bytesRow s cap) 5 ((bytesRow s cap).size, (bytesRow s cap).size + 1))).drew) := ⟨_, rfl⟩
            rw [← hwb.out] at hrb hb0 ⊢
            obtain ⟨BB, hBB⟩ : ∃ BB, Hid (BB = wr.heap.size) := ⟨_, rfl⟩
            rw [← hBB.out] at hrb ⊢
            have hBwb := HBWR.out.trans (hb0.mono HBWR.out.size)
            have Tb := hT.below hBwb
            have cPBb : wb.cell? ⟨PB, 0, none⟩ = some (.slice ap ps.length cp) := by simp [World.cell?, Tb.cp]
            have HBWB := Lib.hid hBwb
            have HRB := Lib.hid hrb
            have HHB0 := Lib.hid hb0
            clear hcv hrb hBwb hb0
            go_wp2_with fail
            clear cPBb
            go_loopw [117] (fun y wr' => ∃ i : Nat, y = .int .i64 i ∧ i ≤ ps.length ∧ Below wb.heap.size wb wr') (fun y _ => ps.length - (intOf y).toNat)
            case atStart => exact ⟨0, rfl, Nat.zero_le _, Below.refl _ _⟩
            case round =>
              obtain ⟨i, rfl, hi2, hbr⟩ := hrel
              have hBr := HBWB.out.trans (hbr.mono HBWB.out.size)
              by_cases hil2 : i < ps.length
              · have hil' : (i : Int) < ps.length := by omega
                obtain ⟨wd1, q1, q2, q3, q4, q5⟩ := next_law s i ps[i] (by rw [HE.out]; exact List.getElem?_eq_getElem hil2)
                rw [HE.out] at q4
                rw [← hxs.out] at q5
                obtain ⟨b, o, rfl, hb1, hcb⟩ := (rdp.below hBr).cell i hil2
                obtain ⟨b2, o2, rfl, hb2, hcb2⟩ := (rdl.below hBr).cell i hil2
                have k1 := hcb i hil2
                have k2 := hcb2 i hil2
                have hg1 : gt (ps.map fun x => (x.1 : Int)) i = ((ps[i]).1 : Int) := by rw [gt_lt (by rw [List.length_map]; exact hil2), List.getElem_map]
                have hg2 : gt (ps.map fun x => x.2) i = (ps[i]).2 := by rw [gt_lt (by rw [List.length_map]; exact hil2), List.getElem_map]
                rw [hg1] at k1
                rw [hg2] at k2
                obtain ⟨y, hyy⟩ : ∃ y, Hid (y = ps[i]) := ⟨_, Lib.hid rfl⟩
                rw [← hyy.out] at k1 k2 q2 q3 q4 q5
                obtain ⟨p, rr⟩ := y
                simp only [] at k1 k2 q2 q3 q4 q5
                have hC := next_calls (p : Int) wr (some ⟨BB, 0, none⟩) s.size cap xs (HRB.out.below hbr) (HT.out.below (hb.trans (hBr.mono hb.size))) (by omega)
                have HC := Lib.hid hC
                have HN1 : Hid (∀ w9, Below wr.heap.size wr w9 → w9.cell? ⟨PB, 0, none⟩ = some (.slice (some ⟨b, o, none⟩) ps.length cp) ∧ w9.cell? ⟨LB, 0, none⟩ = some (.slice (some ⟨b2, o2, none⟩) ps.length cl) ∧ w9.cell? ⟨b2, o2 + i, none⟩ = some (.int .i32 rr) ∧ (i + 1 < ps.length → w9.cell? ⟨b, o + (i + 1), none⟩ = some (.int .i64 ((p : Int) + wd1)))) := Lib.hid (fun w9 b9 => by
                  have B9 := hBr.trans (b9.mono hBr.size)
                  have T9 := hT.below B9
                  refine ⟨by simp [World.cell?, T9.cp], by simp [World.cell?, T9.cl], (b9.cell (p := ⟨b2, o2 + i, none⟩) hb2).trans k2, fun h1 => ?_⟩
                  have h2 := (b9.cell (p := ⟨b, o + (i + 1), none⟩) hb1).trans (hcb (i + 1) h1)
                  rw [h2, gt_lt (by rw [List.length_map]; exact h1), List.getElem_map]
                  rw [List.getElem?_eq_getElem h1] at q4
                  simp only [Option.map_some, Option.getD_some] at q4
                  rw [q4]
                  push_cast
                  rfl)
                have hend : ¬ i + 1 < ps.length → (s.size : Int) = (p : Int) + wd1 := fun h1 => by
                  rw [List.getElem?_eq_none (by omega)] at q4
                  simp only [Option.map_none, Option.getD_none] at q4
                  omega
                have e0 : (p : Int) + wd1 - p = wd1 := by omega
                clear hC hcb hcb2 hg1 hg2 k2 q4
                have hiN : (i : Int) ≤ 1048576 := by omega
                have hrle := rdp.le
                have hrlm := rdp.cap_le
                rcases q5 with q5 | ⟨hr5, hw1, q5 | q5⟩
                all_goals
                  rw [q5] at HC
                  have Q5 := Lib.hid q5
                  clear q5
                  have HEND := Lib.hid hend
                  clear hend
                  by_cases hnx : i + 1 < ps.length
                  · have hnx' : (i : Int) + 1 < ps.length := by omega
                    go_wp2_with fail
                    refine HC.out.mono ?_
                    rintro E w9 ⟨rfl, b9⟩
                    obtain ⟨c9, d9, e9, f9⟩ := HN1.out w9 b9
                    replace f9 := f9 hnx
                    have HB9 := Lib.hid (hbr.trans (b9.mono hbr.size))
                    clear HC HN1 b9
                    (try subst hr5)
                    (try subst hw1)
                    go_wp2_with fail
                    go_roundw
                    case rel => exact ⟨i + 1, by go_num, by omega, HB9.out⟩
                    case measure => simp [RowKit.intOf]; omega
                  · have hnx' : ¬ (i : Int) + 1 < ps.length := by omega
                    have hsz2 := HEND.out hnx
                    have hsz3 : (s.size : Int) - p = wd1 := by omega
                    go_wp2_with fail
                    refine HC.out.mono ?_
                    rintro E w9 ⟨rfl, b9⟩
                    obtain ⟨c9, d9, e9, _⟩ := HN1.out w9 b9
                    have HB9 := Lib.hid (hbr.trans (b9.mono hbr.size))
                    clear HC HN1 b9
                    (try subst hr5)
                    (try subst hw1)
                    clear hsz2
                    go_wp2_with fail
                    go_roundw
                    case rel => exact ⟨i + 1, by go_num, by omega, HB9.out⟩
                    case measure => simp [RowKit.intOf]; omega
              · obtain rfl : i = ps.length := by omega
                have hfin : ∀ W', Below wr.heap.size wr W' → W'.cell? ⟨LB, 0, none⟩ = some (.slice al ps.length cl) ∧ W'.cell? ⟨P0, 0, none⟩ = some (.bool false) ∧ W'.frozen? ⟨P0, 0, none⟩ = false ∧ Below wL.heap.size wL W' ∧ (W'.setCell ⟨P0, 0, none⟩ (.bool true)).cell? ⟨LB, 0, none⟩ = some (.slice al ps.length cl) := fun W' b' => by
                  have B9 := hBr.trans (b'.mono hBr.size)
                  have T9 := hT.below B9
                  have h9 : W'.heap[P0]? = _ := (B9.block P0 (by have := hNB.out; omega)).trans hy
                  have l9 : (W'.setCell ⟨P0, 0, none⟩ (.bool true)).heap[LB]? = _ := ((Fr.set (Fr.refl (fun j => j = P0) W') P0 0 (.bool true) rfl).block LB (Array.getElem?_eq_some_iff.1 T9.cl).1 (fun k => by have k : LB = P0 := k; omega)).trans T9.cl
                  exact ⟨by simp [World.cell?, T9.cl], by simp [World.cell?, h9], by simp [World.frozen?, h9], B9, by simp only [World.cell?, l9]; rfl⟩
                have bd1 : Below wr.heap.size wr wr.drew := (Below.refl _ _).drew
                have HFIN := Lib.hid hfin
                clear hfin
                go_wp2_with fail
                go_region_held3 (fun W' => W'.cell? ⟨LB, 0, none⟩ = some (.slice al ps.length cl)) (first | assumption | exact (HFIN.out _ bd1).1 | go_keep) (first
                  | (go_at_call 15; refine (runes_calls s _ (by omega)).mono ?_; rintro e wz ⟨vz, rfl, hrz, bz⟩; obtain ⟨az, cz, hvz, _⟩ := hrz.rd; rw [HRS.out, List.length_map] at hvz; subst hvz; obtain ⟨m1, m2, m3, m4, m5⟩ := HFIN.out wz (bd1.trans (bz.mono bd1.size))))
                have K1 := (HBD.out.block D (Array.getElem?_eq_some_iff.1 HKC.out).1).trans HKC.out
                have K2 := ((hdr.below _).block D (Array.getElem?_eq_some_iff.1 K1).1).trans K1
                have K3 := (HHB0.out.block D (Array.getElem?_eq_some_iff.1 K2).1).trans K2
                have K4 := (hbr.block D (Array.getElem?_eq_some_iff.1 K3).1).trans K3
                have K5 := ((bd1.trans (bz.mono bd1.size)).block D (Array.getElem?_eq_some_iff.1 K4).1).trans K4
                have K6 := (KeepsOthers.setCell wz ⟨P0, 0, none⟩ (.bool true)).same D _ K5 rfl
                have hbz := (hb.trans (m4.mono hb.size)).setCell (p := ⟨P0, 0, none⟩) (by rw [hP0.out]; exact Nat.le_refl _) (.bool true)
                have hDw : w.heap.size ≤ D := by have := hb.size; simp at hD; omega
                have c8 : (wz.setCell ⟨P0, 0, none⟩ (.bool true)).cell? ⟨P0, 0, none⟩ = some (.bool true) := World.cell?_setCell_same' _ _ _ (by rw [m2]; rfl)
                clear K1 K2 K3 K4 K5 m1 m2 m3 m5 hrz
                go_wp2_with fail
                refine ⟨by simp, .inl ⟨_, _, rfl, run_takeDeferred K6, ?_⟩⟩
                have k0 := cell_kept c8 (grownBy_putObj' _ D (.deferred none)) (fun r e => by cases e; exact ⟨_, K6, rfl⟩)
                refine ⟨.bool true, ?_, rfl, hbz.trans (belowK_b (w := w) (Nat.le_refl _) _ D _ _ hDw K6 rfl rfl)⟩
                simp [results, Tryd.f4, go_sem, k0]
      case hstop =>
        rintro D c pre W _ hp hn _
        exact absurd hp hn
end Go.Proofs.YtbbfifaojepjiaaDoor
