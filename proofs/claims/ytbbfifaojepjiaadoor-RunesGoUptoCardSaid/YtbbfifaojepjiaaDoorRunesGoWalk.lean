/- The walk of gimletlaw01.RunesGo. -/
import Derived.Test.YtbbfifaojepjiaaDoorThrough
import Derived.Test.YtbbfifaojepjiaaDoorConvR
import Derived.Test.YtbbfifaojepjiaaDoorAwakeA
import Derived.Deep.RegionWith
import Derived.Deep.RegionHeld
import Derived.Deep.CutRange
import Derived.Deep.CutBlock
namespace Gim
open Go Go.RowKit
/-- 'append(out, list...)' to a slice of numbers that the call owns -/
theorem append_list {P : Program} (w : World) {ops : Array Oper} {rest : List Oper} {o : Oper} {a : Act} {Q : Exit → Act → World → Prop} (hg : o.guard = none) (s x : Operand) (t : TypeId)
    (ho : o.op = .call { callee := .builtin .append, args := #[s, x], argTypes := #[t, t] }) (B : Nat) (e : TypeId) (k : IntKind) (bytes : Nat)
    (hinfo : (P.info? e).map (fun i => (i.zero, i.size, i.bytes)) = some (some (.int k 0), 1, bytes)) (ht : P.underlying t = some (.slice e))
    (v : Value) (xs : List Int) (hs : a.eval s = v) (hrow : Row w B e k v xs) (ao : Option Addr) (n cap : Nat) (ys : List Int) (hx : a.eval x = .slice ao n cap) (rd : Rd w k ao n cap ys) (hnil : ao = none → n = 0 ∧ cap = 0)
    (hlen : xs.length + n < 1099511627776) (hby : bytes ≤ 8) (hB : B ≤ w.heap.size)
    (hK : ∀ v' w', Row w' B e k v' (xs ++ ys) → w.grownBy w' v.ownBlock → wpList P ops Q rest (a.put o.dst v') w') :
    wpList P ops Q (o :: rest) a w := by
  obtain ⟨i0, hi, hz0, hz1, hz2⟩ := info_parts hinfo
  have hyl := rd.len
  cases ao with
  | none =>
    obtain ⟨rfl, rfl⟩ := hnil rfl
    obtain rfl : ys = [] := List.length_eq_zero_iff.1 hyl
    refine wpList_plain hg fun K hK' => ?_
    unfold Oper.wp execOp
    simp only [ho, resolve, invoke, builtin, Sem.run_bind, Sem.run_pure, Result.andThen_ok, List.map_toArray, List.map_cons, List.map_nil, hs, hx, run_append_owned_none (P := P) (w := w) B t o.type e i0 1 ht hi v xs.length (xs.map (Value.int k)) hrow]
    exact hK' _ _ (hK v w (by rw [List.append_nil]; exact hrow) ⟨rfl, rfl, rfl, Nat.le_refl _, fun _ _ _ => rfl⟩)
  | some ad =>
    refine wpList_append_own _ hg s x t ho B e i0 (.int k 0) 1 bytes ht hi hz0 hz1 hz2 rfl (by decide) v xs.length (xs.map (Value.int k)) hs hrow ad n cap (ys.map (Value.int k)) hx (by rw [List.length_map, hyl, Nat.mul_one])
      (fun j u hj => ?_) (fun x hx => by obtain ⟨y, _, rfl⟩ := List.mem_map.1 hx; rfl) (by unfold maxLen; omega) (by have := Nat.mul_le_mul_left (xs.length + n) hby; omega) hB ?_
    · have hj' : j < n := by
        have := (List.getElem?_eq_some_iff.1 hj).1
        rwa [List.length_map, hyl] at this
      obtain ⟨b, o', h1, h2, h3⟩ := rd.cell j hj'
      cases h1
      have h4 := h3 j hj'
      have h5 : w.cell? ((⟨b, o', none⟩ : Addr).add j) = w.cell? ⟨b, o' + j, none⟩ := by by_cases h0 : j = 0 <;> simp [Addr.add, h0]
      rw [h5, h4]
      rw [List.getElem?_map, List.getElem?_eq_getElem (by omega)] at hj
      rw [gt_lt (by omega)]
      simpa using hj
    · intro v' w' h1 h2 _
      refine hK v' w' ?_ h2
      unfold Row
      simpa [hyl] using h1
theorem Row.at {w : World} {B : Nat} {e : TypeId} {k : IntKind} {ao : Option Addr} {n cap : Nat} {xs : List Int} (h : Row w B e k (.slice ao n cap) xs) (hn : 0 < n) : ∃ g, ao = some ⟨g, 0, none⟩ := by
  rcases h.2 with ⟨h', _⟩ | ⟨g', cap', cur, h', _⟩
  · simp at h'
    omega
  · simp only [Value.slice.injEq] at h'
    exact ⟨g', h'.1⟩
end Gim
namespace Go.Proofs.YtbbfifaojepjiaaDoor
open Go.RowKit Go.Shelf Gim
attribute [local go_sem] Oper.semAt_some
theorem join_calls (w : World) (ao : Option Addr) (n cap : Nat) (xs : List Int) (h : Rd w .i32 ao n cap xs) :
    Calls Tryd.prog 13 #[.slice ao n cap] w fun e w' => e = .returned (.string (runesBytes xs)) ∧ w' = w := by
  have hcv := h.conv (P := Tryd.prog) (src := 36) (dst := 9) (e := 21) Tryd.underlying36 Tryd.underlying21 Tryd.underlying9
  go_enter Tryd.func13, Tryd.ntmps13
  go_wp2
  go_ret
  exact ⟨rfl, rfl⟩
theorem info_intG : (Tryd.prog.info? 3).map (fun i => (i.zero, i.size, i.bytes)) = some (some (.int .i64 0), 1, 8) := by kernel_rfl
theorem row_typeG {w : World} {B : Nat} {e : TypeId} {k : IntKind} {v : Value} {xs : List Int} (h : Row w B e k v xs) : ∀ g, v.ownBlock = some g → ∃ cur, w.heap[g]? = some (.cells cur e) := by
  intro g hg
  rcases h.2 with ⟨h1, _⟩ | ⟨g', cap, cur, h1, h2, h3, _⟩
  · rw [h1] at hg; cases hg
  · rw [h1] at hg
    cases hg
    exact ⟨cur, h3⟩
theorem row_neG {w : World} {B B' : Nat} {v v' : Value} {xs ys : List Int} (h : Row w B 3 .i64 v xs) (k : Row w B' 21 .i32 v' ys) : ∀ g, v.ownBlock = some g → v'.ownBlock ≠ some g := by
  intro g hg hk
  obtain ⟨c1, h1⟩ := row_typeG h g hg
  obtain ⟨c2, h2⟩ := row_typeG k g hk
  rw [h1] at h2
  injection h2 with h2
  injection h2 with _ h3
  exact absurd h3 (by decide)
set_option maxRecDepth 100000 in
set_option maxHeartbeats 8000000 in
theorem runesGo_walk (s : ByteArray) (la : Option Addr) (ln lc : Nat) (list : List Int) (w : World) (hs : s.size ≤ 1048576) (rd : Rd w .i32 la ln lc list) (hnil : la = none → ln = 0 ∧ lc = 0) (_hwf : ∀ x ∈ list, (Lit.int .i32 x).wf = true) (hl : ln ≤ 1048576) (hT : U8 w) :
    Calls Tryd.prog 5 #[.string s, .slice la ln lc] w fun e w' => e = .returned (.bool true) ∧ Below w.heap.size w w' := by
  have hll := rd.len
  go_enter Tryd.func5, Tryd.ntmps5
  go_wp2_with fail
  refine (awake_calls _ hT).mono ?_
  rintro e w1 ⟨rfl, hb1⟩
  have r2 : Row (w1.alloc (.cells #[] 21)) w.heap.size 21 .i32 (.slice (some ⟨w1.heap.size, 0, none⟩) 0 0) [] := by
    have h := World.ownsRow_lit (base := w.heap.size) (e := 21) (size := 1) w1 #[] 0 hb1.size (by unfold maxLen; omega) rfl
    exact h
  have b2 := hb1.alloc hb1.size (Obj.cells #[] 21)
  have rd2 := rd.below b2
  go_upto_region 4 with (first | (at_builtin; go_loud (refine append_list _ rfl _ _ 36 rfl w.heap.size 21 .i32 4 info_rune Tryd.underlying36 _ _ rfl r2 la ln lc list rfl rd2 hnil (by rw [List.length_nil]; omega) (by decide) b2.size ?_; intro v3 w3 hrow3 hgrow3)))
  have b3 : Below w.heap.size w w3 := b2.grown hgrow3 b2.size (fun k hk => by cases hk; exact hb1.size)
  rw [List.nil_append] at hrow3
  clear r2 hgrow3 rd2
  go_upto_region 5 with (at_builtin; refine append2 _ rfl _ _ 36 rfl w.heap.size 21 .i32 4 info_rune Tryd.underlying36 _ _ rfl hrow3 _ _ rfl (by omega) (by decide) b3.size ?_; intro v4 w4 hrow4 hgrow4)
  have b4 : Below w.heap.size w w4 := b3.grown hgrow4 b3.size (fun k hk => (hrow3.lt k hk).1)
  obtain ⟨a4, c4, hv4, rd4⟩ := hrow4.rd
  have hlen4 : (list ++ [5, 6]).length = ln + 2 := by simp [hll]
  rw [hlen4] at hv4 rd4
  subst hv4
  obtain ⟨g4, o4, rfl, hg4, hc4⟩ := rd4.cell ln (by omega)
  have rdj : Rd w4 .i32 (some ⟨g4, o4, none⟩) ln c4 list := by
    have h := rd4.take (m := ln) (by omega)
    rwa [List.take_append_of_le_length (by omega), List.take_of_length_le (by omega)] at h
  have rdl4 := rd.below b4
  have k5 := hc4 ln (by omega)
  have k6 := hc4 (ln + 1) (by omega)
  rw [show gt (list ++ [5, 6]) ln = 5 by simp [gt, hll]] at k5
  rw [show gt (list ++ [5, 6]) (ln + 1) = 6 by simp [gt, ← hll]] at k6
  have hcle := rd4.le
  have hclm := rd4.cap_le
  have hl4 : ∀ i, i < ln → w4.cell? ⟨g4, o4 + i, none⟩ = some (.int .i32 (gt list i)) := fun i hi => by
    rw [hc4 i (by omega), gt_lt (by rw [List.length_append]; omega), gt_lt (by omega), List.getElem_append_left (by omega)]
  have hcv : ∀ m, (convert 36 9 (.slice la ln lc)).run Tryd.prog (w4.drewN m) = _ := fun m => (rdl4.drewN m).conv (e := 21) Tryd.underlying36 Tryd.underlying21 Tryd.underlying9
  have hcv0 := rdl4.conv (P := Tryd.prog) (src := 36) (dst := 9) (e := 21) Tryd.underlying36 Tryd.underlying21 Tryd.underlying9
  have HJ := Lib.hid rdj
  have HL4 := Lib.hid hl4
  clear hc4 hrow4 hgrow4 hl4 rdj hrow3
  go_quiet ((go_at_call 13; exact Calls.quiet_of_same (join_calls _ _ _ _ _ (HJ.out.drewN _))))
  have d5 : Drew w4 (w4.drewN nq) := (Drew.refl _).drewN _
  obtain ⟨w5, hw5⟩ : ∃ w5, w4.drewN nq = w5 := ⟨_, rfl⟩
  rw [hw5] at d5 ⊢
  clear hw5
  have b5 := b4.trans (d5.below _)
  have HJ5 := Lib.hid (HJ.out.below (d5.below _))
  have HR5 := Lib.hid (rdl4.below (d5.below _))
  clear hcv hcv0 k5 k6 HL4 HJ rdl4 rd4 d5 hg4 b4 b3 b2 hb1 hnil hlen4
  go_wp2_with fail
  go_loopw [6] (fun y wr => ∃ i : Nat, y = .int .i64 i ∧ i ≤ ln ∧ Drew w5 wr) (fun y _ => ln - (intOf y).toNat)
  case atStart => exact ⟨0, rfl, Nat.zero_le _, Drew.refl _⟩
  case round =>
    obtain ⟨i, rfl, hin, hd⟩ := hrel
    by_cases h1 : i < ln
    · obtain ⟨b, o, hpe, hb, hc⟩ := (HJ5.out.below (hd.below _)).cell i h1
      obtain ⟨b2, o2, rfl, hb2, hc2⟩ := (HR5.out.below (hd.below _)).cell i h1
      cases hpe
      have k1 := hc i h1
      have k2 := hc2 i h1
      obtain ⟨x, hx⟩ : ∃ x, x = gt list i := ⟨_, rfl⟩
      rw [← hx] at k1 k2
      clear hc hc2 hx
      go_wp2_with fail
      go_quiet (fail)
      go_wp2_with fail
      go_roundw
      case rel => exact ⟨i + 1, by go_num, by omega, hd.drewN _⟩
      case measure => simp [intOf]; omega
    · have bw := b5.trans (hd.below _)
      clear HJ5 HR5 hd
      obtain ⟨w6, hw6⟩ : ∃ w6, w6 = wr := ⟨_, rfl⟩
      rw [← hw6] at bw ⊢
      clear hw6
      go_wp2_with fail
      refine (runes_calls s _ (by omega)).mono ?_
      rintro e w7 ⟨v7, rfl, hr7, hb7⟩
      have b7 := bw.trans (hb7.mono bw.size)
      have l7 : ∀ g, v7.ownBlock = some g → g < w7.heap.size := fun g hg => (hr7.lt g hg).2
      go_upto_region 14 with (refine wpList_runes _ rfl _ 9 36 21 rfl s rfl Tryd.underlying9 Tryd.underlying36 Tryd.underlying21 (by omega) ?_; intro v8 w8 hr8 hg8)
      have b78 : Below w7.heap.size w7 w8 := (Below.refl _ _).grown hg8 (Nat.le_refl _) (fun k hk => by cases hk)
      have b8 := b7.trans (b78.mono b7.size)
      have l8 : ∀ g, v8.ownBlock = some g → g < w8.heap.size := fun g hg => (hr8.lt g hg).2
      have r78 := hr7.stays b78
      go_wp2_with fail
      refine (runes_calls s _ (by omega)).mono ?_
      rintro e w9 ⟨v9, rfl, hr9, b89⟩
      have b9 := b8.trans (b89.mono b8.size)
      have r79 := r78.stays b89
      have r89 := hr8.stays b89
      have h78 : w7.heap.size ≤ w8.heap.size := b78.size
      have h6 : w.heap.size ≤ w6.heap.size := bw.size
      clear hr7 hr8 r78 hg8 b89 b78 b8 b7 bw hb7
      obtain ⟨N, hN⟩ : ∃ N, Hid (N = (rs s).length) := ⟨_, Lib.hid rfl⟩
      obtain ⟨a7, c7, rfl, -⟩ := r79.rd
      obtain ⟨a8, c8, rfl, -⟩ := r89.rd
      obtain ⟨a9, c9, rfl, -⟩ := hr9.rd
      rw [← show N = _ from hN] at r79 r89 hr9 l7 l8 ⊢
      have hNl : N < 1099511627776 := by have := rs_length s; have : N = _ := hN; omega
      go_wp2_with fail
      go_loopw [10] (fun y wr => ∃ (i : Nat) (xs : List Int), y = .int .i64 i ∧ i ≤ N ∧ Row wr w6.heap.size 21 .i32 (.slice a7 N c7) xs ∧ Hid (∀ j, i ≤ j → gt xs j = gt (rs s) j) ∧ Row wr w7.heap.size 21 .i32 (.slice a8 N c8) (rs s) ∧ Row wr w8.heap.size 21 .i32 (.slice a9 N c9) (rs s) ∧ Below w.heap.size w wr) (fun y _ => N - (intOf y).toNat)
      case atStart => exact ⟨0, rs s, rfl, Nat.zero_le _, r79, Lib.hid (fun _ _ => rfl), r89, hr9, b9⟩
      case round =>
        obtain ⟨i, xs, rfl, hin, q7, HX, q8, q9, bq⟩ := hrel
        by_cases h1 : i < N
        · obtain ⟨g7, rfl⟩ := q7.at (by omega)
          obtain ⟨g8, rfl⟩ := q8.at (by omega)
          obtain ⟨g9, rfl⟩ := q9.at (by omega)
          have x7 := q7.length
          have x8 := q8.length
          have m7 : g7 < w7.heap.size := l7 g7 rfl
          have m6 := q7.lt g7 rfl
          have m8 := q8.lt g8 rfl
          have m9 := q9.lt g9 rfl
          have k7 := q7.cell (j := i) (by omega)
          rw [HX.out i (Nat.le_refl _)] at k7
          have k8 := q8.cell (j := i) (by omega)
          have k9 := q9.cell (j := i) (by omega)
          obtain ⟨x, hx⟩ : ∃ x, gt (rs s) i = x := ⟨_, rfl⟩
          rw [hx] at k7 k8 k9
          have y7 := q7.rdAt.le
          have z7 := q7.rdAt.cap_le
          have y8 := q8.rdAt.le
          have z8 := q8.rdAt.cap_le
          have y9 := q9.rdAt.le
          have z9 := q9.rdAt.cap_le
          have hx9 := Lib.hid hx
          clear hx
          go_wp2_with fail
          go_quiet (fail)
          obtain ⟨wq, hwq⟩ : ∃ wq, wr.drewN nq = wq := ⟨_, rfl⟩
          have p7 := q7.drewN nq
          have p8 := q8.drewN nq
          have p9 := q9.drewN nq
          have bp := bq.trans (((Drew.refl _).drewN nq).below _)
          have e7 := (q7.drewN nq).free i
          have j7 := (q7.drewN nq).cell (j := i) (by omega)
          rw [hwq] at p7 p8 p9 bp e7 j7 ⊢
          clear hwq k7 k8 k9 q7 q8 q9 bq
          have fr := Fr.set (Fr.refl (fun j => j = g7) wq) g7 i (.int .i32 0) rfl
          have t7 := p7.set' i 0
          have t8 := p8.fr fr (fun g hg k => by cases hg; have k : g8 = g7 := k; omega)
          have t9 := p9.fr fr (fun g hg k => by cases hg; have k : g9 = g7 := k; omega)
          have bt := bp.setCell (p := ⟨g7, i, none⟩) (by show w.heap.size ≤ g7; omega) (.int .i32 0)
          have k8 := t8.cell (j := i) (by omega)
          have k9 := t9.cell (j := i) (by omega)
          rw [hx9.out] at k8 k9
          have HX2 := Lib.hid (show ∀ j, i + 1 ≤ j → gt (xs.set i 0) j = gt (rs s) j from fun j hj => by
            rw [← HX.out j (by omega)]
            simp [gt, List.getElem?_set_ne (show i ≠ j by omega)])
          clear fr
          go_wp2_with fail
          go_quiet (fail)
          go_wp2_with fail
          go_roundw
          case rel => exact ⟨i + 1, _, by go_num, by omega, t7.drewN _, HX2, t8.drewN _, t9.drewN _, bt.trans (((Drew.refl _).drewN _).below _)⟩
          case measure => simp [intOf]; omega
        · clear q7 HX q8 q9
          go_wp2_with fail
          refine ((callsIn_wide (n := 5)).1 (all_in Fence.wide 5 trivial rfl s _)).mono ?_
          rintro E wx ⟨rfl, rfl⟩
          have bA := bq.alloc bq.size (Obj.cells #[.string s] 9)
          have yA := heap_alloc_new wr (Obj.cells #[.string s] 9)
          obtain ⟨wA, hwA⟩ : ∃ wA, wr.alloc (Obj.cells #[.string s] 9) = wA := ⟨_, rfl⟩
          obtain ⟨Bs, hBs⟩ : ∃ Bs, wr.heap.size = Bs := ⟨_, rfl⟩
          have gBs : w.heap.size ≤ Bs := by rw [← hBs]; exact bq.size
          rw [hwA] at bA yA ⊢
          rw [hBs] at yA ⊢
          clear hwA hBs bq
          have hnil : ∀ (W : World) (p : Value), (binOp .eql 38 (.func (.func 28) #[] #[p]) .nilFunc).run Tryd.prog W = .ok (.bool false) W := fun _ _ => by kernel_rfl
          obtain ⟨IT, hIT⟩ : ∃ IT, Hid (IT = wA.heap.size) := ⟨_, Lib.hid rfl⟩
          have hIT0 := World.iter_heap wA s 0
          have bIT := bA.alloc bA.size (Obj.stringIter s 0)
          have sIT : wA.heap.size + 1 = (wA.alloc (Obj.stringIter s 0)).heap.size := by simp
          have lBs := (Array.getElem?_eq_some_iff.1 yA).1
          have yIT : (wA.alloc (Obj.stringIter s 0)).heap[Bs]? = _ := (heap_alloc_old _ _ lBs).trans yA
          have gIT : w.heap.size ≤ wA.heap.size := bA.size
          rw [← show IT = _ from hIT] at hIT0 sIT lBs gIT
          have lBs := Lib.hid lBs
          have gBs := Lib.hid gBs
          have gIT := Lib.hid gIT
          clear bA yA
          go_wp2_with fail
          clear hnil
          try rw [← show IT = _ from hIT]
          go_loopw [12, 13] (fun vp vl wr => ∃ (pos : Nat) (ps : List (Nat × Int)), wr.heap[IT]? = some (.stringIter s pos) ∧ Row wr (IT + 1) 3 .i64 vp (ps.map fun x => (x.1 : Int)) ∧ Row wr (IT + 1) 21 .i32 vl (ps.map fun x => x.2) ∧ Below w.heap.size w wr ∧ wr.heap[Bs]? = some (Obj.cells #[.string s] 9) ∧ IT + 1 ≤ wr.heap.size ∧ Hid (ps ++ prAt s pos = prAt s 0)) (fun _ _ wr => s.size - wr.iterPos IT)
          case atStart => exact ⟨0, [], hIT0, World.ownsRow_nil _ _ _ _, World.ownsRow_nil _ _ _ _, bIT, yIT, Nat.le_of_eq sIT, Lib.hid rfl⟩
          case round =>
            obtain ⟨pos, ps, hit, rp, rl, hb, hy, hsz, H⟩ := hrel
            have hpos0 := iterPos_of hit
            by_cases hp : pos < s.size
            · obtain ⟨W1, hnx, hw1⟩ := next_some (P := Tryd.prog) hit hp
              have hwd := Lib.decode_width_pos s pos hp
              have hNN := H.out
              rw [prAt_next hp] at hNN
              have HN := Lib.hid (show (ps ++ [(pos, ((Utf8.decode s pos).1 : Int))]) ++ prAt s (pos + (Utf8.decode s pos).2) = prAt s 0 by rw [List.append_assoc]; exact hNN)
              have hlen : ps.length < 1099511627776 := by
                have h1 := congrArg List.length hNN
                have h2 := prAt_length s 0
                simp at h1
                omega
              have HWD := Lib.hid hwd
              obtain ⟨r, hr⟩ : ∃ r : Int, Hid (r = ((Utf8.decode s pos).1 : Int)) := ⟨_, rfl⟩
              rw [← hr.out] at HN
              simp only [← hr.out] at hnx
              have bW := hw1.below _ _ hb gIT.out
              have rp1 : Row W1 (IT + 1) 3 .i64 _ (ps.map fun x => (x.1 : Int)) := hw1.owns _ _ _ _ _ _ rp
              have rl1 : Row W1 (IT + 1) 21 .i32 _ (ps.map fun x => x.2) := hw1.owns _ _ _ _ _ _ rl
              have hit1 := hw1.it
              have hyW := (hw1.other Bs (by have := lBs.out; omega)).trans hy
              have hszW : IT + 1 ≤ W1.heap.size := by rw [hw1.size]; exact hsz
              clear hNN H hwd rp rl hb hy hsz
              go_upto_region 34 with (at_builtin; go_loud (refine append1 _ rfl _ _ 35 rfl (IT + 1) 3 .i64 8 info_intG Tryd.underlying35 _ _ rfl rp1 _ rfl (by rw [List.length_map]; exact hlen) (by decide) hszW ?_; intro vp2 w2 rp2 hg2))
              have F2 : Fr (fun j => IT + 1 ≤ j) W1 w2 := (Fr.refl _ _).grown hg2 (fun g hg => .inl (rp1.lt g hg).1)
              have rl2 := rl1.fr ((Fr.refl _ _).grown hg2 (fun g hg => .inl hg)) (fun g hg k => row_neG rp1 rl1 g k hg)
              have hs2 := F2.size
              clear hg2
              go_wp2_with (at_builtin; refine append1 _ rfl _ _ 36 rfl (IT + 1) 21 .i32 4 info_rune Tryd.underlying36 _ _ rfl rl2 _ rfl (by rw [List.length_map]; exact hlen) (by decide) (Nat.le_trans hszW hs2) ?_; intro vl3 w3' rl3 hg3)
              have F3 : Fr (fun j => IT + 1 ≤ j) W1 w3' := F2.then ((Fr.refl _ _).grown hg3 (fun g hg => .inl (rl2.lt g hg).1)) (fun j _ k => k)
              have rp3 := rp2.fr ((Fr.refl _ _).grown hg3 (fun g hg => .inl hg)) (fun g hg k => row_neG rp2 rl2 g hg k)
              have hit3 := (F3.block IT (by omega) (fun k => by omega)).trans hit1
              have hy3 := (F3.block Bs (by have := lBs.out; omega) (fun k => by have := lBs.out; omega)).trans hyW
              have hb3 : Below w.heap.size w w3' := bW.trans (F3.below bW.size (fun j k => by have := gIT.out; omega))
              have hs3 := Nat.le_trans hszW F3.size
              clear hg3 F2 F3
              go_wp2_with fail
              go_roundw
              case rel => exact ⟨_, ps ++ [(pos, r)], hit3, by simpa using rp3, by simpa using rl3, hb3, hy3, hs3, HN⟩
              case measure => have := HWD.out; rw [iterPos_of hit3, hpos0]; omega
            · obtain ⟨wL, rfl⟩ : ∃ wL, wL = wr := ⟨_, rfl⟩
              have hnx : ∀ ty, (Instr.next (.pointer (some ⟨IT, 0, none⟩)) true ty).run Tryd.prog wL = _ := fun ty => Lib.run_next_end_at wL IT s pos ty hit hp
              have HE := Lib.hid (H.out.symm.trans (by rw [prAt_end hp, List.append_nil]) : prAt s 0 = ps)
              clear H
              obtain ⟨ap, cp, rfl, rdp⟩ := rp.rd
              obtain ⟨al, cl, rfl, rdl⟩ := rl.rd
              rw [List.length_map] at rdp rdl ⊢
              try rw [List.length_map]
              obtain ⟨M, hM⟩ : ∃ M, Hid (M = ps.length) := ⟨_, Lib.hid rfl⟩
              rw [← show M = _ from hM] at rdp rdl ⊢
              have hMl : M ≤ 1048576 := by have h1 : M = _ := hM; have h2 := HE.out; have h3 := prAt_length s 0; rw [h1, ← h2]; omega
              clear rp rl
              go_wp2_with fail
              have cB : wL.cell? ⟨Bs, 0, none⟩ = some (.string s) := by simp [World.cell?, hy]
              have lB : Bs < wL.heap.size := (Array.getElem?_eq_some_iff.1 hy).1
              have hLs : ps = prAt s 0 := HE.out.symm
              rw [show ((M : Int) / 2) = ((M / 2 : Nat) : Int) from rfl]
              refine (through_calls wL Bs s (by omega) lB cB ps hLs ap M cp rdp al cl rdl (M / 2) (by omega)).mono ?_
              rintro E wM ⟨rfl, bM⟩
              have cB2 : wM.cell? ⟨Bs, 0, none⟩ = some (.string s) := (bM.cell (p := ⟨Bs, 0, none⟩) lB).trans cB
              have T2 := Lib.hid (through_calls wM Bs s (by omega) (Nat.lt_of_lt_of_le lB bM.size) cB2 ps hLs ap M cp (rdp.below bM) al cl (rdl.below bM) M (Nat.le_refl _))
              have bF := hb.trans (bM.mono hb.size)
              have BF := Lib.hid bF
              clear cB cB2 lB hLs bM rdp rdl hb bF hy
              go_wp2_with fail
              refine T2.out.mono ?_
              rintro E wN ⟨rfl, bN⟩
              have bG := BF.out.trans (bN.mono BF.out.size)
              clear T2 BF bN
              go_wp2_with fail
              go_ret
              exact ⟨rfl, bG⟩
end Go.Proofs.YtbbfifaojepjiaaDoor
