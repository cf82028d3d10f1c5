/- A Hunt and the document's, side by side; the walk of gimletlaw16.one. -/
import Derived.Test.YtgajinnbmnnccaaRef16D
import Derived.Deep.CutRange
import Derived.Deep.CutBlock
import Derived.Deep.RegionHeld3
namespace Go.Proofs.Ytgajinnbmnnccaa
open Go.RowKit Gim
/-- the blocks of the two -/
def own (H M : Nat) (tv bv tv2 cv : Value) (j : Nat) : Prop := j = H ∨ j = M ∨ tv.ownBlock = some j ∨ bv.ownBlock = some j ∨ tv2.ownBlock = some j ∨ cv.ownBlock = some j
/-- a Hunt in block H and the document's in block M that know the same -/
structure Pair (w : World) (B bd H M : Nat) (c : Int) (N : Nat) (s : ByteArray) (tv bv tv2 cv : Value) (l : List Int) (whole : Bool) : Prop where
  st : St w (H + 1) H c N (askedT c s) tv bv l whole
  mm : Mm w B M c N (rs s) tv2 cv l whole
  ne : ∀ g, bv.ownBlock = some g → cv.ownBlock ≠ some g
  lo : B ≤ H ∧ B ≤ M
  c0 : 0 ≤ c
  c8 : c ≤ 8
  sz : s.size ≤ 1048576
  len : l.length ≤ bd
theorem Pair.lt {w : World} {B bd H M : Nat} {c : Int} {N : Nat} {s : ByteArray} {tv bv tv2 cv : Value} {l : List Int} {whole : Bool} (h : Pair w B bd H M c N s tv bv tv2 cv l whole) : ∀ j, own H M tv bv tv2 cv j → B ≤ j ∧ j < w.heap.size := by
  intro j hj
  have hl := h.st.lts
  have hM := (Array.getElem?_eq_some_iff.1 h.mm.hM).1
  have hlo := h.lo
  rcases hj with rfl | rfl | e | e | e | e
  · exact ⟨hlo.1, hl.1⟩
  · exact ⟨hlo.2, hM⟩
  · have := hl.2.1 j e; omega
  · have := hl.2.2 j e; omega
  · exact h.mm.ra.lt j e
  · exact h.mm.rc.lt j e
theorem Pair.frv {p : Nat → Prop} {w w' : World} {B bd H M : Nat} {c : Int} {N : Nat} {s : ByteArray} {tv bv tv2 cv : Value} {l : List Int} {whole : Bool} (h : Pair w B bd H M c N s tv bv tv2 cv l whole) (hf : Fr p w w') (ho : ∀ j, own H M tv bv tv2 cv j → ¬ p j) : Pair w' B bd H M c N s tv bv tv2 cv l whole :=
  ⟨h.st.frv hf (ho H (.inl rfl)) (fun g e => ho g (.inr (.inr (.inl e)))) (fun g e => ho g (.inr (.inr (.inr (.inl e))))), h.mm.frv hf (ho M (.inr (.inl rfl))) (fun g e => ho g (.inr (.inr (.inr (.inr (.inl e)))))) (fun g e => ho g (.inr (.inr (.inr (.inr (.inr e)))))), h.ne, h.lo, h.c0, h.c8, h.sz, h.len⟩
theorem Pair.fresh {w w' : World} {B bd H M : Nat} {c : Int} {N : Nat} {s : ByteArray} {tv bv tv2 cv : Value} {l : List Int} {whole : Bool} (h : Pair w B bd H M c N s tv bv tv2 cv l whole) (b : Below w.heap.size w w') : Pair w' B bd H M c N s tv bv tv2 cv l whole :=
  h.frv (Fr.of (p := fun _ => False) b) (fun _ _ x => x)
theorem Pair.drewN {w : World} {B bd H M : Nat} {c : Int} {N : Nat} {s : ByteArray} {tv bv tv2 cv : Value} {l : List Int} {whole : Bool} (h : Pair w B bd H M c N s tv bv tv2 cv l whole) (n : Nat) : Pair (w.drewN n) B bd H M c N s tv bv tv2 cv l whole := h.fresh ⟨rfl, rfl, rfl, Nat.le_refl _, fun _ _ => rfl⟩
theorem Pair.more {w : World} {B bd bd2 H M : Nat} {c : Int} {N : Nat} {s : ByteArray} {tv bv tv2 cv : Value} {l : List Int} {whole : Bool} (h : Pair w B bd H M c N s tv bv tv2 cv l whole) (hb : bd ≤ bd2) : Pair w B bd2 H M c N s tv bv tv2 cv l whole :=
  ⟨h.st, h.mm, h.ne, h.lo, h.c0, h.c8, h.sz, Nat.le_trans h.len hb⟩
/-- the program's Hunt has changed: the document's has not -/
theorem Pair.mmH {w w' : World} {B bd H M : Nat} {c : Int} {N : Nat} {s : ByteArray} {tv bv tv2 cv : Value} {l : List Int} {whole : Bool} (h : Pair w B bd H M c N s tv bv tv2 cv l whole) (hf : Fr (fun j => j = H) w w') : Mm w' B M c N (rs s) tv2 cv l whole := by
  obtain ⟨a, ha⟩ := h.st.ty.1
  refine h.mm.frv hf (fun e => ty_ne h.mm.hM ha (by decide) e) (fun g hg e => ?_) (fun g hg e => ?_)
  · obtain ⟨cur, hcur⟩ := own_ty h.mm.ra hg
    exact ty_ne hcur ha (by decide) e
  · obtain ⟨cur, hcur⟩ := own_ty h.mm.rc hg
    exact ty_ne hcur ha (by decide) e
/-- what a call of one leaves -/
def OneOK (w : World) (B bd H M : Nat) (c : Int) (N : Nat) (s : ByteArray) (tv bv tv2 cv : Value) (e : Ending) (w' : World) : Prop :=
  e = .returned (.bool true) ∧ ∃ cv' l' wh', Pair w' B bd H M c N s tv bv tv2 cv' l' wh' ∧ Fr (own H M tv bv tv2 cv) w w' ∧ (∀ g, cv'.ownBlock = some g → cv.ownBlock = some g ∨ w.heap.size ≤ g)
set_option maxRecDepth 100000 in
set_option maxHeartbeats 4000000 in
theorem one_calls (w : World) (B bd bd2 H M : Nat) (c : Int) (N : Nat) (s : ByteArray) (tv bv tv2 cv : Value) (l : List Int) (whole : Bool) (kd : Int) (ot : Bool) (S : ByteArray) (h0 : Pair w B bd H M c N s tv bv tv2 cv l whole) (hS : S.size ≤ 1048576) (hbd : bd + S.size ≤ bd2) (hbd2 : bd2 ≤ 1099511627776) :
    Calls Try.prog 18 #[.pointer (some ⟨H, 0, none⟩), .pointer (some ⟨M, 0, none⟩), .agg #[.int .i64 kd, .bool ot, .string S]] w (OneOK w B bd2 H M c N s tv bv tv2 cv) := by
  have hOb : Below w.heap.size w (w.alloc (Obj.cells #[.int .i64 kd, .bool ot, .string S] 51)) := (Below.refl _ _).alloc (Nat.le_refl _) _
  have x0 : (w.alloc (Obj.cells #[.int .i64 kd, .bool ot, .string S] 51)).heap[w.heap.size]? = some (Obj.cells #[.int .i64 kd, .bool ot, .string S] 51) := heap_alloc_new w _
  have hp := h0.fresh hOb
  have hlt := h0.lt
  unfold OneOK
  go_enter Try.func18, Try.ntmps18
  obtain ⟨O, hO⟩ : ∃ O, Hid (O = w.heap.size) := ⟨_, rfl⟩
  have hfO : Fr (own H M tv bv tv2 cv) w (w.alloc (Obj.cells #[.int .i64 kd, .bool ot, .string S] 51)) := Fr.of hOb
  go_upto_block 0 with fail
  generalize w.alloc (Obj.cells #[.int .i64 kd, .bool ot, .string S] 51) = W1 at x0 hp hfO ⊢
  rw [← hO.out] at x0 ⊢
  clear hOb
  have hne : ∀ j, own H M tv bv tv2 cv j → ¬ j = O := fun j hj e => by have := (hlt j hj).2; have := hO.out; omega
  have k0 : W1.cell? ⟨O, 0, none⟩ = some (.int .i64 kd) := by simp [World.cell?, x0]
  have k2 : W1.cell? ⟨O, 2, none⟩ = some (.string S) := by simp [World.cell?, x0]
  have hOl := (Array.getElem?_eq_some_iff.1 x0).1
  have HD := Lib.hid hlt
  have HN := Lib.hid hne
  clear hlt hne
  go_cut [7] from 10 to 34 (fun v wx => v = .bool true ∧ ∃ cv' l' wh', Pair wx B bd2 H M c N s tv bv tv2 cv' l' wh' ∧ Fr (own H M tv bv tv2 cv) w wx ∧ (∀ g, cv'.ownBlock = some g → cv.ownBlock = some g ∨ w.heap.size ≤ g))
  case first =>
    by_cases k1 : kd = 1
    · subst k1
      cases whole
      · have std : St W1.drew (H + 1) H c N (askedT c s) tv bv l false := (hp.drewN 1).st
        have hpd : Pair W1.drew B bd H M c N s tv bv tv2 cv l false := hp.drewN 1
        have hfd : Fr (own H M tv bv tv2 cv) w W1.drew := hfO.drewN 1
        have hl1 := h0.len
        have hrs := rs_length S
        go_wp2_with fail
        go_region_held3 (fun W => W.cell? ⟨O, 2, none⟩ = some (.string S)) (first | go_keep | assumption) (first | (go_at_call 10; refine (add_calls _ _ _ _ _ _ _ _ _ S std (askedT_fl _ _) (by omega)).mono ?_; rintro e w2 ha; obtain rfl := ha.1; have mm2 := hpd.mmH ha.2.1; have x2 : w2.heap[O]? = _ := (ha.2.1.block O hOl (fun e => HN.out _ (.inl rfl) e.symm)).trans x0; have z2 : w2.cell? ⟨O, 2, none⟩ = some (.string S) := (by simp [World.cell?, x2])) | (go_at_call 33; refine (mm2.add S (by omega) (by omega)).mono ?_; rintro e w3 ⟨rfl, cv3, mm3, f3, at3⟩; have x3 : w3.heap[O]? = _ := (f3.block O (Array.getElem?_eq_some_iff.1 x2).1 (fun e => (e.elim (fun e => HN.out _ (.inr (.inl rfl)) e.symm) (fun e => HN.out _ (.inr (.inr (.inr (.inr (.inr e))))) rfl)))).trans x2; have z3 : w3.cell? ⟨O, 2, none⟩ = some (.string S) := (by simp [World.cell?, x3])))
        all_goals
          have st2 := ha.2.2
          have hty := st2.ty
          have ne1 : ∀ {g : Nat} {a : Array Value} {t : TypeId}, w2.heap[g]? = some (.cells a t) → t ≠ 69 → t ≠ 3 → ¬ (g = M ∨ cv.ownBlock = some g) := fun hg h1 h2 e => by
            rcases e with e | e
            · exact ty_ne hg mm2.hM h1 e
            · obtain ⟨cur, hcur⟩ := own_ty mm2.rc e
              exact ty_ne hg hcur h2 rfl
          have st3 := st2.frv f3 (by obtain ⟨a, ha⟩ := hty.1; exact ne1 ha (by decide) (by decide)) (fun g hg => by obtain ⟨a, ha⟩ := hty.2.1 g hg; exact ne1 ha (by decide) (by decide)) (fun g hg e => by
            rcases e with e | e
            · obtain ⟨a, ha⟩ := hty.2.2 g hg; exact ty_ne ha mm2.hM (by decide) e
            · exact h0.ne g hg e)
          have hp3 : Pair w3 B bd2 H M c N s tv bv tv2 cv3 (l ++ rs S) false := ⟨st3, mm3, fun g hg hg2 => (at3 g hg2).elim (h0.ne g hg) (fun h => by have := (st2.lts.2.2 g hg).2; omega), h0.lo, h0.c0, h0.c8, h0.sz, by rw [List.length_append]; omega⟩
          have hf3 := (hfd.trans (ha.2.1.mono (fun j e => .inl e))).trans (f3.mono (fun j e => (e.elim (fun e => .inr (.inl e)) (fun e => .inr (.inr (.inr (.inr (.inr e))))))))
          have hw2 : w.heap.size ≤ w2.heap.size := (hfd.trans (ha.2.1.mono (fun j e => .inl e))).size
          have hat : ∀ g, cv3.ownBlock = some g → cv.ownBlock = some g ∨ w.heap.size ≤ g := fun g hg => (at3 g hg).imp id (fun h => Nat.le_trans hw2 h)
          clear ha mm2 mm3 f3 at3 st2 st3 hty ne1
          go_wp2_with fail
          go_meet
          case rel => exact ⟨rfl, _, _, _, hp3, hf3, hat⟩
      · have hpd : Pair W1.drew B bd H M c N s tv bv tv2 cv l true := hp.drewN 1
        have kd2 : W1.drew.cell? ⟨O, 2, none⟩ = some (.string S) := k2
        go_wp2_with fail
        go_region_held3 (fun W => W.cell? ⟨O, 2, none⟩ = some (.string S)) (first | go_keep | assumption) (first | (go_at_call 10; refine (ended_calls S hpd.st).mono ?_; rintro e w2 ⟨rfl, rfl⟩) | (go_at_call 33; refine (hpd.mm.ended S).mono ?_; rintro e w3 ⟨rfl, rfl⟩))
        all_goals
          go_wp2_with fail
          go_meet
          case rel => exact ⟨rfl, _, _, _, hpd.more (by omega), hfO.drewN 1, fun g hg => .inl hg⟩
    · have k1b : (kd == 1) = false := beq_eq_false_iff_ne.2 k1
      by_cases k2' : kd = 2
      · subst k2'
        cases whole
        all_goals
          go_wp2_with fail
          refine (hp.st.close).mono ?_
          rintro e w2 ha
          obtain rfl := ha.1
          have mm2 := hp.mmH ha.2.1
          go_wp2_with fail
          refine (mm2.close).mono ?_
          rintro e w3 ⟨rfl, f3, mm3⟩
          have hty := ha.2.2.ty
          have st3 := ha.2.2.frv f3 (by obtain ⟨a, ha⟩ := hty.1; exact fun e => ty_ne ha mm2.hM (by decide) e) (fun g hg => by obtain ⟨a, ha⟩ := hty.2.1 g hg; exact fun e => ty_ne ha mm2.hM (by decide) e) (fun g hg => by obtain ⟨a, ha⟩ := hty.2.2 g hg; exact fun e => ty_ne ha mm2.hM (by decide) e)
          have hp3 : Pair w3 B bd2 H M c N s tv bv tv2 cv l true := ⟨st3, mm3, h0.ne, h0.lo, h0.c0, h0.c8, h0.sz, Nat.le_trans h0.len (by omega)⟩
          have hf3 := (hfO.trans (ha.2.1.mono (fun j e => .inl e))).trans (f3.mono (fun j e => .inr (.inl e)))
          clear ha mm2 mm3 f3 st3 hty
          go_wp2_with fail
          go_meet
          case rel => exact ⟨rfl, _, _, _, hp3, hf3, fun g hg => .inl hg⟩
      · have k2b : (kd == 2) = false := beq_eq_false_iff_ne.2 k2'
        by_cases k3' : kd = 3
        · subst k3'
          obtain ⟨t, ht⟩ : ∃ t, Hid (t = tB c N (askedT c s) l whole) := ⟨_, rfl⟩
          have T1 : Hid (Calls Try.prog 12 #[.pointer (some ⟨H, 0, none⟩)] W1 fun e w' => e = .returned (.int .i64 t) ∧ ∃ m, w' = W1.drewN m) := by rw [ht.out]; exact hp.st.truth h0.c0 h0.c8
          have T2 : Hid (∀ n, Calls Try.prog 19 #[.pointer (some ⟨M, 0, none⟩)] (W1.drewN n) fun e w' => e = .returned (.int .i64 t) ∧ ∃ m, w' = (W1.drewN n).drewN m) := fun n => by rw [ht.out]; exact (hp.drewN n).mm.truth h0.c0 h0.c8 (by have := h0.sz; omega) (by have := h0.len; omega)
          go_wp2_with fail
          refine T1.out.mono ?_
          rintro e w2 ⟨rfl, m2, rfl⟩
          go_wp2_with fail
          refine (T2.out _).mono ?_
          rintro e w3 ⟨rfl, m3, rfl⟩
          go_wp2_with fail
          go_meet
          case rel => exact ⟨rfl, _, _, _, (hp.drewN _).more (by omega), hfO.drewN _, fun g hg => .inl hg⟩
        · have k3b : (kd == 3) = false := beq_eq_false_iff_ne.2 k3'
          go_wp2_with fail
          go_meet
          case rel => exact ⟨rfl, _, _, _, hp.more (by omega), hfO, fun g hg => .inl hg⟩
  case rest =>
  obtain ⟨rfl, cv', l', wh', hp', hf', hat⟩ := hcut
  obtain ⟨t, ht⟩ : ∃ t, Hid (t = tB c N (askedT c s) l' wh') := ⟨_, rfl⟩
  have T1 : Hid (∀ n, Calls Try.prog 12 #[.pointer (some ⟨H, 0, none⟩)] (wc.drewN n) fun e w' => e = .returned (.int .i64 t) ∧ ∃ m, w' = (wc.drewN n).drewN m) := fun n => by rw [ht.out]; exact (hp'.drewN n).st.truth h0.c0 h0.c8
  have T2 : Hid (∀ n, Calls Try.prog 19 #[.pointer (some ⟨M, 0, none⟩)] (wc.drewN n) fun e w' => e = .returned (.int .i64 t) ∧ ∃ m, w' = (wc.drewN n).drewN m) := fun n => by rw [ht.out]; exact (hp'.drewN n).mm.truth h0.c0 h0.c8 (by have := h0.sz; omega) (by have := hp'.len; omega)
  have T3 : Hid (∀ w, Calls Try.prog 20 #[.pointer (some ⟨H, 0, none⟩)] w fun e w' => e = .returned (.int .i64 4) ∧ w' = w) := fun w => kept_calls w H
  obtain ⟨ta, tc, rfl, rt⟩ := hp'.mm.ra.rd
  have y2 : wc.cell? ⟨M, 2, none⟩ = some (.slice ta (rs s).length tc) := by simp [World.cell?, hp'.mm.hM]
  have hrl := rs_length s
  have hsz := h0.sz
  obtain ⟨n1, hn1⟩ : ∃ n, Hid (n = (rs s).length) := ⟨_, rfl⟩
  rw [← hn1.out] at y2 hrl
  have hb1 : (4 : Int) ≤ (n1 : Int) + 4 := by omega
  clear rt
  go_wp2_with fail
  go_quiet ((first | with_reducible exact Calls.quiet_of (T1.out _) | with_reducible exact Calls.quiet_of (T2.out _) | with_reducible exact Calls.quiet_of_same (T3.out _)))
  go_wp2
  go_ret
  exact ⟨rfl, _, _, _, hp'.drewN _, hf'.drewN _, hat⟩
end Go.Proofs.Ytgajinnbmnnccaa
