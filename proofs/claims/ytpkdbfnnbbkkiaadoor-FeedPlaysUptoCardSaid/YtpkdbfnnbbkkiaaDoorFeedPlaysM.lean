/- Two Feeds' answers compared: place, char, and one call of most kinds, walked. -/
import Derived.Test.YtpkdbfnnbbkkiaaDoorFeedRefM
import Derived.Test.YtpkdbfnnbbkkiaaDoorFeedRest
import Derived.Test.YtpkdbfnnbbkkiaaDoorFeedAwake
namespace Gim
open Go Go.RowKit
theorem first_rune {xs : List Int} (hb : ∀ x ∈ xs, 0 ≤ x ∧ x ≤ 255) (e : Bool) : 0 ≤ (firstB xs e).1 ∧ (firstB xs e).1 ≤ 1114111 := by
  by_cases h0 : xs.length = 0
  · unfold firstB; rw [if_pos h0]; exact ⟨Int.le_refl _, by simp⟩
  by_cases h13 : gt xs 0 = 13
  · rw [firstB_cr e h0 h13]
    repeat' split
    all_goals simp
  · rw [firstB_ne e h0 h13]
    have hs := (decB_shape xs (by omega) (bn_lt hb)).1
    unfold Ch at hs
    repeat' split
    all_goals first | simp; done | skip
    simp only []
    omega
theorem peek_rune {xs : List Int} (hb : ∀ x ∈ xs, 0 ≤ x ∧ x ≤ 255) (p : Pl) (e : Bool) : 0 ≤ (peekB xs p e).1.1 ∧ (peekB xs p e).1.1 ≤ 1114111 := by
  have := first_rune hb e
  unfold peekB
  split
  · exact this
  · split <;> simp
theorem Pair.room {bs : List Int} {t : Nat} {xs : List Int} {p : Pl} {e : Bool} (h : Pair bs t xs p e) : 0 ≤ p.1 ∧ p.1 ≤ bs.length ∧ 0 ≤ p.2.1 ∧ p.2.1 ≤ bs.length ∧ 0 ≤ p.2.2.1 ∧ p.2.2.1 ≤ bs.length + 1 ∧ 0 ≤ p.2.2.2 ∧ p.2.2.2 ≤ bs.length + 1 := by
  have hp := h.place
  have hle := h.le
  rw [plR_eq hle] at hp
  have hb := placeB_bounds bs t
  rw [← hp]
  simp only []
  omega
end Gim
namespace Go.Proofs.YtpkdbfnnbbkkiaaDoor
open Go.RowKit Gim
set_option maxHeartbeats 2000000 in
theorem place4_calls (w : World) (p1 p2 p3 p4 : Int) :
    Calls Tryd.prog 36 #[.agg #[.int .i64 p1, .int .i64 p2, .int .i64 p3, .int .i64 p4], .agg #[.int .i64 p1, .int .i64 p2, .int .i64 p3, .int .i64 p4]] w fun e w' => e = .returned (.bool true) ∧ Below w.heap.size w w' := by
  go_enter Tryd.func36, Tryd.ntmps36
  go_wp2
  go_ret
  have b1 := (Below.refl w.heap.size w).alloc (Nat.le_refl _) (Obj.cells #[.int .i64 p1, .int .i64 p2, .int .i64 p3, .int .i64 p4] 27)
  exact ⟨rfl, b1.alloc b1.size _⟩
set_option maxHeartbeats 2000000 in
theorem char4_calls (w : World) (c p1 p2 p3 p4 n : Int) (hc : 0 ≤ c ∧ c ≤ 1114111) :
    Calls Tryd.prog 33 #[.agg #[.int .i32 c, .int .i64 p1, .int .i64 p2, .int .i64 p3, .int .i64 p4, .int .i64 n], .agg #[.int .i64 c, .int .i64 p1, .int .i64 p2, .int .i64 p3, .int .i64 p4, .int .i64 n]] w fun e w' => e = .returned (.bool true) ∧ Below w.heap.size w w' := by
  have b1 := (Below.refl w.heap.size w).alloc (Nat.le_refl _) (Obj.cells #[.int .i32 c, .int .i64 p1, .int .i64 p2, .int .i64 p3, .int .i64 p4, .int .i64 n] 32)
  have b2 := b1.alloc b1.size (Obj.cells #[.int .i64 c, .int .i64 p1, .int .i64 p2, .int .i64 p3, .int .i64 p4, .int .i64 n] 79)
  have HB := Lib.hid b2
  clear b1 b2
  go_enter Tryd.func33, Tryd.ntmps33
  go_wp2_with fail
  refine (place4_calls _ p1 p2 p3 p4).mono ?_
  rintro e w2 ⟨rfl, b3⟩
  go_wp2
  go_ret
  exact ⟨rfl, HB.out.trans (b3.mono HB.out.size)⟩
/-- a Feed and the document's, that stand alike -/
structure Duo (w : World) (B F M : Nat) (v v' : Value) (xs bs : List Int) (t : Nat) (p : Pl) (e : Bool) : Prop where
  fm : Fm w B F v xs p e
  fd : Fd w B M v' bs t e
  pr : Pair bs t xs p e
  ne : ∀ g, blk v = some g → blk v' ≠ some g
theorem Duo.fm_ne {w : World} {B F M : Nat} {v v' : Value} {xs bs : List Int} {t : Nat} {p : Pl} {e : Bool} (h : Duo w B F M v v' xs bs t p e) : F ≠ M ∧ (∀ g, blk v' = some g → g ≠ F) ∧ (∀ g, blk v = some g → g ≠ M) := by
  refine ⟨fun k => ?_, fun g hg k => ?_, fun g hg k => ?_⟩
  · have h1 := h.fm.hF
    rw [k, h.fd.hF] at h1
    injection h1 with h1
    injection h1 with _ h2
    exact absurd h2 (by decide)
  · obtain ⟨_, cur, hc⟩ := h.fd.own.lt g hg
    rw [k, h.fm.hF] at hc
    injection hc with hc
    injection hc with _ h2
    exact absurd h2 (by decide)
  · obtain ⟨_, cur, hc⟩ := h.fm.own.lt g hg
    rw [k, h.fd.hF] at hc
    injection hc with hc
    injection hc with _ h2
    exact absurd h2 (by decide)
/-- what a call of both leaves -/
def DuoP (w : World) (B F M : Nat) (v v' : Value) (k : Nat) (e : Ending) (w' : World) : Prop :=
  e = .returned (.bool true) ∧ ∃ v1 v1' xs1 bs1 t1 p1 e1, Duo w' B F M v1 v1' xs1 bs1 t1 p1 e1 ∧ bs1.length ≤ k ∧ Fr (fun j => j = F ∨ j = M ∨ blk v = some j ∨ blk v' = some j) w w' ∧ (∀ g, blk v1 = some g → blk v = some g ∨ w.heap.size ≤ g) ∧ (∀ g, blk v1' = some g → blk v' = some g ∨ w.heap.size ≤ g)
theorem Duo.fresh {w w' : World} {B F M : Nat} {v v' : Value} {xs bs : List Int} {t : Nat} {p : Pl} {e : Bool} (h : Duo w B F M v v' xs bs t p e) (b : Below w.heap.size w w') : Duo w' B F M v v' xs bs t p e :=
  ⟨h.fm.fresh b, h.fd.fresh b, h.pr, h.ne⟩
/-- a call that leaves both as they were -/
theorem Duo.stay {w w' : World} {B F M : Nat} {v v' : Value} {xs bs : List Int} {t : Nat} {p : Pl} {e : Bool} (h : Duo w B F M v v' xs bs t p e) (b : Below w.heap.size w w') : DuoP w B F M v v' bs.length (.returned (.bool true)) w' :=
  ⟨rfl, _, _, _, _, _, _, _, h.fresh b, Nat.le_refl _, Fr.of b, fun _ hg => .inl hg, fun _ hg => .inl hg⟩
set_option maxRecDepth 100000 in
set_option maxHeartbeats 4000000 in
theorem one_other (w : World) (B F M : Nat) (v v' : Value) (xs bs : List Int) (t : Nat) (p : Pl) (e : Bool) (h : Duo w B F M v v' xs bs t p e) (k : Int) (o : Bool) (u : Value) (hk : k < 1 ∨ 6 < k) :
    Calls Tryd.prog 20 #[.pointer (some ⟨F, 0, none⟩), .pointer (some ⟨M, 0, none⟩), .agg #[.int .i64 k, .bool o, u]] w (DuoP w B F M v v' bs.length) := by
  have HH := Lib.hid h
  have h1 : (k == 1) = false := beq_eq_false_iff_ne.2 (by omega)
  have h2 : (k == 2) = false := beq_eq_false_iff_ne.2 (by omega)
  have h3 : (k == 3) = false := beq_eq_false_iff_ne.2 (by omega)
  have h4 : (k == 4) = false := beq_eq_false_iff_ne.2 (by omega)
  have h5 : (k == 5) = false := beq_eq_false_iff_ne.2 (by omega)
  have h6 : (k == 6) = false := beq_eq_false_iff_ne.2 (by omega)
  clear h hk
  go_enter Tryd.func20, Tryd.ntmps20
  go_wp2
  go_ret
  exact HH.out.stay ((Below.refl _ _).alloc (Nat.le_refl _) _)
set_option maxRecDepth 100000 in
set_option maxHeartbeats 4000000 in
theorem one_end (w : World) (B F M : Nat) (v v' : Value) (xs bs : List Int) (t : Nat) (p : Pl) (e : Bool) (h : Duo w B F M v v' xs bs t p e) (o : Bool) (u : Value) :
    Calls Tryd.prog 20 #[.pointer (some ⟨F, 0, none⟩), .pointer (some ⟨M, 0, none⟩), .agg #[.int .i64 2, .bool o, u]] w (DuoP w B F M v v' bs.length) := by
  have HH := Lib.hid h
  clear h
  have b1 := (Below.refl w.heap.size w).alloc (Nat.le_refl _) (Obj.cells #[.int .i64 2, .bool o, u] 57)
  have HB := Lib.hid b1
  have h1 := HH.out.fresh b1
  have hn := HH.out.fm_ne
  have H1 := Lib.hid h1
  clear b1 h1
  have hE := end_calls _ B F v xs p e H1.out.fm
  have hE2 := fun w2 (d : Fd w2 B M v' bs t e) => endR_calls w2 B M v' bs t e d
  obtain ⟨r, hr⟩ : ∃ r : Int, r = (if e then 5 else 0) := ⟨_, rfl⟩
  rw [← hr] at hE
  simp only [← hr] at hE2
  clear hr
  have HE := Lib.hid hE
  have HE2 := Lib.hid hE2
  clear hE hE2
  go_enter Tryd.func20, Tryd.ntmps20
  go_wp2_with fail
  refine HE.out.mono ?_
  rintro e2 w2 ⟨rfl, m2, f2⟩
  have d2 : Fd w2 B M v' bs t e := H1.out.fd.frv f2 (fun k => hn.1 k.symm) (fun g hg k => hn.2.1 g hg k)
  go_wp2_with fail
  refine (HE2.out _ d2).mono ?_
  rintro e3 w3 ⟨rfl, d3, f3⟩
  have m3 : Fm w3 B F v xs p true := m2.frv f3 hn.1 (fun g hg k => hn.2.2 g hg k)
  go_wp2
  go_ret
  refine ⟨rfl, _, _, _, _, _, _, _, ⟨m3, d3, HH.out.pr.fin, HH.out.ne⟩, Nat.le_refl _, ?_, fun g hg => .inl hg, fun g hg => .inl hg⟩
  exact (((Fr.of HB.out).trans (f2.mono fun j k => .inl k))).then (f3.mono (q := fun j => j = F ∨ j = M ∨ blk v = some j ∨ blk v' = some j) fun j k => .inr (.inl k)) (fun j _ k => k)
set_option maxRecDepth 100000 in
set_option maxHeartbeats 4000000 in
theorem one_place (w : World) (B F M : Nat) (v v' : Value) (xs bs : List Int) (t : Nat) (p : Pl) (e : Bool) (h : Duo w B F M v v' xs bs t p e) (hn : bs.length ≤ 1099511627770) (o : Bool) (u : Value) :
    Calls Tryd.prog 20 #[.pointer (some ⟨F, 0, none⟩), .pointer (some ⟨M, 0, none⟩), .agg #[.int .i64 6, .bool o, u]] w (DuoP w B F M v v' bs.length) := by
  have HH := Lib.hid h
  clear h
  have b1 := (Below.refl w.heap.size w).alloc (Nat.le_refl _) (Obj.cells #[.int .i64 6, .bool o, u] 57)
  have HB := Lib.hid b1
  have H1 := Lib.hid (HH.out.fresh b1)
  obtain ⟨p1, p2, p3, p4⟩ := p
  clear b1
  go_enter Tryd.func20, Tryd.ntmps20
  go_wp2_with fail
  refine (place_feed _ B F v xs _ e H1.out.fm).mono ?_
  rintro e2 w2 ⟨rfl, b2⟩
  have d2 := H1.out.fd.fresh b2
  have hC := placeD_calls _ B M v' bs t e d2 hn
  rw [H1.out.pr.place] at hC
  have HC := Lib.hid hC
  clear hC
  go_wp2_with fail
  refine HC.out.mono ?_
  rintro e3 w3 ⟨rfl, b3⟩
  clear HC
  go_wp2_with fail
  refine (place4_calls _ p1 p2 p3 p4).mono ?_
  rintro e4 w4 ⟨rfl, b4⟩
  go_wp2
  go_ret
  have c2 := b2.mono HB.out.size
  have c3 := HB.out.trans c2
  have c4 := c3.trans (b3.mono c3.size)
  exact HH.out.stay (c4.trans (b4.mono c4.size))
set_option maxRecDepth 100000 in
set_option maxHeartbeats 4000000 in
theorem one_peek (w : World) (B F M : Nat) (v v' : Value) (xs bs : List Int) (t : Nat) (p : Pl) (e : Bool) (h : Duo w B F M v v' xs bs t p e) (hT : U8 w) (hn : bs.length ≤ 1099511627770) (o : Bool) (u : Value) :
    Calls Tryd.prog 20 #[.pointer (some ⟨F, 0, none⟩), .pointer (some ⟨M, 0, none⟩), .agg #[.int .i64 3, .bool o, u]] w (DuoP w B F M v v' bs.length) := by
  have HH := Lib.hid h
  clear h
  have b1 := (Below.refl w.heap.size w).alloc (Nat.le_refl _) (Obj.cells #[.int .i64 3, .bool o, u] 57)
  have HB := Lib.hid b1
  have h1 := HH.out.fresh b1
  have hrm := HH.out.pr.room
  have hxl : xs.length ≤ bs.length := by rw [HH.out.pr.lies, List.length_drop]; omega
  have hrn := peek_rune HH.out.pr.byx p e
  have hC := peek_calls _ B F v xs p e h1.fm (hT.below b1) (by omega) (by omega)
  have hD := fun w2 (d : Fd w2 B M v' bs t e) => peekD_calls w2 B M v' bs t e d hn HH.out.pr
  have H1 := Lib.hid h1
  obtain ⟨q, hq⟩ : ∃ q, Hid (q = peekB xs p e) := ⟨_, rfl⟩
  rw [← hq.out] at hC hD hrn
  obtain ⟨⟨c, ⟨z1, z2, z3, z4⟩, n⟩, how⟩ := q
  unfold charV at hC
  unfold charR at hD
  simp only [] at hC hD hrn
  have HC := Lib.hid hC
  have HD := Lib.hid hD
  clear b1 h1 hC hD
  go_enter Tryd.func20, Tryd.ntmps20
  go_wp2_with fail
  refine HC.out.mono ?_
  rintro e2 w2 ⟨rfl, b2⟩
  clear HC
  have b3 := b2.alloc b2.size (Obj.cells #[.int .i32 c, .int .i64 z1, .int .i64 z2, .int .i64 z3, .int .i64 z4, .int .i64 n] 32)
  have d3 := H1.out.fd.fresh b3
  have y3 := heap_alloc_new w2 (Obj.cells #[.int .i32 c, .int .i64 z1, .int .i64 z2, .int .i64 z3, .int .i64 z4, .int .i64 n] 32)
  have HC := Lib.hid (HD.out _ d3)
  have hb3 := HB.out.trans (b3.mono HB.out.size)
  clear b2 HD
  go_wp2_with fail
  refine HC.out.mono ?_
  rintro e4 w4 ⟨rfl, b4⟩
  clear HC
  have y4 := (b4.block w2.heap.size (Array.getElem?_eq_some_iff.1 y3).1).trans y3
  have hl4 := (Array.getElem?_eq_some_iff.1 y4).1
  obtain ⟨D, hD⟩ : ∃ D, Hid (D = w2.heap.size) := ⟨_, rfl⟩
  rw [← hD.out] at y4 hl4 ⊢
  have hb4 := hb3.trans (b4.mono hb3.size)
  have b5 := hb4.alloc hb4.size (Obj.cells #[.int .i64 c, .int .i64 z1, .int .i64 z2, .int .i64 z3, .int .i64 z4, .int .i64 n] 79)
  have y5 : (w4.alloc (Obj.cells #[.int .i64 c, .int .i64 z1, .int .i64 z2, .int .i64 z3, .int .i64 z4, .int .i64 n] 79)).heap[D]? = _ := (heap_alloc_old _ _ hl4).trans y4
  have k5 : ∀ j, (w4.alloc (Obj.cells #[.int .i64 c, .int .i64 z1, .int .i64 z2, .int .i64 z3, .int .i64 z4, .int .i64 n] 79)).cell? ⟨D, j, none⟩ = (#[Value.int .i32 c, .int .i64 z1, .int .i64 z2, .int .i64 z3, .int .i64 z4, .int .i64 n] : Array Value)[j]? := fun j => by simp [World.cell?, y5]
  have j0 := k5 0
  have j1 := k5 1
  have j2 := k5 2
  have j3 := k5 3
  have j4 := k5 4
  have j5 := k5 5
  simp at j0 j1 j2 j3 j4 j5
  clear k5 b4 y4 y3 b3 d3
  have Y5 := Lib.hid y5
  clear y5
  go_wp2_with fail
  refine (char4_calls _ c z1 z2 z3 z4 n hrn).mono ?_
  rintro e6 w6 ⟨rfl, b6⟩
  go_wp2
  go_ret
  exact HH.out.stay (b5.trans (b6.mono b5.size))
end Go.Proofs.YtpkdbfnnbbkkiaaDoor


/- One call of two Feeds: Next, Push, Rest, walked. -/
namespace Gim
open Go Go.RowKit
theorem rd_four (w : World) (a b c d : Int) (t : TypeId) : Rd (w.alloc (.cells #[.int .u8 a, .int .u8 b, .int .u8 c, .int .u8 d] t)) .u8 (some ⟨w.heap.size, 0, none⟩) 4 4 [a, b, c, d] :=
  ⟨rfl, Nat.le_refl _, by unfold maxLen; omega, fun j hj => ⟨_, _, rfl, by simp, fun i hi => by
    have hh := heap_alloc_new w (.cells #[.int .u8 a, .int .u8 b, .int .u8 c, .int .u8 d] t)
    unfold World.cell?
    rw [hh, Nat.zero_add]
    rcases (show i = 0 ∨ i = 1 ∨ i = 2 ∨ i = 3 by omega) with rfl | rfl | rfl | rfl <;> rfl⟩⟩
theorem Row.spot {w : World} {B : Nat} {e : TypeId} {k : IntKind} {v : Value} {xs : List Int} (h : Row w B e k v xs) (hl : 1 ≤ xs.length) : ∃ g cap, v = .slice (some ⟨g, 0, none⟩) xs.length cap ∧ B ≤ g ∧ g < w.heap.size := by
  rcases h.2 with ⟨_, h0⟩ | ⟨g, cap, cur, h1, h2, h3, _⟩
  · omega
  · exact ⟨g, cap, h1, h2, (Array.getElem?_eq_some_iff.1 h3).1⟩
theorem Row.lo {w : World} {B : Nat} {e : TypeId} {k : IntKind} {v : Value} {xs : List Int} (h : Row w B e k v xs) : ∀ g, v.ownBlock = some g → B ≤ g ∧ g < w.heap.size := by
  intro g hg
  rcases h.2 with ⟨h1, _⟩ | ⟨g', cap, cur, h1, h2, h3, _⟩
  · rw [h1] at hg; cases hg
  · rw [h1] at hg
    cases hg
    exact ⟨h2, (Array.getElem?_eq_some_iff.1 h3).1⟩
end Gim
namespace Go.Proofs.YtpkdbfnnbbkkiaaDoor
open Go.RowKit Gim
set_option maxRecDepth 100000 in
set_option maxHeartbeats 4000000 in
theorem one_next (w : World) (B F M : Nat) (v v' : Value) (xs bs : List Int) (t : Nat) (p : Pl) (e : Bool) (h : Duo w B F M v v' xs bs t p e) (hT : U8 w) (hn : bs.length ≤ 1099511627770) (o : Bool) (u : Value) :
    Calls Tryd.prog 20 #[.pointer (some ⟨F, 0, none⟩), .pointer (some ⟨M, 0, none⟩), .agg #[.int .i64 4, .bool o, u]] w (DuoP w B F M v v' bs.length) := by
  have HH := Lib.hid h
  clear h
  have b1 := (Below.refl w.heap.size w).alloc (Nat.le_refl _) (Obj.cells #[.int .i64 4, .bool o, u] 57)
  have HB := Lib.hid b1
  have h1 := HH.out.fresh b1
  have hne := HH.out.fm_ne
  have hrm := HH.out.pr.room
  have hxl : xs.length ≤ bs.length := by rw [HH.out.pr.lies, List.length_drop]; omega
  have hrn := peek_rune HH.out.pr.byx p e
  have hC := next_feed _ B F v xs p e h1.fm (hT.below b1) (by omega) (by omega) (by omega)
  have hD := fun w2 (d : Fd w2 B M v' bs t e) => nextD_calls w2 B M v' bs t e d hn HH.out.pr
  have H1 := Lib.hid h1
  unfold Nexted at hC
  unfold NextR at hD
  obtain ⟨q, hq⟩ : ∃ q, Hid (q = peekB xs p e) := ⟨_, rfl⟩
  rw [← hq.out] at hC hD hrn
  obtain ⟨⟨c, ⟨z1, z2, z3, z4⟩, n⟩, how⟩ := q
  unfold charV at hC
  unfold charR at hD
  simp only [] at hC hD hrn
  have HC := Lib.hid hC
  have HD := Lib.hid hD
  clear b1 h1 hC hD
  go_enter Tryd.func20, Tryd.ntmps20
  go_wp2_with fail
  refine HC.out.mono ?_
  rintro e2 w2 ⟨rfl, hE2⟩
  clear HC
  have f2 : Fr (fun j => j = F) (w.alloc (Obj.cells #[.int .i64 4, .bool o, u] 57)) w2 := by
    rcases hE2 with ⟨_, b⟩ | ⟨_, _, _, f, _⟩
    · exact Fr.of b
    · exact f
  have HE2 := Lib.hid hE2
  have b3 := (Below.refl w2.heap.size w2).alloc (Nat.le_refl _) (Obj.cells #[.int .i32 c, .int .i64 z1, .int .i64 z2, .int .i64 z3, .int .i64 z4, .int .i64 n] 32)
  have f3 := f2.alloc (Obj.cells #[.int .i32 c, .int .i64 z1, .int .i64 z2, .int .i64 z3, .int .i64 z4, .int .i64 n] 32)
  have d3 := H1.out.fd.frv f3 (fun k => hne.1 k.symm) (fun g hg k => hne.2.1 g hg k)
  have y3 := heap_alloc_new w2 (Obj.cells #[.int .i32 c, .int .i64 z1, .int .i64 z2, .int .i64 z3, .int .i64 z4, .int .i64 n] 32)
  have HC := Lib.hid (HD.out _ d3)
  have F3 := Lib.hid f3
  have B3 := Lib.hid b3
  have D3 := Lib.hid d3
  clear f2 HD hE2 f3 b3 d3
  go_wp2_with fail
  refine HC.out.mono ?_
  rintro e4 w4 ⟨rfl, hE4⟩
  clear HC
  have f4 : Fr (fun j => j = M) (w2.alloc (Obj.cells #[.int .i32 c, .int .i64 z1, .int .i64 z2, .int .i64 z3, .int .i64 z4, .int .i64 n] 32)) w4 := by
    rcases hE4 with ⟨_, b⟩ | ⟨_, _, f⟩
    · exact Fr.of b
    · exact f
  have HE4 := Lib.hid hE4
  have hl3 := (Array.getElem?_eq_some_iff.1 y3).1
  have hMl : M < w2.heap.size := by
    have h1 := H1.out.fd.lt.1
    have hs := F3.out.size
    have hl0 := HH.out.fd.lt.1
    have hw2 : (w.alloc (Obj.cells #[.int .i64 4, .bool o, u] 57)).heap.size ≤ w2.heap.size := by
      rcases HE2.out with ⟨_, b⟩ | ⟨_, _, _, f, _⟩
      · exact b.size
      · exact f.size
    omega
  have y4 := (f4.block w2.heap.size hl3 (fun k => by have k : w2.heap.size = M := k; omega)).trans y3
  have hl4 := (Array.getElem?_eq_some_iff.1 y4).1
  obtain ⟨D, hD⟩ : ∃ D, Hid (D = w2.heap.size) := ⟨_, rfl⟩
  rw [← hD.out] at y4 hl4 ⊢
  have F4 := Lib.hid f4
  have y5 : (w4.alloc (Obj.cells #[.int .i64 c, .int .i64 z1, .int .i64 z2, .int .i64 z3, .int .i64 z4, .int .i64 n] 79)).heap[D]? = _ := (heap_alloc_old _ _ hl4).trans y4
  have k5 : ∀ j, (w4.alloc (Obj.cells #[.int .i64 c, .int .i64 z1, .int .i64 z2, .int .i64 z3, .int .i64 z4, .int .i64 n] 79)).cell? ⟨D, j, none⟩ = (#[Value.int .i32 c, .int .i64 z1, .int .i64 z2, .int .i64 z3, .int .i64 z4, .int .i64 n] : Array Value)[j]? := fun j => by simp [World.cell?, y5]
  have j0 := k5 0
  have j1 := k5 1
  have j2 := k5 2
  have j3 := k5 3
  have j4 := k5 4
  have j5 := k5 5
  simp at j0 j1 j2 j3 j4 j5
  have Y5 := Lib.hid y5
  clear k5 y4 y3 f4 hE4 hl3 hl4 hMl y5
  go_wp2_with fail
  refine (char4_calls _ c z1 z2 z3 z4 n hrn).mono ?_
  rintro e6 w6 ⟨rfl, b6⟩
  go_wp2
  go_ret
  have b5 := (Below.refl w4.heap.size w4).alloc (Nat.le_refl _) (Obj.cells #[.int .i64 c, .int .i64 z1, .int .i64 z2, .int .i64 z3, .int .i64 z4, .int .i64 n] 79)
  have b46 := b5.trans (b6.mono b5.size)
  have fA : Fr (fun j => j = F ∨ j = M ∨ blk v = some j ∨ blk v' = some j) w w6 := (((Fr.of HB.out).trans (F3.out.mono fun j k => .inl k)).trans (F4.out.mono fun j k => .inr (.inl k))).trans (.of b46)
  rcases HE2.out with ⟨hne0, bb2⟩ | ⟨heq, v2, m2, ff2, hbl⟩
  · rcases HE4.out with ⟨_, bb4⟩ | ⟨h0, _⟩
    · have c1 := HB.out.trans (bb2.mono HB.out.size)
      have c2 := c1.trans (B3.out.mono c1.size)
      have c3 := c2.trans (bb4.mono c2.size)
      exact HH.out.stay (c3.trans (b46.mono c3.size))
    · exact absurd h0 hne0
  · rcases HE4.out with ⟨h0, _⟩ | ⟨_, d4, ff4⟩
    · exact absurd heq h0
    · have m3 := m2.fresh B3.out
      have m4 : Fm w4 B F v2 _ _ e := m3.frv ff4 hne.1 (fun g hg k => hne.2.2 g (hbl ▸ hg) k)
      have hfr := HH.out.pr.next heq
      refine ⟨rfl, _, _, _, _, _, _, _, ⟨m4.fresh b46, d4.fresh b46, hfr, fun g hg => HH.out.ne g (hbl ▸ hg)⟩, Nat.le_refl _, fA, fun g hg => .inl (hbl ▸ hg), fun g hg => .inl hg⟩
/-- what Push of more leaves, ended or not -/
def PushG (w : World) (B F : Nat) (v : Value) (xs' : List Int) (p : Pl) (e : Bool) (r : Int) (E : Ending) (w' : World) : Prop :=
  E = .returned (.int .i64 r) ∧ ∃ v', Fm w' B F v' xs' p e ∧ Fr (fun j => j = F ∨ blk v = some j) w w' ∧ (∀ g, blk v' = some g → blk v = some g ∨ w.heap.size ≤ g)
theorem push_any (w : World) (B F : Nat) (v : Value) (xs : List Int) (p : Pl) (e : Bool) (h : Fm w B F v xs p e) (ao : Option Addr) (m c : Nat) (ys : List Int) (hr : Rd w .u8 ao m c ys) (hby : ∀ x ∈ ys, 0 ≤ x ∧ x ≤ 255) (hnone : ao = none → m = 0 ∧ c = 0) (hlen : xs.length + m ≤ 70368744177664) :
    Calls Tryd.prog 14 #[.pointer (some ⟨F, 0, none⟩), .slice ao m c] w (PushG w B F v (if e then xs else xs ++ ys) p e (if e then 5 else 0)) := by
  cases e
  · refine (push_calls w B F v xs p h ao m c ys hr hby hnone hlen).mono ?_
    rintro E w1 ⟨h1, v1, h2, h3, h4⟩
    exact ⟨h1, v1, h2, h3, h4⟩
  · refine (push_ended w B F v xs p (.slice ao m c) h).mono ?_
    rintro E w1 ⟨h1, rfl⟩
    exact ⟨h1, v, h, Fr.refl _ _, fun g hg => .inl hg⟩
set_option maxRecDepth 100000 in
set_option maxHeartbeats 8000000 in
theorem one_push (w0 w : World) (B F M : Nat) (v v' : Value) (xs bs : List Int) (t : Nat) (p : Pl) (e : Bool) (h : Duo w B F M v v' xs bs t p e) (o : Bool) (ao : Option Addr) (n cap : Nat) (ys : List Int) (hr : Rd w0 .u8 ao n cap ys) (hB0 : B = w0.heap.size) (hb0 : Below w0.heap.size w0 w) (hby : ∀ x ∈ ys, 0 ≤ x ∧ x ≤ 255) (hnone : ao = none → n = 0 ∧ cap = 0) (hn : bs.length + n ≤ 1099511627770) :
    Calls Tryd.prog 20 #[.pointer (some ⟨F, 0, none⟩), .pointer (some ⟨M, 0, none⟩), .agg #[.int .i64 1, .bool o, .slice ao n cap]] w (DuoP w B F M v v' (bs.length + n)) := by
  have HH := Lib.hid h
  clear h
  have b1 := (Below.refl w.heap.size w).alloc (Nat.le_refl _) (Obj.cells #[.int .i64 1, .bool o, .slice ao n cap] 57)
  have y1 := heap_alloc_new w (Obj.cells #[.int .i64 1, .bool o, .slice ao n cap] 57)
  have hne := HH.out.fm_ne
  have hxl : xs.length ≤ bs.length := by rw [HH.out.pr.lies, List.length_drop]; omega
  have hyl := hr.len
  have hcl := hr.le
  have hcm := hr.cap_le
  have c1 : Below B w0 w := hB0 ▸ hb0
  have c2 := c1.trans (b1.mono HH.out.fm.le)
  have r1 := hr.below (hB0 ▸ c2)
  obtain ⟨w1, hw1⟩ : ∃ w1, Hid (w1 = w.alloc (Obj.cells #[.int .i64 1, .bool o, .slice ao n cap] 57)) := ⟨_, rfl⟩
  rw [← hw1.out] at b1 y1 r1 c2
  have HBY := Lib.hid hby
  have htk : (ys ++ [71]).take n = ys := by rw [← hyl]; exact List.take_left
  have HTK := Lib.hid htk
  have h71 : gt (ys ++ [71]) n = 71 := by rw [← hyl]; simp [gt]
  have H71 := Lib.hid h71
  have HC2 := Lib.hid c2
  clear htk h71 c2
  have HN := Lib.hid hnone
  have HB1 := Lib.hid b1
  have hw0 := (Array.getElem?_eq_some_iff.1 y1).1
  have HFl := Lib.hid HH.out.fm.lt
  have HMl := Lib.hid HH.out.fd.lt
  clear hby hnone b1
  go_enter Tryd.func20, Tryd.ntmps20
  go_upto_region 3 with fail
  rw [← hw1.out]
  obtain ⟨P, hP⟩ : ∃ P, Hid (P = w.heap.size) := ⟨_, rfl⟩
  rw [← hP.out] at y1 hw0 ⊢
  have q0 : w1.cell? ⟨P, 0, none⟩ = some (.int .i64 1) := by simp [World.cell?, y1]
  have q2 : w1.cell? ⟨P, 2, none⟩ = some (.slice ao n cap) := by simp [World.cell?, y1]
  have ba := (Below.refl w1.heap.size w1).alloc (Nat.le_refl _) (.cells #[] 5)
  have rda := r1.below ba
  have rowa := row_empty w1 5 .u8 w1.heap.size (Nat.le_refl _)
  go_upto_region 4 with (at_builtin; refine append_rd _ rfl _ _ rfl w1.heap.size _ [] rfl rowa _ _ _ ys rfl rda HN.out (by simp; omega) (by simp) ?_; intro v3 w3 hrow3 hgrow3; have hb3 : Below w1.heap.size w1 w3 := ba.grown hgrow3 (by simp) (fun j hj => (rowa.lt j hj).1); clear hgrow3; have y3 : w3.heap[P]? = _ := (hb3.block P hw0).trans y1; have z2 : w3.cell? ⟨P, 2, none⟩ = some (.slice ao n cap) := (by simp [World.cell?, y3]); obtain ⟨a3, c3, rfl, rd3, hn3⟩ := Row.rd2 hrow3)
  rw [List.nil_append] at hrow3
  rw [hyl] at hrow3
  clear ba rda rowa q0 q2 r1 rd3 hn3
  have hrow3b : Row (w3.alloc (.cells #[.int .u8 71] 5)) w1.heap.size 5 .u8 (.slice a3 n c3) ys := hrow3.stays ((Below.refl _ _).alloc (Nat.le_refl _) _)
  have r71 : Rd (w3.alloc (.cells #[.int .u8 71] 5)) .u8 (some ⟨w3.heap.size, 0, none⟩) 1 1 [71] := rd_new w3 5 (0, 0) [71] (by decide)
  have bq := hb3.alloc hb3.size (.cells #[.int .u8 71] 5)
  go_wp2_with (at_builtin; refine append_rd _ rfl _ _ rfl w1.heap.size _ ys rfl hrow3b _ _ _ [71] rfl r71 (fun hh => by cases hh) (by simp; omega) (by simp; have := hb3.size; omega) ?_; intro v4 w4 hrow4 hgrow4; have hb4 : Below w1.heap.size w1 w4 := bq.grown hgrow4 bq.size (fun j hj => (hrow3b.lo j hj).1); clear hgrow4; have y4 : w4.heap[P]? = _ := (hb4.block P hw0).trans y1; have z4 : w4.cell? ⟨P, 2, none⟩ = some (.slice ao n cap) := (by simp [World.cell?, y4]); obtain ⟨g4, c4, hv4, hlo4, hls4⟩ := hrow4.spot (by simp); have hln4 : (ys ++ [71]).length = n + 1 := (by simp [hyl]); rw [hln4] at hv4; subst hv4; have HLN4 := Lib.hid hln4; clear hln4; have hrr4 := hrow4.rdAt; have hcc4 := hrr4.le; have hcm4 := hrr4.cap_le)
  have hrd4 : Rd w4 .u8 (some ⟨g4, 0, none⟩) n c4 ys := by
    have := hrr4.take (m := n) (by omega)
    rw [HTK.out] at this
    exact this
  have hB4 := HB1.out.trans (hb4.mono HB1.out.size)
  have D4 := Lib.hid (HH.out.fresh hB4)
  have hC := push_any w4 B F v xs p e D4.out.fm (some ⟨g4, 0, none⟩) n c4 ys hrd4 HBY.out (fun hh => by cases hh) (by omega)
  have hCR := fun w6 (d : Fd w6 B M v' bs t e) (r : Rd w6 .u8 ao n cap ys) => pushR_calls w6 B M v' bs t e d ao n cap ys r HBY.out HN.out (by omega)
  obtain ⟨r, hre⟩ : ∃ r : Int, r = (if e then 5 else 0) := ⟨_, rfl⟩
  rw [← hre] at hC
  unfold PushedR at hCR
  simp only [← hre] at hCR
  clear hre
  have HC := Lib.hid hC
  have HCR := Lib.hid hCR
  have HR4 := Lib.hid hrow4
  have HB4 := Lib.hid hB4
  have HW1 := Lib.hid HB1.out.size
  clear hC hCR hrow4 hrr4 hrd4 hb4 hB4 y3 z2 hrow3 hrow3b r71 bq hb3
  refine HC.out.mono ?_
  rintro E w5 ⟨rfl, v5, m5, f5, n5⟩
  clear HC
  have hrow5 := HR4.out.fr f5 (fun g hg k => by
    have hg : g4 = g := by cases hg; rfl
    subst hg
    have h1 := HFl.out.1
    have h2 := HW1.out
    rcases k with k | k
    · omega
    · have := (HFl.out.2 g4 k).2; omega)
  have hP5 : ∀ k, ¬ (k = P ∧ (k = F ∨ blk v = some k)) := fun k ⟨k1, k2⟩ => by
    have h1 := HFl.out.1
    have h2 := hP.out
    rcases k2 with k2 | k2
    · omega
    · have := (HFl.out.2 k k2).2; omega
  have y5 : w5.heap[P]? = _ := (f5.block P (Array.getElem?_eq_some_iff.1 y4).1 (fun k => hP5 P ⟨rfl, k⟩)).trans y4
  have z5 : w5.cell? ⟨P, 2, none⟩ = some (.slice ao n cap) := by simp [World.cell?, y5]
  have hc71 := hrow5.cell (j := n) (by rw [HLN4.out]; omega)
  rw [H71.out] at hc71
  have hrd5 : Rd w5 .u8 (some ⟨g4, 0, none⟩) n c4 ys := by
    have := hrow5.rdAt.take (m := n) (by omega)
    rw [HTK.out] at this
    exact this
  have fa5 : Fr (fun j => j = F ∨ blk v = some j) w w5 := (Fr.of HB4.out).trans f5
  have hlow : ∀ j, (j = F ∨ j = M ∨ blk v = some j ∨ blk v' = some j) → B ≤ j := by
    rintro j (rfl | rfl | k | k)
    · exact HH.out.fm.lo
    · exact HH.out.fd.lo
    · exact (HFl.out.2 j k).1
    · exact (HMl.out.2 j k).1
  have FA := Lib.hid (fa5.mono (q := fun j => j = F ∨ j = M ∨ blk v = some j ∨ blk v' = some j) (fun j k => k.elim .inl (fun k => .inr (.inr (.inl k)))))
  have hBw : B ≤ w.heap.size := HH.out.fm.le
  have hr5 : Rd w5 .u8 ao n cap ys := hr.below (hB0 ▸ c1.trans (FA.out.below hBw hlow))
  have hs : ∀ W, Rd W .u8 (some ⟨g4, 0, none⟩) n c4 ys → Rd W .u8 ao n cap ys → Calls Tryd.prog 18 #[.slice (some ⟨g4, 0, none⟩) n c4, .slice ao n cap] W fun e w' => e = .returned (.bool true) ∧ Drew W w' := fun W h1 h2 => same4_calls W _ _ _ _ h1 _ _ h2 (by omega)
  have HS := Lib.hid hs
  have HR5 := Lib.hid hrow5
  have HM5 := Lib.hid m5
  have HN5 := Lib.hid n5
  have HFV := Lib.hid f5
  clear hs f5 m5 n5 fa5 hrow5 y4 z4
  go_wp2
  go_quiet ((exact Calls.quiet_of (HS.out _ (hrd5.drewN _) (hr5.drewN _))))
  go_wp2
  go_loopw [9] (fun y wr => ∃ (j : Nat) (zt : List Int), y = .int .i64 j ∧ j ≤ n + 1 ∧ zt.length = n + 1 ∧ Row wr w1.heap.size 5 .u8 (.slice (some ⟨g4, 0, none⟩) (n + 1) c4) zt ∧ Fr (fun k => k = g4) w5 wr) (fun y _ => n + 1 - (intOf y).toNat)
  case atStart => exact ⟨0, ys ++ [71], rfl, by omega, HLN4.out, HR5.out.drewN nq, (Fr.refl _ _).drewN nq⟩
  case round =>
    obtain ⟨j, zt, rfl, hjN, hzl, hx, hF⟩ := hrel
    by_cases hj : j < n + 1
    · have k0 := hx.cell (j := j) (by omega)
      have f0 := hx.free j
      have hx2 := hx.set' j 88
      have HZL := Lib.hid hzl
      clear hzl hc71 hrd5 hr5 z5
      go_wp2
      go_roundw
      case rel => exact ⟨j + 1, _, by go_num, by omega, by rw [List.length_set, HZL.out], hx2, hF.set g4 j _ rfl⟩
      case measure => simp [RowKit.intOf]; omega
    · obtain rfl : j = n + 1 := by omega
      have hPg : P ≠ g4 := by omega
      have hsw1 := HW1.out
      have y6 : wr.heap[P]? = _ := (hF.block P (Array.getElem?_eq_some_iff.1 y5).1 (fun k => hPg k)).trans y5
      have z6 : wr.cell? ⟨P, 2, none⟩ = some (.slice ao n cap) := by simp [World.cell?, y6]
      have fw : Fr (fun j => j = F ∨ j = M ∨ blk v = some j ∨ blk v' = some j) w wr := FA.out.then hF (fun j hj k => by have k : j = g4 := k; omega)
      have hr6 : Rd wr .u8 ao n cap ys := hr.below (hB0 ▸ c1.trans (fw.below hBw hlow))
      have hd5 := D4.out.fd.frv HFV.out (fun k => k.elim (fun k => hne.1 k.symm) (fun k => hne.2.2 M k rfl)) (fun g hg k => k.elim (fun k => hne.2.1 g hg k) (fun k => HH.out.ne g k hg))
      have hd6 := hd5.frv hF (fun k => by have k : M = g4 := k; have := HMl.out.1; omega) (fun g hg k => by have k : g = g4 := k; have := (HMl.out.2 g hg).2; omega)
      have hm6 := HM5.out.frv hF (fun k => by have k : F = g4 := k; have := HFl.out.1; omega) (fun g hg k => by
        have k : g = g4 := k
        rcases HN5.out g hg with k2 | k2
        · have := (HFl.out.2 g k2).2; omega
        · omega)
      have HC := Lib.hid (HCR.out wr hd6 hr6)
      have HM6 := Lib.hid hm6
      have hv5 := HM5.out.lt.2
      have hs5 := hF.size
      have hs5w := FA.out.size
      have hs4 := HFV.out.size
      have hs4w := HB4.out.size
      have FW := Lib.hid fw
      have HV5 := Lib.hid hv5
      clear hzl hc71 hrd5 hr5 z5 hx hd5 hd6 hm6 hr6 HCR fw hF hv5 hP5
      go_wp2_with fail
      refine HC.out.mono ?_
      rintro E w7 ⟨rfl, v7, d7, f7, n7⟩
      go_wp2
      go_ret
      have hm7 := HM6.out.frv f7 (fun k => k.elim (fun k => hne.1 k) (fun k => hne.2.1 F k rfl)) (fun g hg k => by
        rcases HN5.out g hg with k2 | k2
        · exact k.elim (fun k => hne.2.2 g k2 k) (fun k => HH.out.ne g k2 k)
        · rcases k with k | k
          · have := HMl.out.1; omega
          · have := (HMl.out.2 g k).2; omega)
      refine ⟨rfl, v5, v7, (if e then xs else xs ++ ys), (if e then bs else bs ++ ys), t, p, e, ⟨hm7, d7, ?_, ?_⟩, ?_, ?_, ?_, ?_⟩
      · cases e
        · exact HH.out.pr.push HBY.out
        · exact HH.out.pr
      · intro g hg hg7
        have hgl := (HV5.out g hg).2
        rcases HN5.out g hg with k2 | k2
        · rcases n7 g hg7 with k3 | k3
          · exact HH.out.ne g k2 k3
          · have := (HFl.out.2 g k2).2; omega
        · rcases n7 g hg7 with k3 | k3
          · have := (HMl.out.2 g k3).2; omega
          · omega
      · cases e
        · show (bs ++ ys).length ≤ _
          rw [List.length_append]; omega
        · show bs.length ≤ _
          omega
      · exact FW.out.then f7 (fun j _ k => k.elim (fun k => .inr (.inl k)) (fun k => .inr (.inr (.inr k))))
      · intro g hg
        rcases HN5.out g hg with k | k
        · exact .inl k
        · exact .inr (by omega)
      · intro g hg
        rcases n7 g hg with k | k
        · exact .inl k
        · exact .inr (by omega)
end Go.Proofs.YtpkdbfnnbbkkiaaDoor


/- One call of two Feeds: Rest, walked. -/
namespace Gim
open Go Go.RowKit
theorem Rd.fr {p : Nat → Prop} {w w' : World} {k : IntKind} {ao : Option Addr} {n cap : Nat} {xs : List Int} (h : Rd w k ao n cap xs) (hf : Fr p w w') (hno : ∀ b, ao = some b → ¬ p b.block) : Rd w' k ao n cap xs :=
  ⟨h.len, h.le, h.cap_le, fun j hj => by
    obtain ⟨b, o, h1, h2, h3⟩ := h.cell j hj
    refine ⟨b, o, h1, Nat.lt_of_lt_of_le h2 hf.size, fun i hi => ?_⟩
    have hb := hf.block b h2 (hno _ h1)
    have := h3 i hi
    unfold World.cell? at this ⊢
    simp only [hb]
    exact this⟩
theorem rest_len (xs : List Int) (p : Pl) (e : Bool) : (restB xs p e).length ≤ xs.length := by
  unfold restB
  split
  · have := drain_len e xs.length xs p (Nat.le_refl _)
    omega
  · simp
end Gim
namespace Go.Proofs.YtpkdbfnnbbkkiaaDoor
open Go.RowKit Gim
set_option maxRecDepth 100000 in
set_option maxHeartbeats 8000000 in
theorem one_rest (w : World) (B F M : Nat) (v v' : Value) (xs bs : List Int) (t : Nat) (p : Pl) (e : Bool) (h : Duo w B F M v v' xs bs t p e) (hT : U8 w) (hn : bs.length ≤ 1099511627770) (o : Bool) (u : Value) :
    Calls Tryd.prog 20 #[.pointer (some ⟨F, 0, none⟩), .pointer (some ⟨M, 0, none⟩), .agg #[.int .i64 5, .bool o, u]] w (DuoP w B F M v v' bs.length) := by
  have HH := Lib.hid h
  clear h
  have b1 := (Below.refl w.heap.size w).alloc (Nat.le_refl _) (Obj.cells #[.int .i64 5, .bool o, u] 57)
  have HB1 := Lib.hid b1
  have hxl : xs.length ≤ bs.length := by rw [HH.out.pr.lies, List.length_drop]; omega
  have hRL := rest_len xs p e
  have hA := fun W (b : Below w.heap.size w W) => rest_calls W B F v xs p e (HH.out.fresh b).fm (hT.below b) (by omega)
  have hD := fun W (b : Below w.heap.size w W) => restD_calls W B M v' bs t e (HH.out.fresh b).fd hn HH.out.pr
  obtain ⟨R, hR⟩ : ∃ R, Hid (R = restB xs p e) := ⟨_, rfl⟩
  rw [← hR.out] at hA hD hRL
  obtain ⟨L, hL⟩ : ∃ L, Hid (L = R.length) := ⟨_, rfl⟩
  unfold Rested at hA
  unfold RestR at hD
  rw [← hL.out] at hD hRL
  have HA := Lib.hid hA
  have HD := Lib.hid hD
  have hLn : L ≤ 1099511627770 := by omega
  clear b1 hA hD
  go_enter Tryd.func20, Tryd.ntmps20
  go_wp2_with fail
  refine (HA.out _ HB1.out).mono ?_
  rintro E w2 ⟨v2, rfl, r2, k2⟩
  have b2 := HB1.out.trans (k2.mono HB1.out.size)
  have hlo2 := r2.lo
  obtain ⟨a2, c2, rfl, rd2, hno2⟩ := Row.rd2 r2
  rw [← hL.out] at rd2 r2
  rw [← hL.out]
  clear hno2
  have HB2 := Lib.hid b2
  have hs1 := HB1.out.size
  have hs2 := k2.size
  obtain ⟨w1, hw1⟩ : ∃ w1, Hid (w1 = w.alloc (Obj.cells #[.int .i64 5, .bool o, u] 57)) := ⟨_, rfl⟩
  rw [← hw1.out] at r2 hs1 hs2 hlo2
  rw [← hL.out] at hlo2
  clear k2 b2
  go_wp2_with fail
  refine (HA.out _ HB2.out).mono ?_
  rintro E w3 ⟨v3, rfl, r3, k3⟩
  have b3 := HB2.out.trans (k3.mono HB2.out.size)
  obtain ⟨a3, c3, rfl, rd3, hno3⟩ := Row.rd2 r3
  rw [← hL.out] at rd3 r3
  rw [← hL.out]
  have r2' := r2.stays k3
  have hs3 := k3.size
  have HB3 := Lib.hid b3
  clear hno3 k3 b3 r2 rd2 rd3
  go_wp2_with fail
  refine (HD.out _ HB3.out).mono ?_
  rintro E w4 ⟨a4, c4, rfl, rd4, hbl4, k4⟩
  have b4 := HB3.out.trans (k4.mono HB3.out.size)
  have r24 := r2'.stays k4
  have r34 := r3.stays k4
  have hs4 := k4.size
  have HB4 := Lib.hid b4
  clear k4 b4 r2' r3
  go_wp2_with fail
  refine (same4_calls w4 a2 L c2 R (Row.rdAt' r24) a4 c4 rd4 (by omega)).mono ?_
  rintro E w5 ⟨rfl, d5⟩
  have r25 := r24.stays (d5.below _)
  have r35 := r34.stays (d5.below _)
  have rd45 := rd4.below (d5.below _)
  have HB5 := Lib.hid (HB4.out.trans (d5.below _))
  have hs5 := (d5.below w4.heap.size).size
  clear d5 r24 r34 rd4
  go_wp2_with fail
  refine (same4_calls w5 a3 L c3 R (Row.rdAt' r35) a4 c4 rd45 (by omega)).mono ?_
  rintro E w6 ⟨rfl, d6⟩
  have r26 := r25.stays (d6.below _)
  have r36 := r35.stays (d6.below _)
  have rd46 := rd45.below (d6.below _)
  have HB6 := Lib.hid (HB5.out.trans (d6.below _))
  have hs6 := (d6.below w5.heap.size).size
  clear d6 r25 r35 rd45
  have hvM := HH.out.fd.lt.2
  have HVM := Lib.hid hvM
  have HBL := Lib.hid hbl4
  clear hvM hbl4
  have hlo3 := r36.lo
  have HL2 := Lib.hid hlo2
  have HL3 := Lib.hid hlo3
  clear hlo2 hlo3
  go_wp2_with fail
  go_loopw [21] (fun y wr => ∃ (j : Nat) (zt : List Int), y = .int .i64 j ∧ j ≤ L ∧ zt.length = L ∧ Row wr w1.heap.size 5 .u8 (.slice a2 L c2) zt ∧ Fr (fun k => (Value.slice a2 L c2).ownBlock = some k) w6 wr) (fun y _ => L - (intOf y).toNat)
  case atStart => exact ⟨0, R, rfl, by omega, hL.out.symm, r26, Fr.refl _ _⟩
  case round =>
    obtain ⟨j, zt, rfl, hjN, hzl, hx, hF⟩ := hrel
    by_cases hj : j < L
    · obtain ⟨g, cc, hv, _, _⟩ := hx.spot (by omega)
      injection hv with hv1 hv2 hv3
      subst hv1
      have k0 := hx.cell (j := j) (by omega)
      have f0 := hx.free j
      have hx2 := hx.set' j 89
      have HZL := Lib.hid hzl
      have HF := Lib.hid hF
      clear hzl hF hv2 hv3
      go_wp2
      go_roundw
      case rel => exact ⟨j + 1, _, by go_num, by omega, by rw [List.length_set, HZL.out], hx2, HF.out.set g j _ rfl⟩
      case measure => simp [RowKit.intOf]; omega
    · obtain rfl : j = L := by omega
      have HZL := Lib.hid hzl
      have HF := Lib.hid hF
      have hsr := hF.size
      clear hzl hF hj
      go_upto_region 34 with (at_builtin; refine append_rd _ rfl _ _ rfl w1.heap.size _ zt rfl (World.ownsRow.alloc hx _) (some ⟨wr.heap.size, 0, none⟩) 4 4 [90, 90, 90, 90] rfl (rd_four wr _ _ _ _ _) (fun hh => by cases hh) (by rw [HZL.out]; omega) (by simp; omega) ?_; intro v9 w9 hx9 hgrow9)
      have hF9 : Fr (fun k => (Value.slice a2 j c2).ownBlock = some k) w6 w9 := (HF.out.alloc _).grown hgrow9 (fun g hg => .inl hg)
      have hln : (zt ++ [90, 90, 90, 90]).length = j + 4 := by rw [List.length_append, HZL.out]; rfl
      obtain ⟨a9, c9, rfl, _⟩ := hx9.rd
      rw [hln]
      have r39 := r36.fr hF9 (fun g hg k => by
        have h1 := (HL2.out g k).2
        have h2 := (HL3.out g hg).1
        omega)
      have rd49 := rd46.fr hF9 (fun b hb k => by
        have h1 := (HL2.out _ k).1
        have h2 := (HVM.out _ (HBL.out b hb)).2
        omega)
      have hb9 : Below w.heap.size w w9 := HB6.out.trans (hF9.below (by have := HB6.out.size; omega) (fun k hk => by
        have h1 := (HL2.out _ hk).1
        omega))
      have HB9 := Lib.hid hb9
      clear hgrow9 hF9 hx9 hx r26 r36 rd46 HF hln hb9
      go_wp2_with fail
      refine (same4_calls w9 a3 j c3 R (Row.rdAt' r39) a4 c4 rd49 (by omega)).mono ?_
      rintro E wa ⟨rfl, da⟩
      have rd4a := rd49.below (da.below _)
      have HBa := Lib.hid (HB9.out.trans (da.below _))
      clear da r39 rd49
      go_wp2_with fail
      refine (HA.out _ HBa.out).mono ?_
      rintro E wb ⟨vb, rfl, rb, kb⟩
      have bb := HBa.out.trans (kb.mono HBa.out.size)
      obtain ⟨ab, cb, rfl, rdb, _⟩ := Row.rd2 rb
      rw [← hL.out] at rdb
      rw [← hL.out]
      have rd4b := rd4a.below kb
      have HBb := Lib.hid bb
      clear kb bb rd4a rb
      go_wp2_with fail
      refine (same4_calls wb ab j cb R rdb a4 c4 rd4b (by omega)).mono ?_
      rintro E wc ⟨rfl, dc⟩
      go_wp2
      go_ret
      exact HH.out.stay (HBb.out.trans (dc.below _))
end Go.Proofs.YtpkdbfnnbbkkiaaDoor


/- One call of two Feeds, of any kind; a Feed that is nil. -/
namespace Go.Proofs.YtpkdbfnnbbkkiaaDoor
open Go.RowKit Gim
theorem DuoP.mono {w : World} {B F M : Nat} {v v' : Value} {k l : Nat} {E : Ending} {w' : World} (h : DuoP w B F M v v' k E w') (hl : k ≤ l) : DuoP w B F M v v' l E w' := by
  obtain ⟨h1, a, b, c, d, x, y, z, h2, h3, h4⟩ := h
  exact ⟨h1, a, b, c, d, x, y, z, h2, Nat.le_trans h3 hl, h4⟩
theorem one_calls (w0 w : World) (B F M : Nat) (v v' : Value) (xs bs : List Int) (t : Nat) (p : Pl) (e : Bool) (h : Duo w B F M v v' xs bs t p e) (hT : U8 w) (k : Int) (o : Bool) (ao : Option Addr) (n cap : Nat) (ys : List Int) (hr : Rd w0 .u8 ao n cap ys) (hB0 : B = w0.heap.size) (hb0 : Below w0.heap.size w0 w) (hby : ∀ x ∈ ys, 0 ≤ x ∧ x ≤ 255) (hnone : ao = none → n = 0 ∧ cap = 0) (hn : bs.length + n ≤ 1099511627770) :
    Calls Tryd.prog 20 #[.pointer (some ⟨F, 0, none⟩), .pointer (some ⟨M, 0, none⟩), .agg #[.int .i64 k, .bool o, .slice ao n cap]] w (DuoP w B F M v v' (bs.length + n)) := by
  by_cases hk : k < 1 ∨ 6 < k
  · exact (one_other w B F M v v' xs bs t p e h k o _ hk).mono fun E w' hh => hh.mono (by omega)
  rcases (show k = 1 ∨ k = 2 ∨ k = 3 ∨ k = 4 ∨ k = 5 ∨ k = 6 by omega) with rfl | rfl | rfl | rfl | rfl | rfl
  · exact one_push w0 w B F M v v' xs bs t p e h o ao n cap ys hr hB0 hb0 hby hnone hn
  · exact (one_end w B F M v v' xs bs t p e h o _).mono fun E w' hh => hh.mono (by omega)
  · exact (one_peek w B F M v v' xs bs t p e h hT (by omega) o _).mono fun E w' hh => hh.mono (by omega)
  · exact (one_next w B F M v v' xs bs t p e h hT (by omega) o _).mono fun E w' hh => hh.mono (by omega)
  · exact (one_rest w B F M v v' xs bs t p e h hT (by omega) o _).mono fun E w' hh => hh.mono (by omega)
  · exact (one_place w B F M v v' xs bs t p e h (by omega) o _).mono fun E w' hh => hh.mono (by omega)
/-- the blocks of a Feed and of the document's -/
def Bl (F M : Nat) (v v' : Value) (j : Nat) : Prop := j = F ∨ j = M ∨ blk v = some j ∨ blk v' = some j
theorem Duo.lt {w : World} {B F M : Nat} {v v' : Value} {xs bs : List Int} {t : Nat} {p : Pl} {e : Bool} (h : Duo w B F M v v' xs bs t p e) : ∀ j, Bl F M v v' j → B ≤ j ∧ j < w.heap.size := by
  rintro j (rfl | rfl | k | k)
  · exact ⟨h.fm.lo, h.fm.lt.1⟩
  · exact ⟨h.fd.lo, h.fd.lt.1⟩
  · exact h.fm.lt.2 j k
  · exact h.fd.lt.2 j k
theorem Duo.frv {q : Nat → Prop} {w w' : World} {B F M : Nat} {v v' : Value} {xs bs : List Int} {t : Nat} {p : Pl} {e : Bool} (h : Duo w B F M v v' xs bs t p e) (hf : Fr q w w') (hq : ∀ j, Bl F M v v' j → ¬ q j) : Duo w' B F M v v' xs bs t p e :=
  ⟨h.fm.frv hf (hq F (.inl rfl)) (fun g hg => hq g (.inr (.inr (.inl hg)))), h.fd.frv hf (hq M (.inr (.inl rfl))) (fun g hg => hq g (.inr (.inr (.inr hg)))), h.pr, h.ne⟩
theorem nil_push (w : World) (u : Value) : Calls Tryd.prog 14 #[.pointer none, u] w fun e w' => e = .returned (.int .i64 1) ∧ w' = w := by
  go_enter Tryd.func14, Tryd.ntmps14
  go_wp2
  go_ret
  exact ⟨rfl, rfl⟩
theorem nil_end (w : World) : Calls Tryd.prog 23 #[.pointer none] w fun e w' => e = .returned (.int .i64 1) ∧ w' = w := by
  go_enter Tryd.func23, Tryd.ntmps23
  go_wp2
  go_ret
  exact ⟨rfl, rfl⟩
theorem nil_rest (w : World) : Calls Tryd.prog 16 #[.pointer none] w fun e w' => e = .returned (.slice none 0 0) ∧ w' = w := by
  go_enter Tryd.func16, Tryd.ntmps16
  go_wp2
  go_ret
  exact ⟨rfl, rfl⟩
theorem nil_place (w : World) : Calls Tryd.prog 17 #[.pointer none] w fun e w' => e = .returned (.agg #[.int .i64 0, .int .i64 0, .int .i64 0, .int .i64 0]) ∧ Below w.heap.size w w' := by
  have b0 := (Below.refl w.heap.size w).alloc (Nat.le_refl _) (Obj.cells #[.int .i64 0, .int .i64 0, .int .i64 0, .int .i64 0] 27)
  have y0 := heap_alloc_new w (Obj.cells #[.int .i64 0, .int .i64 0, .int .i64 0, .int .i64 0] 27)
  have HB := Lib.hid b0
  clear b0
  go_enter Tryd.func17, Tryd.ntmps17
  go_upto_region 1 with fail
  have HB2 := HB.out
  generalize w.alloc (Obj.cells #[.int .i64 0, .int .i64 0, .int .i64 0, .int .i64 0] 27) = W at y0 HB2 ⊢
  obtain ⟨R, hRR⟩ : ∃ R, Hid (R = w.heap.size) := ⟨_, rfl⟩
  rw [← hRR.out] at y0 ⊢
  have r0 : W.cell? ⟨R, 0, none⟩ = some (.int .i64 0) := by simp [World.cell?, y0]
  have r1 : W.cell? ⟨R, 1, none⟩ = some (.int .i64 0) := by simp [World.cell?, y0]
  have r2 : W.cell? ⟨R, 2, none⟩ = some (.int .i64 0) := by simp [World.cell?, y0]
  have r3 : W.cell? ⟨R, 3, none⟩ = some (.int .i64 0) := by simp [World.cell?, y0]
  have rz : ∀ i, W.frozen? ⟨R, i, none⟩ = false := fun i => by simp [World.frozen?, y0]
  go_wp2
  have hh := four_heap y0 (.int .i64 0) (.int .i64 0) (.int .i64 0) (.int .i64 0)
  have hg := four_fr (p := fun j => j = R) (w := W) (R := R) rfl (.int .i64 0) (.int .i64 0) (.int .i64 0) (.int .i64 0)
  generalize hV : ((((W.setCell ⟨R, 0, none⟩ (.int .i64 0)).setCell ⟨R, 1, none⟩ (.int .i64 0)).setCell ⟨R, 2, none⟩ (.int .i64 0)).setCell ⟨R, 3, none⟩ (.int .i64 0)) = V at hh hg ⊢
  have j0 : V.cell? ⟨R, 0, none⟩ = some (.int .i64 0) := by simp [World.cell?, hh]
  have j1 : V.cell? ⟨R, 1, none⟩ = some (.int .i64 0) := by simp [World.cell?, hh]
  have j2 : V.cell? ⟨R, 2, none⟩ = some (.int .i64 0) := by simp [World.cell?, hh]
  have j3 : V.cell? ⟨R, 3, none⟩ = some (.int .i64 0) := by simp [World.cell?, hh]
  refine ⟨rfl, .agg #[.int .i64 0, .int .i64 0, .int .i64 0, .int .i64 0], ?_, rfl, HB2.trans (hg.below HB2.size (fun j e => by have e : j = R := e; have := hRR.out; omega))⟩
  simp [results, Tryd.f17, go_sem, j0, j1, j2, j3]
theorem nil_peek (w : World) : Calls Tryd.prog 22 #[.pointer none] w fun e w' => e = .returned (.tuple #[.agg #[.int .i32 0, .int .i64 0, .int .i64 0, .int .i64 0, .int .i64 0, .int .i64 0], .int .i64 0]) ∧ Below w.heap.size w w' := by
  have b0 := (Below.refl w.heap.size w).alloc (Nat.le_refl _) (Obj.cells #[.int .i32 0, .int .i64 0, .int .i64 0, .int .i64 0, .int .i64 0, .int .i64 0] 32)
  have y0 := heap_alloc_new w (Obj.cells #[.int .i32 0, .int .i64 0, .int .i64 0, .int .i64 0, .int .i64 0, .int .i64 0] 32)
  have HB := Lib.hid b0
  clear b0
  go_enter Tryd.func22, Tryd.ntmps22
  go_upto_region 1 with fail
  have HB2 := HB.out
  generalize w.alloc (Obj.cells #[.int .i32 0, .int .i64 0, .int .i64 0, .int .i64 0, .int .i64 0, .int .i64 0] 32) = W at y0 HB2 ⊢
  obtain ⟨R, hRR⟩ : ∃ R, Hid (R = w.heap.size) := ⟨_, rfl⟩
  rw [← hRR.out] at y0 ⊢
  have r0 : W.cell? ⟨R, 0, none⟩ = some (.int .i32 0) := by simp [World.cell?, y0]
  have r1 : W.cell? ⟨R, 1, none⟩ = some (.int .i64 0) := by simp [World.cell?, y0]
  have r2 : W.cell? ⟨R, 2, none⟩ = some (.int .i64 0) := by simp [World.cell?, y0]
  have r3 : W.cell? ⟨R, 3, none⟩ = some (.int .i64 0) := by simp [World.cell?, y0]
  have r4 : W.cell? ⟨R, 4, none⟩ = some (.int .i64 0) := by simp [World.cell?, y0]
  have r5 : W.cell? ⟨R, 5, none⟩ = some (.int .i64 0) := by simp [World.cell?, y0]
  have rz : ∀ i, W.frozen? ⟨R, i, none⟩ = false := fun i => by simp [World.frozen?, y0]
  go_wp2
  have hh := six_heap y0 (.int .i32 0) (.int .i64 0) (.int .i64 0) (.int .i64 0) (.int .i64 0) (.int .i64 0)
  have hg := six_fr (p := fun j => j = R) (w := W) (R := R) rfl (.int .i32 0) (.int .i64 0) (.int .i64 0) (.int .i64 0) (.int .i64 0) (.int .i64 0)
  generalize hV : ((((((W.setCell ⟨R, 0, none⟩ (.int .i32 0)).setCell ⟨R, 1, none⟩ (.int .i64 0)).setCell ⟨R, 2, none⟩ (.int .i64 0)).setCell ⟨R, 3, none⟩ (.int .i64 0)).setCell ⟨R, 4, none⟩ (.int .i64 0)).setCell ⟨R, 5, none⟩ (.int .i64 0)) = V at hh hg ⊢
  have j0 : V.cell? ⟨R, 0, none⟩ = some (.int .i32 0) := by simp [World.cell?, hh]
  have j1 : V.cell? ⟨R, 1, none⟩ = some (.int .i64 0) := by simp [World.cell?, hh]
  have j2 : V.cell? ⟨R, 2, none⟩ = some (.int .i64 0) := by simp [World.cell?, hh]
  have j3 : V.cell? ⟨R, 3, none⟩ = some (.int .i64 0) := by simp [World.cell?, hh]
  have j4 : V.cell? ⟨R, 4, none⟩ = some (.int .i64 0) := by simp [World.cell?, hh]
  have j5 : V.cell? ⟨R, 5, none⟩ = some (.int .i64 0) := by simp [World.cell?, hh]
  refine ⟨rfl, .tuple #[.agg #[.int .i32 0, .int .i64 0, .int .i64 0, .int .i64 0, .int .i64 0, .int .i64 0], .int .i64 0], ?_, rfl, HB2.trans (hg.below HB2.size (fun j e => by have e : j = R := e; have := hRR.out; omega))⟩
  simp [results, Tryd.f22, go_sem, j0, j1, j2, j3, j4, j5]
theorem nil_next (w : World) : Calls Tryd.prog 21 #[.pointer none] w fun e w' => e = .returned (.tuple #[.agg #[.int .i32 0, .int .i64 0, .int .i64 0, .int .i64 0, .int .i64 0, .int .i64 0], .int .i64 0]) ∧ Below w.heap.size w w' := by
  have b0 := (Below.refl w.heap.size w).alloc (Nat.le_refl _) (Obj.cells #[.int .i32 0, .int .i64 0, .int .i64 0, .int .i64 0, .int .i64 0, .int .i64 0] 32)
  have y0 := heap_alloc_new w (Obj.cells #[.int .i32 0, .int .i64 0, .int .i64 0, .int .i64 0, .int .i64 0, .int .i64 0] 32)
  have HB := Lib.hid b0
  have HY := Lib.hid y0
  clear b0 y0
  go_enter Tryd.func21, Tryd.ntmps21
  go_wp2_with fail
  refine (nil_peek _).mono ?_
  rintro e w2 ⟨rfl, b2⟩
  go_upto_region 2 with fail
  have hRl := (Array.getElem?_eq_some_iff.1 HY.out).1
  have y2 := (b2.block w.heap.size hRl).trans HY.out
  have hRl2 := (Array.getElem?_eq_some_iff.1 y2).1
  have c3 : Below w2.heap.size w2 (w2.alloc (Obj.cells #[.int .i32 0, .int .i64 0, .int .i64 0, .int .i64 0, .int .i64 0, .int .i64 0] 32)) := (Below.refl _ _).alloc (Nat.le_refl _) _
  have y3 : (w2.alloc (Obj.cells #[.int .i32 0, .int .i64 0, .int .i64 0, .int .i64 0, .int .i64 0, .int .i64 0] 32)).heap[w.heap.size]? = _ := (heap_alloc_old _ _ hRl2).trans y2
  have y4 := heap_alloc_new w2 (Obj.cells #[.int .i32 0, .int .i64 0, .int .i64 0, .int .i64 0, .int .i64 0, .int .i64 0] 32)
  have b13 := HB.out.trans ((b2.mono HB.out.size).trans (c3.mono (Nat.le_trans HB.out.size b2.size)))
  generalize w2.alloc (Obj.cells #[.int .i32 0, .int .i64 0, .int .i64 0, .int .i64 0, .int .i64 0, .int .i64 0] 32) = W at c3 y3 y4 b13 ⊢
  clear c3 y2 b2
  obtain ⟨R, hRR⟩ : ∃ R, Hid (R = w.heap.size) := ⟨_, rfl⟩
  obtain ⟨C, hQQ⟩ : ∃ C, Hid (C = w2.heap.size) := ⟨_, rfl⟩
  have hRC : R < C := by rw [hRR.out, hQQ.out]; exact hRl2
  rw [← hRR.out] at y3 ⊢
  rw [← hQQ.out] at y4 ⊢
  clear hRl hRl2
  have hn3 : R ≠ C := by omega
  have hn6 : C ≠ R := by omega
  have c0 : W.cell? ⟨C, 0, none⟩ = some (.int .i32 0) := by simp [World.cell?, y4]
  have c1 : W.cell? ⟨C, 1, none⟩ = some (.int .i64 0) := by simp [World.cell?, y4]
  have c2 : W.cell? ⟨C, 2, none⟩ = some (.int .i64 0) := by simp [World.cell?, y4]
  have c3 : W.cell? ⟨C, 3, none⟩ = some (.int .i64 0) := by simp [World.cell?, y4]
  have c4 : W.cell? ⟨C, 4, none⟩ = some (.int .i64 0) := by simp [World.cell?, y4]
  have c5 : W.cell? ⟨C, 5, none⟩ = some (.int .i64 0) := by simp [World.cell?, y4]
  have r0 : W.cell? ⟨R, 0, none⟩ = some (.int .i32 0) := by simp [World.cell?, y3]
  have r1 : W.cell? ⟨R, 1, none⟩ = some (.int .i64 0) := by simp [World.cell?, y3]
  have r2 : W.cell? ⟨R, 2, none⟩ = some (.int .i64 0) := by simp [World.cell?, y3]
  have r3 : W.cell? ⟨R, 3, none⟩ = some (.int .i64 0) := by simp [World.cell?, y3]
  have r4 : W.cell? ⟨R, 4, none⟩ = some (.int .i64 0) := by simp [World.cell?, y3]
  have r5 : W.cell? ⟨R, 5, none⟩ = some (.int .i64 0) := by simp [World.cell?, y3]
  have rz : ∀ i, W.frozen? ⟨R, i, none⟩ = false := fun i => by simp [World.frozen?, y3]
  go_wp2
  have hh := six_heap y3 (.int .i32 0) (.int .i64 0) (.int .i64 0) (.int .i64 0) (.int .i64 0) (.int .i64 0)
  have hg := six_fr (p := fun j => j = R) (w := W) (R := R) rfl (.int .i32 0) (.int .i64 0) (.int .i64 0) (.int .i64 0) (.int .i64 0) (.int .i64 0)
  generalize hV : ((((((W.setCell ⟨R, 0, none⟩ (.int .i32 0)).setCell ⟨R, 1, none⟩ (.int .i64 0)).setCell ⟨R, 2, none⟩ (.int .i64 0)).setCell ⟨R, 3, none⟩ (.int .i64 0)).setCell ⟨R, 4, none⟩ (.int .i64 0)).setCell ⟨R, 5, none⟩ (.int .i64 0)) = V at hh hg ⊢
  have j0 : V.cell? ⟨R, 0, none⟩ = some (.int .i32 0) := by simp [World.cell?, hh]
  have j1 : V.cell? ⟨R, 1, none⟩ = some (.int .i64 0) := by simp [World.cell?, hh]
  have j2 : V.cell? ⟨R, 2, none⟩ = some (.int .i64 0) := by simp [World.cell?, hh]
  have j3 : V.cell? ⟨R, 3, none⟩ = some (.int .i64 0) := by simp [World.cell?, hh]
  have j4 : V.cell? ⟨R, 4, none⟩ = some (.int .i64 0) := by simp [World.cell?, hh]
  have j5 : V.cell? ⟨R, 5, none⟩ = some (.int .i64 0) := by simp [World.cell?, hh]
  refine ⟨rfl, .tuple #[.agg #[.int .i32 0, .int .i64 0, .int .i64 0, .int .i64 0, .int .i64 0, .int .i64 0], .int .i64 0], ?_, rfl, b13.trans (hg.below b13.size (fun j e => by have e : j = R := e; have := hRR.out; omega))⟩
  simp [results, Tryd.f21, go_sem, j0, j1, j2, j3, j4, j5]
end Go.Proofs.YtpkdbfnnbbkkiaaDoor


/- The walk of gimletlaw04.FeedPlays. -/
namespace Gim
open Go Go.RowKit
/-- a call: its kind, is it the other's, its bytes (where they lie, how many, their room, they) -/
abbrev Opn := Int × Bool × Option Addr × Nat × Nat × List Int
def Opn.len (y : Opn) : Nat := y.2.2.2.1
/-- a slice of calls that is there to be read -/
structure Opl (w : World) (ao : Option Addr) (n cap : Nat) (os : List Opn) : Prop where
  len : os.length = n
  le : n ≤ cap
  cap_le : cap ≤ maxLen
  cell : ∀ j, j < n → ∃ b o, ao = some ⟨b, o, none⟩ ∧ b < w.heap.size ∧ ∀ i x, os[i]? = some x → w.cell? ⟨b, o + i * 3, none⟩ = some (.int .i64 x.1) ∧ w.cell? ⟨b, o + i * 3 + 1, none⟩ = some (.bool x.2.1) ∧ w.cell? ⟨b, o + i * 3 + 2, none⟩ = some (.slice x.2.2.1 x.2.2.2.1 x.2.2.2.2.1)
  each : ∀ y ∈ os, Rd w .u8 y.2.2.1 y.2.2.2.1 y.2.2.2.2.1 y.2.2.2.2.2 ∧ (y.2.2.1 = none → y.2.2.2.1 = 0 ∧ y.2.2.2.2.1 = 0) ∧ ∀ x ∈ y.2.2.2.2.2, 0 ≤ x ∧ x ≤ 255
theorem Opl.below {w w' : World} {ao : Option Addr} {n cap : Nat} {os : List Opn} (h : Opl w ao n cap os) (hb : Below w.heap.size w w') : Opl w' ao n cap os :=
  ⟨h.len, h.le, h.cap_le, fun j hj => by
    obtain ⟨b, o, h1, h2, h3⟩ := h.cell j hj
    exact ⟨b, o, h1, Nat.lt_of_lt_of_le h2 hb.size, fun i x hx => by
      obtain ⟨k0, k1, k2⟩ := h3 i x hx
      exact ⟨(hb.cell (p := ⟨b, o + i * 3, none⟩) h2).trans k0, (hb.cell (p := ⟨b, o + i * 3 + 1, none⟩) h2).trans k1, (hb.cell (p := ⟨b, o + i * 3 + 2, none⟩) h2).trans k2⟩⟩,
   fun y hy => ⟨(h.each y hy).1.below hb, (h.each y hy).2⟩⟩
/-- how many bytes the first i calls hand over -/
def opSum (os : List Opn) (i : Nat) : Nat := ((os.take i).map Opn.len).sum
theorem opSum_next (os : List Opn) {i : Nat} {x : Opn} (h : os[i]? = some x) : opSum os (i + 1) = opSum os i + x.len := by
  unfold opSum
  rw [List.take_add_one, h]
  simp
theorem opSum_le (os : List Opn) (i : Nat) : opSum os i ≤ (os.map Opn.len).sum := by
  have h := congrArg (fun l => (l.map Opn.len).sum) (List.take_append_drop i os)
  simp only [List.map_append, List.sum_append] at h
  unfold opSum
  omega
end Gim
namespace Go.Proofs.YtpkdbfnnbbkkiaaDoor
open Go.RowKit Gim
/-- the two pairs behind so many bytes handed over -/
def Quad (W w : World) (F M G N : Nat) (k : Nat) : Prop :=
  ∃ v v' xs bs t p e u u' ys cs s q d, Duo w W.heap.size F M v v' xs bs t p e ∧ Duo w W.heap.size G N u u' ys cs s q d ∧ (∀ j, Bl F M v v' j → ¬ Bl G N u u' j) ∧ bs.length ≤ k ∧ cs.length ≤ k ∧ Below W.heap.size W w
theorem Quad.fresh {W w w' : World} {F M G N k : Nat} (h : Quad W w F M G N k) (b : Below w.heap.size w w') : Quad W w' F M G N k := by
  obtain ⟨v, v', xs, bs, t, p, e, u, u', ys, cs, s, q, d, h1, h2, h3, h4, h5, h6⟩ := h
  exact ⟨v, v', xs, bs, t, p, e, u, u', ys, cs, s, q, d, h1.fresh b, h2.fresh b, h3, h4, h5, h6.trans (b.mono h6.size)⟩
theorem Quad.turn {W w : World} {F M G N k : Nat} (h : Quad W w F M G N k) : Quad W w G N F M k := by
  obtain ⟨v, v', xs, bs, t, p, e, u, u', ys, cs, s, q, d, h1, h2, h3, h4, h5, h6⟩ := h
  exact ⟨u, u', ys, cs, s, q, d, v, v', xs, bs, t, p, e, h2, h1, fun j k1 k2 => h3 j k2 k1, h5, h4, h6⟩
/-- a call of the first pair -/
theorem Quad.one {W wr w : World} {F M G N k : Nat} (h0 : Quad W wr F M G N k) (hbw : Below wr.heap.size wr w) (hT : U8 w) (c : Int) (o : Bool) (ao : Option Addr) (n cap : Nat) (zs : List Int) (hr : Rd W .u8 ao n cap zs) (hby : ∀ x ∈ zs, 0 ≤ x ∧ x ≤ 255) (hnone : ao = none → n = 0 ∧ cap = 0) (hn : k + n ≤ 1099511627770) :
    Calls Tryd.prog 20 #[.pointer (some ⟨F, 0, none⟩), .pointer (some ⟨M, 0, none⟩), .agg #[.int .i64 c, .bool o, .slice ao n cap]] w fun E w' => E = .returned (.bool true) ∧ Quad W w' F M G N (k + n) ∧ ∀ j, wr.heap.size ≤ j → j < w.heap.size → w'.heap[j]? = w.heap[j]? := by
  obtain ⟨v, v', xs, bs, t, p, e, u, u', ys, cs, s, q, d, h10, h20, h3, h4, h5, h60⟩ := h0
  have h1 := h10.fresh hbw
  have h2 := h20.fresh hbw
  have h6 := h60.trans (hbw.mono h60.size)
  have hl1 := h10.lt
  refine (one_calls W w _ F M v v' xs bs t p e h1 hT c o ao n cap zs hr rfl h6 hby hnone (by omega)).mono ?_
  rintro E w' ⟨rfl, v1, v1', xs1, bs1, t1, p1, e1, g1, g2, g3, g4, g5⟩
  have hl2 := h2.lt
  refine ⟨rfl, ⟨v1, v1', xs1, bs1, t1, p1, e1, u, u', ys, cs, s, q, d, g1, h2.frv g3 (fun j hj k => h3 j k hj), ?_, by omega, by omega, ?_⟩, fun j hj hjw => g3.block j hjw (fun k => by have := (hl1 j k).2; omega)⟩
  · rintro j (rfl | rfl | k1 | k1) hj
    · exact h3 _ (.inl rfl) hj
    · exact h3 _ (.inr (.inl rfl)) hj
    · rcases g4 j k1 with k2 | k2
      · exact h3 _ (.inr (.inr (.inl k2))) hj
      · have := (hl2 j hj).2; omega
    · rcases g5 j k1 with k2 | k2
      · exact h3 _ (.inr (.inr (.inr k2))) hj
      · have := (hl2 j hj).2; omega
  · exact h6.trans (g3.below h6.size (fun j hj => (h1.lt j hj).1))
set_option maxRecDepth 100000 in
set_option maxHeartbeats 8000000 in
theorem feedPlays_walk (ao : Option Addr) (n cap : Nat) (os : List Opn) (w : World) (hos : Opl w ao n cap os) (hn : n ≤ 1048576) (hsum : (os.map Opn.len).sum ≤ 1048576) (hT : U8 w) :
    Calls Tryd.prog 6 #[.slice ao n cap] w fun e w' => e = .returned (.bool true) ∧ Below w.heap.size w w' := by
  go_enter Tryd.func6, Tryd.ntmps6
  go_wp2_with fail
  refine (feed_awake w hT).mono ?_
  rintro E w1 ⟨rfl, b1⟩
  have hos1 := hos.below b1
  have hT1 := hT.below b1
  go_wp2_with fail
  refine (feedNew w1).mono ?_
  rintro E w2 ⟨rfl, m2, b2⟩
  have hF2 := m2.hF
  go_wp2_with fail
  refine (feedNew w2).mono ?_
  rintro E w3 ⟨rfl, m3, b3⟩
  have hG3 := m3.hF
  have hF3 : w3.heap[w1.heap.size]? = _ := (b3.block _ (Array.getElem?_eq_some_iff.1 hF2).1).trans hF2
  have b13 := b2.trans (b3.mono b2.size)
  have hl1 := (Array.getElem?_eq_some_iff.1 hF2).1
  have hl2 := (Array.getElem?_eq_some_iff.1 hG3).1
  have hl3 := (Array.getElem?_eq_some_iff.1 hF3).1
  clear m2 m3 b2 b3
  have c4 := (Below.refl w3.heap.size w3).alloc (Nat.le_refl _) (Obj.cells #[.slice none 0 0, .int .i64 0, .bool false] 55)
  have y4 := heap_alloc_new w3 (Obj.cells #[.slice none 0 0, .int .i64 0, .bool false] 55)
  obtain ⟨w4, hw4⟩ : ∃ w4, Hid (w4 = w3.alloc (Obj.cells #[.slice none 0 0, .int .i64 0, .bool false] 55)) := ⟨_, rfl⟩
  rw [← hw4.out] at c4 y4
  have c5 := (Below.refl w4.heap.size w4).alloc (Nat.le_refl _) (Obj.cells #[.slice none 0 0, .int .i64 0, .bool false] 55)
  have y5 := heap_alloc_new w4 (Obj.cells #[.slice none 0 0, .int .i64 0, .bool false] 55)
  obtain ⟨w5, hw5⟩ : ∃ w5, Hid (w5 = w4.alloc (Obj.cells #[.slice none 0 0, .int .i64 0, .bool false] 55)) := ⟨_, rfl⟩
  rw [← hw5.out] at c5 y5
  have c35 := c4.trans (c5.mono c4.size)
  have hl4 := (Array.getElem?_eq_some_iff.1 y4).1
  have hl5 := (Array.getElem?_eq_some_iff.1 y5).1
  have b15 := b13.trans (c35.mono b13.size)
  have hF5 : w5.heap[w1.heap.size]? = _ := (c35.block _ hl3).trans hF3
  have hG5 : w5.heap[w2.heap.size]? = _ := (c35.block _ hl2).trans hG3
  have hM5 : w5.heap[w3.heap.size]? = _ := (c5.block _ hl4).trans y4
  have hQ : Quad w1 w5 w1.heap.size w3.heap.size w2.heap.size w4.heap.size 0 := by
    refine ⟨.slice none 0 0, .slice none 0 0, [], [], 0, (0, 0, 1, 1), false, .slice none 0 0, .slice none 0 0, [], [], 0, (0, 0, 1, 1), false,
      ⟨⟨hF5, .inl ⟨rfl, rfl⟩, by simp, Nat.le_refl _, b15.size⟩, ⟨hM5, .inl ⟨rfl, rfl⟩, by simp, by omega, b15.size⟩, Pair.start, fun g hg => by cases hg⟩,
      ⟨⟨hG5, .inl ⟨rfl, rfl⟩, by simp, by omega, b15.size⟩, ⟨y5, .inl ⟨rfl, rfl⟩, by simp, by omega, b15.size⟩, Pair.start, fun g hg => by cases hg⟩, ?_, Nat.le_refl _, Nat.le_refl _, b15⟩
    rintro j (rfl | rfl | k | k) (k2 | k2 | k2 | k2)
    all_goals first | (cases k; done) | (cases k2; done) | omega
  have HQ := Lib.hid hQ
  have HO := Lib.hid hos1
  have HS := Lib.hid hsum
  have hle := hos.le
  have hcl := hos.cap_le
  have HB := Lib.hid b1
  have HT := Lib.hid hT1
  clear hos hos1 hT hT1 hsum hQ hF5 hG5 hM5 c35 c5 c4 y4 y5 hF2 hG3 hF3 b13 hl1 hl2 hl3 hl4 hl5 b15 b1
  obtain ⟨F, hF⟩ : ∃ F, Hid (F = w1.heap.size) := ⟨_, rfl⟩
  obtain ⟨G, hG⟩ : ∃ G, Hid (G = w2.heap.size) := ⟨_, rfl⟩
  obtain ⟨M, hM⟩ : ∃ M, Hid (M = w3.heap.size) := ⟨_, rfl⟩
  go_upto_region 6 with fail
  rw [← hw4.out]
  obtain ⟨N, hN⟩ : ∃ N, Hid (N = w4.heap.size) := ⟨_, rfl⟩
  go_upto_region 7 with fail
  rw [← hw5.out]
  rw [← hF.out, ← hG.out, ← hM.out, ← hN.out]
  rw [← hF.out, ← hG.out, ← hM.out, ← hN.out] at HQ
  clear hw4 hw5
  go_wp2_with fail
  go_loopw [7] (fun y wr => ∃ i : Nat, y = .int .i64 i ∧ i ≤ n ∧ Hid (Quad w1 wr F M G N (opSum os i))) (fun y _ => n - (intOf y).toNat)
  case atStart => exact ⟨0, rfl, Nat.zero_le _, by rw [show opSum os 0 = 0 from rfl]; exact HQ⟩
  case round =>
    obtain ⟨i, rfl, hin, H⟩ := hrel
    by_cases hi : i < n
    · have hbr : Below w1.heap.size w1 wr := by obtain ⟨_, _, _, _, _, _, _, _, _, _, _, _, _, _, _, _, _, _, _, h6⟩ := H.out; exact h6
      have hox := List.getElem?_eq_getElem (l := os) (i := i) (by rw [HO.out.len]; exact hi)
      obtain ⟨x, hx⟩ : ∃ x, x = os[i]'(by rw [HO.out.len]; exact hi) := ⟨_, rfl⟩
      rw [← hx] at hox
      have hmem : x ∈ os := by rw [hx]; exact List.getElem_mem _
      obtain ⟨b, o, rfl, hb, hc⟩ := (HO.out.below hbr).cell i hi
      obtain ⟨k0, k1, k2⟩ := hc i x hox
      obtain ⟨e1, e2, e3⟩ := HO.out.each x hmem
      have hsn := opSum_next os hox
      have hsl := opSum_le os (i + 1)
      have hs0 := HS.out
      obtain ⟨c, ot, ao2, n2, cap2, zs⟩ := x
      simp only [Opn.len] at k0 k1 k2 e1 e2 e3 hsn hs0
      have b8 := (Below.refl wr.heap.size wr).alloc (Nat.le_refl _) (Obj.cells #[.int .i64 c, .bool ot, .slice ao2 n2 cap2] 57)
      have y8 := heap_alloc_new wr (Obj.cells #[.int .i64 c, .bool ot, .slice ao2 n2 cap2] 57)
      have T8 := HT.out.below (hbr.trans (b8.mono hbr.size))
      have hC1 := H.out.one b8 T8 c ot ao2 n2 cap2 zs e1 e3 e2 (by omega)
      have hC2 := H.out.turn.one b8 T8 c ot ao2 n2 cap2 zs e1 e3 e2 (by omega)
      rw [← hsn] at hC1 hC2
      have HC1 := Lib.hid hC1
      have HC2 := Lib.hid hC2
      clear hx hox hmem hc e1 e2 e3 hsn hsl hs0 b8 T8 hC1 hC2 hbr
      cases ot
      · go_wp2_with fail
        refine HC1.out.mono ?_
        rintro E w9 ⟨rfl, Q9, _⟩
        have HQ9 := Lib.hid Q9
        clear Q9 y8
        go_wp2_with fail
        go_roundw
        case rel => exact ⟨i + 1, by go_num, by omega, HQ9⟩
        case measure => simp [RowKit.intOf]; omega
      · go_wp2_with fail
        refine HC2.out.mono ?_
        rintro E w9 ⟨rfl, Q9, fr9⟩
        have HQ9 := Lib.hid Q9.turn
        have y9 := (fr9 _ (Nat.le_refl _) (Array.getElem?_eq_some_iff.1 y8).1).trans y8
        have z9 : w9.cell? ⟨wr.heap.size, 1, none⟩ = some (.bool true) := by simp [World.cell?, y9]
        clear Q9 fr9 y8
        go_wp2_with fail
        go_roundw
        case rel => exact ⟨i + 1, by go_num, by omega, HQ9⟩
        case measure => simp [RowKit.intOf]; omega
    · obtain rfl : i = n := by omega
      have hbr : Below w1.heap.size w1 wr := by obtain ⟨_, _, _, _, _, _, _, _, _, _, _, _, _, _, _, _, _, _, _, h6⟩ := H.out; exact h6
      have HBR := Lib.hid (HB.out.trans (hbr.mono HB.out.size))
      clear hbr H
      go_wp2_with fail
      refine (nil_next _).mono ?_
      rintro E w6 ⟨rfl, b6⟩
      have c6 := b6.alloc b6.size (Obj.cells #[.int .i32 0, .int .i64 0, .int .i64 0, .int .i64 0, .int .i64 0, .int .i64 0] 32)
      have y6 := heap_alloc_new w6 (Obj.cells #[.int .i32 0, .int .i64 0, .int .i64 0, .int .i64 0, .int .i64 0, .int .i64 0] 32)
      obtain ⟨w7, hw7⟩ : ∃ w7, Hid (w7 = w6.alloc (Obj.cells #[.int .i32 0, .int .i64 0, .int .i64 0, .int .i64 0, .int .i64 0, .int .i64 0] 32)) := ⟨_, rfl⟩
      rw [← hw7.out] at c6 y6
      obtain ⟨D, hD⟩ : ∃ D, Hid (D = w6.heap.size) := ⟨_, rfl⟩
      have hB7 := HBR.out.trans (c6.mono HBR.out.size)
      rw [← hD.out] at y6
      clear b6 c6
      go_upto_region 15 with fail
      rw [← hw7.out, ← hD.out]
      go_wp2_with fail
      refine (nil_peek _).mono ?_
      rintro E w8 ⟨rfl, b8⟩
      have y8 := (b8.block D (Array.getElem?_eq_some_iff.1 y6).1).trans y6
      have hl8 := (Array.getElem?_eq_some_iff.1 y8).1
      have c8 := b8.alloc b8.size (Obj.cells #[.int .i32 0, .int .i64 0, .int .i64 0, .int .i64 0, .int .i64 0, .int .i64 0] 32)
      have y9 := heap_alloc_new w8 (Obj.cells #[.int .i32 0, .int .i64 0, .int .i64 0, .int .i64 0, .int .i64 0, .int .i64 0] 32)
      have y10 : (w8.alloc (Obj.cells #[.int .i32 0, .int .i64 0, .int .i64 0, .int .i64 0, .int .i64 0, .int .i64 0] 32)).heap[D]? = _ := (heap_alloc_old _ _ hl8).trans y8
      obtain ⟨w9, hw9⟩ : ∃ w9, Hid (w9 = w8.alloc (Obj.cells #[.int .i32 0, .int .i64 0, .int .i64 0, .int .i64 0, .int .i64 0, .int .i64 0] 32)) := ⟨_, rfl⟩
      rw [← hw9.out] at c8 y9 y10
      obtain ⟨D2, hD2⟩ : ∃ D, Hid (D = w8.heap.size) := ⟨_, rfl⟩
      rw [← hD2.out] at y9
      have HB9 := Lib.hid (hB7.trans (c8.mono hB7.size))
      clear b8 c8 y8 y6 hl8 hB7
      go_upto_region 16 with fail
      rw [← hw9.out, ← hD2.out]
      clear hw9 hw7
      have c0 : w9.cell? ⟨D, 0, none⟩ = some (.int .i32 0) := by simp [World.cell?, y10]
      have c1 : w9.cell? ⟨D, 1, none⟩ = some (.int .i64 0) := by simp [World.cell?, y10]
      have c2 : w9.cell? ⟨D, 2, none⟩ = some (.int .i64 0) := by simp [World.cell?, y10]
      have c3 : w9.cell? ⟨D, 3, none⟩ = some (.int .i64 0) := by simp [World.cell?, y10]
      have c4 : w9.cell? ⟨D, 4, none⟩ = some (.int .i64 0) := by simp [World.cell?, y10]
      have c5 : w9.cell? ⟨D, 5, none⟩ = some (.int .i64 0) := by simp [World.cell?, y10]
      have d0 : w9.cell? ⟨D2, 0, none⟩ = some (.int .i32 0) := by simp [World.cell?, y9]
      have d1 : w9.cell? ⟨D2, 1, none⟩ = some (.int .i64 0) := by simp [World.cell?, y9]
      have d2 : w9.cell? ⟨D2, 2, none⟩ = some (.int .i64 0) := by simp [World.cell?, y9]
      have d3 : w9.cell? ⟨D2, 3, none⟩ = some (.int .i64 0) := by simp [World.cell?, y9]
      have d4 : w9.cell? ⟨D2, 4, none⟩ = some (.int .i64 0) := by simp [World.cell?, y9]
      have d5 : w9.cell? ⟨D2, 5, none⟩ = some (.int .i64 0) := by simp [World.cell?, y9]
      go_wp2_with fail
      refine (nil_push _ _).mono ?_
      rintro E wa ⟨rfl, rfl⟩
      go_wp2_with fail
      refine (nil_end _).mono ?_
      rintro E wa ⟨rfl, rfl⟩
      go_wp2_with fail
      refine (nil_rest _).mono ?_
      rintro E wa ⟨rfl, rfl⟩
      go_wp2_with fail
      refine (nil_place _).mono ?_
      rintro E wb ⟨rfl, bb⟩
      go_wp2
      go_ret
      exact ⟨rfl, HB9.out.trans (bb.mono HB9.out.size)⟩
end Go.Proofs.YtpkdbfnnbbkkiaaDoor


