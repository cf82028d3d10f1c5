/- The walks of gimletref16's New, Add, Close. -/
import Derived.Test.YtgajinnbmnnccaaRef16C
namespace Go.Proofs.Ytgajinnbmnnccaa
open Go.RowKit Gim
def RefNew (w : World) (c : Int) (N : Nat) (T : List Int) (e : Ending) (w' : World) : Prop :=
  ∃ M tv cv, e = .returned (.tuple #[.pointer (some ⟨M, 0, none⟩), .int .i64 0]) ∧ w.heap.size ≤ M ∧ M < w'.heap.size ∧ Mm w' w.heap.size M c N T tv cv [] false ∧ Below w.heap.size w w'
set_option maxHeartbeats 1000000 in
theorem refNew_kind (w : World) (c : Int) (s : ByteArray) (num : Int) (hc : c < 0 ∨ 8 < c) : Calls Try.prog 17 #[.int .i64 c, .string s, .int .i64 num] w (NewErr w 4) := by
  rcases hc with hc | hc
  · go_enter Try.func17, Try.ntmps17
    go_wp2
    go_ret2
    exact ⟨rfl, rfl⟩
  · have hc2 : ¬ c < 0 := by omega
    go_enter Try.func17, Try.ntmps17
    go_wp2
    go_ret2
    exact ⟨rfl, rfl⟩
set_option maxHeartbeats 1000000 in
theorem refNew_range (w : World) (c : Int) (s : ByteArray) (num : Int) (hc0 : 0 ≤ c) (hc8 : c ≤ 8) (hn : num < 0) : Calls Try.prog 17 #[.int .i64 c, .string s, .int .i64 num] w (NewErr w 2) := by
  have hc2 : ¬ c < 0 := by omega
  have hc3 : ¬ 8 < c := by omega
  go_enter Try.func17, Try.ntmps17
  go_wp2
  go_ret2
  exact ⟨rfl, rfl⟩
set_option maxHeartbeats 1000000 in
theorem refNew_calls (w : World) (c : Int) (s : ByteArray) (N : Nat) (hc0 : 0 ≤ c) (hc8 : c ≤ 8) (hs : s.size ≤ 1099511627) : Calls Try.prog 17 #[.int .i64 c, .string s, .int .i64 N] w (RefNew w c N (rs s)) := by
  have hc2 : ¬ c < 0 := by omega
  have hc3 : ¬ 8 < c := by omega
  have hn : ¬ (N : Int) < 0 := by omega
  go_enter Try.func17, Try.ntmps17
  go_wp2_with fail
  refine (ref1Runes _ s hs).mono ?_
  rintro e w1 ⟨tv, rfl, hr, b⟩
  obtain ⟨ta, tc, rfl, _⟩ := hr.rd
  go_wp2
  go_ret2
  have hb2 : Below w1.heap.size w1 (w1.alloc (Obj.cells #[.int .i64 c, .int .i64 N, .slice ta (rs s).length tc, .slice none 0 0, .bool false] 69)) := (Below.refl _ _).alloc (Nat.le_refl _) _
  exact ⟨w1.heap.size, _, .slice none 0 0, rfl, b.size, by simp, ⟨heap_alloc_new w1 _, rowfrv hr (Fr.of (p := fun _ => False) hb2) (fun _ _ x => x), World.ownsRow_nil _ _ _ _, fun g _ h => (by cases h), Nat.le_trans b.size hb2.size⟩, b.trans (hb2.mono b.size)⟩
set_option maxHeartbeats 1000000 in
theorem Mm.close {w : World} {B M : Nat} {c : Int} {N : Nat} {T : List Int} {tv cv : Value} {l : List Int} {whole : Bool} (h : Mm w B M c N T tv cv l whole) :
    Calls Try.prog 34 #[.pointer (some ⟨M, 0, none⟩)] w fun e w' => e = .returned (.int .i64 (if whole then 5 else 0)) ∧ Fr (fun j => j = M) w w' ∧ Mm w' B M c N T tv cv l true := by
  have k4 : w.cell? ⟨M, 4, none⟩ = some (.bool whole) := by simp [World.cell?, h.hM]
  have kf : w.frozen? ⟨M, 4, none⟩ = false := by simp [World.frozen?, h.hM]
  have hx := h.hM
  have hta : ∀ g, tv.ownBlock = some g → ¬ g = M := fun g hg e => by
    obtain ⟨cur, hcur⟩ := own_ty h.ra hg
    exact ty_ne hcur hx (by decide) e
  have hca : ∀ g, cv.ownBlock = some g → ¬ g = M := fun g hg e => by
    obtain ⟨cur, hcur⟩ := own_ty h.rc hg
    exact ty_ne hcur hx (by decide) e
  obtain ⟨_, hra, hrc, hne, hle⟩ := h
  cases whole
  · go_enter Try.func34, Try.ntmps34
    go_wp2
    go_ret
    have hf : Fr (fun j => j = M) w (w.setCell ⟨M, 4, none⟩ (.bool true)) := (Fr.refl (fun j => j = M) w).set M 4 _ rfl
    exact ⟨rfl, hf, by rw [set_at hx]; rfl, rowfrv hra hf hta, rowfrv hrc hf hca, hne, Nat.le_trans hle hf.size⟩
  · go_enter Try.func34, Try.ntmps34
    go_wp2
    go_ret
    exact ⟨rfl, Fr.refl _ _, hx, hra, hrc, hne, hle⟩
theorem Mm.ended {w : World} {B M : Nat} {c : Int} {N : Nat} {T : List Int} {tv cv : Value} {l : List Int} (s : ByteArray) (h : Mm w B M c N T tv cv l true) :
    Calls Try.prog 33 #[.pointer (some ⟨M, 0, none⟩), .string s] w fun e w' => e = .returned (.int .i64 5) ∧ w' = w := by
  have k4 : w.cell? ⟨M, 4, none⟩ = some (.bool true) := by simp [World.cell?, h.hM]
  go_enter Try.func33, Try.ntmps33
  go_wp2
  go_ret
  exact ⟨rfl, rfl⟩
def RefAdd (w : World) (B M : Nat) (c : Int) (N : Nat) (T : List Int) (tv cv : Value) (l : List Int) (e : Ending) (w' : World) : Prop :=
  e = .returned (.int .i64 0) ∧ ∃ cv', Mm w' B M c N T tv cv' l false ∧ Fr (fun j => j = M ∨ cv.ownBlock = some j) w w' ∧ (∀ g, cv'.ownBlock = some g → cv.ownBlock = some g ∨ w.heap.size ≤ g)
set_option maxHeartbeats 1000000 in
theorem Mm.add {w : World} {B M : Nat} {c : Int} {N : Nat} {T : List Int} {tv cv : Value} {l : List Int} (s : ByteArray) (h : Mm w B M c N T tv cv l false) (hs : s.size ≤ 1099511627) (hl : l.length ≤ 1099511627776) :
    Calls Try.prog 33 #[.pointer (some ⟨M, 0, none⟩), .string s] w (RefAdd w B M c N T tv cv (l ++ rs s)) := by
  have k3 : w.cell? ⟨M, 3, none⟩ = some cv := by simp [World.cell?, h.hM]
  have k4 : w.cell? ⟨M, 4, none⟩ = some (.bool false) := by simp [World.cell?, h.hM]
  have hx := h.hM
  have hrl := rs_length s
  have hM := (Array.getElem?_eq_some_iff.1 hx).1
  have hta : ∀ g, tv.ownBlock = some g → ¬ g = M := fun g hg e => by
    obtain ⟨cur, hcur⟩ := own_ty h.ra hg
    exact ty_ne hcur hx (by decide) e
  have hca : ∀ g, cv.ownBlock = some g → ¬ g = M := fun g hg e => by
    obtain ⟨cur, hcur⟩ := own_ty h.rc hg
    exact ty_ne hcur hx (by decide) e
  have hR : Hid (∀ w, Calls Try.prog 32 #[.string s] w (GivesRow w 3 .i64 (rs s))) := fun w => ref1Runes w s hs
  obtain ⟨_, hra, hrc, hne, hle⟩ := h
  unfold RefAdd
  obtain ⟨X, hX⟩ : ∃ X, Hid (X = rs s) := ⟨_, rfl⟩
  rw [← hX.out] at hR hrl ⊢
  go_enter Try.func33, Try.ntmps33
  go_wp2_with fail
  go_region_law (first | (go_simp; go_at_call 32; refine (hR.out _).mono ?_; rintro e w2 ⟨v2, rfl, hr2, hb2⟩; have c2 : Below w.heap.size w w2 := (by first | exact hb2 | exact ((Below.refl _ _).drew).trans hb2); have x2 := (c2.block M hM).trans hx; have hrc2 := rowfrv hrc (Fr.of (p := fun _ => False) c2) (fun _ _ x => x); have z3 : w2.cell? ⟨M, 3, none⟩ = some cv := (by simp [World.cell?, x2])) | (refine step_ints _ rfl _ _ rfl B _ cv _ l X (by rfl) hrc2 (by rfl) hr2 (by omega) (Nat.le_trans hle c2.size) ?_; intro v3 w3 hrow3 hgrow3 hat3; obtain ⟨a3, c3, rfl, _⟩ := hrow3.rd; have x3 : w3.heap[M]? = _ := (hgrow3.block M (Nat.lt_of_lt_of_le hM c2.size) (fun e => hca M e.symm rfl)).trans x2; have z4 : w3.cell? ⟨M, 3, none⟩ = some cv := (by simp [World.cell?, x3]); have z5 : w3.frozen? ⟨M, 3, none⟩ = false := (by simp [World.frozen?, x3])))
  all_goals
    rw [List.length_append] at hrow3 hat3
    have hfA : Fr (fun j => j = M ∨ cv.ownBlock = some j) w (w3.setCell ⟨M, 3, none⟩ (.slice a3 (l.length + X.length) c3)) :=
      ((Fr.of (p := fun j => j = M ∨ cv.ownBlock = some j) c2).trans ((Fr.grown hgrow3).mono (fun j e => .inr e.symm))).set M 3 _ (.inl rfl)
    have hfB : Fr (fun j => j = M) w3 (w3.setCell ⟨M, 3, none⟩ (.slice a3 (l.length + X.length) c3)) := (Fr.refl (fun j => j = M) w3).set M 3 _ rfl
    have hmm : Mm (w3.setCell ⟨M, 3, none⟩ (.slice a3 (l.length + X.length) c3)) B M c N T tv (.slice a3 (l.length + X.length) c3) (l ++ X) false := by
      refine ⟨by rw [set_at x3]; rfl, rowfrv hra hfA (fun g hg e => ?_), rowfrv hrow3 hfB (fun g hg e => ?_), fun g hg hg2 => ?_, Nat.le_trans hle hfA.size⟩
      · rcases e with e | e
        · exact hta g hg e
        · exact hne g hg e
      · have e : g = M := e
        rcases hat3 g hg with h | h
        · exact hca g h e
        · have := c2.size; omega
      · have h1 := (Row.lt hra g hg).2
        rcases hat3 g hg2 with h | h
        · exact hne g hg h
        · have := c2.size; omega
    have hat4 : ∀ g, (Value.slice a3 (l.length + X.length) c3).ownBlock = some g → cv.ownBlock = some g ∨ w.heap.size ≤ g := fun g hg => (hat3 g hg).imp id (fun h => Nat.le_trans c2.size h)
    clear hrow3 hat3 x3 x2 z3 z4 z5 hgrow3 hrc2 hr2 hb2
    go_wp2
    go_ret
    exact ⟨rfl, _, hmm, hfA, hat4⟩
end Go.Proofs.Ytgajinnbmnnccaa
