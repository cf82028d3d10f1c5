/- Two Hunts and the document's, side by side: laws for gimletlaw16.HuntPlays. -/
import Derived.Test.YtgajinnbmnnccaaHuntPair
namespace Gim
open Go Go.RowKit
/-- calls handed in, to be read -/
structure Od (w : World) (ao : Option Addr) (n cap : Nat) (os : List (Int × Bool × ByteArray)) : Prop where
  len : os.length = n
  le : n ≤ cap
  cap_le : cap ≤ maxLen
  cell : ∀ j, j < n → ∃ b o, ao = some ⟨b, o, none⟩ ∧ b < w.heap.size ∧ ∀ i x, os[i]? = some x → w.cell? ⟨b, o + i * 3, none⟩ = some (.int .i64 x.1) ∧ w.cell? ⟨b, o + i * 3 + 1, none⟩ = some (.bool x.2.1) ∧ w.cell? ⟨b, o + i * 3 + 2, none⟩ = some (.string x.2.2)
/-- how many bytes the first i calls hand over -/
def oSum (os : List (Int × Bool × ByteArray)) (i : Nat) : Nat := ((os.take i).map (·.2.2.size)).sum
theorem oSum_next (os : List (Int × Bool × ByteArray)) {i : Nat} {x : Int × Bool × ByteArray} (h : os[i]? = some x) : oSum os (i + 1) = oSum os i + x.2.2.size := by
  unfold oSum
  rw [List.take_add_one, h]
  simp
theorem oSum_le (os : List (Int × Bool × ByteArray)) (i : Nat) : oSum os i ≤ (os.map (·.2.2.size)).sum := by
  have h := congrArg (fun l => (l.map (·.2.2.size)).sum) (List.take_append_drop i os)
  simp only [List.map_append, List.sum_append] at h
  unfold oSum
  omega
end Gim
namespace Go.Proofs.Ytgajinnbmnnccaa
open Go.RowKit Gim
def errZ (c n : Int) : Int := if c < 0 ∨ 8 < c then 4 else if n < 0 then 2 else 0
def ProgNew (w : World) (c n : Int) (s : ByteArray) (e : Ending) (w' : World) : Prop :=
  ∃ hp, e = .returned (.tuple #[hp, .int .i64 (errZ c n)]) ∧ Below w.heap.size w w' ∧ ((errZ c n ≠ 0 ∧ hp = .pointer none) ∨ (errZ c n = 0 ∧ 0 ≤ c ∧ c ≤ 8 ∧ ∃ tv bv, hp = .pointer (some ⟨w.heap.size, 0, none⟩) ∧ St w' (w.heap.size + 1) w.heap.size c n.toNat (askedT c s) tv bv [] false))
def DocNew (w : World) (c n : Int) (s : ByteArray) (e : Ending) (w' : World) : Prop :=
  ∃ mp, e = .returned (.tuple #[mp, .int .i64 (errZ c n)]) ∧ Below w.heap.size w w' ∧ ((errZ c n ≠ 0 ∧ mp = .pointer none) ∨ (errZ c n = 0 ∧ ∃ M tv cv, mp = .pointer (some ⟨M, 0, none⟩) ∧ w.heap.size ≤ M ∧ M < w'.heap.size ∧ Mm w' w.heap.size M c n.toNat (rs s) tv cv [] false))
theorem progNew (w : World) (c n : Int) (s : ByteArray) (hs : s.size ≤ 1048576) : Calls Try.prog 9 #[.int .i64 c, .string s, .int .i64 n] w (ProgNew w c n s) := by
  by_cases hc : c < 0 ∨ 8 < c
  · have e : errZ c n = 4 := if_pos hc
    refine (new_kind w c s n hc).mono ?_
    rintro e' w' ⟨rfl, rfl⟩
    exact ⟨_, by rw [e], Below.refl _ _, .inl ⟨by rw [e]; decide, rfl⟩⟩
  · by_cases hn : n < 0
    · have e : errZ c n = 2 := by unfold errZ; rw [if_neg hc, if_pos hn]
      refine (new_range w c s n (by omega) (by omega) hn).mono ?_
      rintro e' w' ⟨rfl, rfl⟩
      exact ⟨_, by rw [e], Below.refl _ _, .inl ⟨by rw [e]; decide, rfl⟩⟩
    · have e : errZ c n = 0 := by unfold errZ; rw [if_neg hc, if_neg hn]
      have h := new_calls w c s n.toNat (by omega) (by omega) (by omega)
      rw [Int.toNat_of_nonneg (by omega)] at h
      refine h.mono ?_
      rintro e' w' ⟨tv, bv, rfl, st, b⟩
      exact ⟨_, by rw [e], b, .inr ⟨e, by omega, by omega, tv, bv, rfl, st⟩⟩
theorem docNew (w : World) (c n : Int) (s : ByteArray) (hs : s.size ≤ 1048576) : Calls Try.prog 17 #[.int .i64 c, .string s, .int .i64 n] w (DocNew w c n s) := by
  by_cases hc : c < 0 ∨ 8 < c
  · have e : errZ c n = 4 := if_pos hc
    refine (refNew_kind w c s n hc).mono ?_
    rintro e' w' ⟨rfl, rfl⟩
    exact ⟨_, by rw [e], Below.refl _ _, .inl ⟨by rw [e]; decide, rfl⟩⟩
  · by_cases hn : n < 0
    · have e : errZ c n = 2 := by unfold errZ; rw [if_neg hc, if_pos hn]
      refine (refNew_range w c s n (by omega) (by omega) hn).mono ?_
      rintro e' w' ⟨rfl, rfl⟩
      exact ⟨_, by rw [e], Below.refl _ _, .inl ⟨by rw [e]; decide, rfl⟩⟩
    · have e : errZ c n = 0 := by unfold errZ; rw [if_neg hc, if_neg hn]
      have h := refNew_calls w c s n.toNat (by omega) (by omega) (by omega)
      rw [Int.toNat_of_nonneg (by omega)] at h
      refine h.mono ?_
      rintro e' w' ⟨M, tv, cv, rfl, h1, h2, mm, b⟩
      exact ⟨_, by rw [e], b, .inr ⟨e, M, tv, cv, rfl, h1, h2, mm⟩⟩
/-- one of the two Hunts, with the document's; its blocks are among P -/
def Side (w : World) (B bd : Nat) (hp mp : Value) (P : Nat → Prop) : Prop :=
  hp = .pointer none ∨ ∃ H M c N s tv bv tv2 cv l wh, hp = .pointer (some ⟨H, 0, none⟩) ∧ mp = .pointer (some ⟨M, 0, none⟩) ∧ Pair w B bd H M c N s tv bv tv2 cv l wh ∧ ∀ j, own H M tv bv tv2 cv j → P j
theorem Side.frv {p P : Nat → Prop} {w w' : World} {B bd bd2 : Nat} {hp mp : Value} (h : Side w B bd hp mp P) (hf : Fr p w w') (hd : ∀ j, P j → ¬ p j) (hb : bd ≤ bd2) : Side w' B bd2 hp mp P := by
  rcases h with h | ⟨H, M, c, N, s, tv, bv, tv2, cv, l, wh, e1, e2, hp, ho⟩
  · exact .inl h
  · exact .inr ⟨H, M, c, N, s, tv, bv, tv2, cv, l, wh, e1, e2, (hp.frv hf (fun j hj => hd j (ho j hj))).more hb, ho⟩
def Two (w0 w : World) (bd : Nat) (hp mp gp np : Value) : Prop :=
  ∃ P1 P2 : Nat → Prop, Side w w0.heap.size bd hp mp P1 ∧ Side w w0.heap.size bd gp np P2 ∧ (∀ j, P1 j → ¬ P2 j) ∧ (∀ j, P1 j ∨ P2 j → j < w.heap.size) ∧ Below w0.heap.size w0 w
theorem Two.swap {w0 w : World} {bd : Nat} {hp mp gp np : Value} (h : Two w0 w bd hp mp gp np) : Two w0 w bd gp np hp mp := by
  obtain ⟨P1, P2, h1, h2, h3, h4, h5⟩ := h
  exact ⟨P2, P1, h2, h1, fun j a b => h3 j b a, fun j hj => h4 j hj.symm, h5⟩
theorem Two.below {w0 w : World} {bd : Nat} {hp mp gp np : Value} (h : Two w0 w bd hp mp gp np) : Below w0.heap.size w0 w := by
  obtain ⟨P1, P2, h1, h2, h3, h4, h5⟩ := h
  exact h5
theorem Two.fresh {w0 w w' : World} {bd bd2 : Nat} {hp mp gp np : Value} (h : Two w0 w bd hp mp gp np) (b : Below w.heap.size w w') (hb : bd ≤ bd2) : Two w0 w' bd2 hp mp gp np := by
  obtain ⟨P1, P2, h1, h2, h3, h4, h5⟩ := h
  have hf : Fr (fun _ => False) w w' := Fr.of b
  exact ⟨P1, P2, h1.frv hf (fun _ _ x => x) hb, h2.frv hf (fun _ _ x => x) hb, h3, fun j hj => Nat.lt_of_lt_of_le (h4 j hj) b.size, h5.trans (b.mono h5.size)⟩
/-- a call of one of the first -/
theorem Two.a {w0 w : World} {bd bd2 : Nat} {hp mp gp np : Value} (h : Two w0 w bd hp mp gp np) (hb : bd ≤ bd2) :
    hp = .pointer none ∨ ∃ H M c N s tv bv tv2 cv l wh, hp = .pointer (some ⟨H, 0, none⟩) ∧ mp = .pointer (some ⟨M, 0, none⟩) ∧ Pair w w0.heap.size bd H M c N s tv bv tv2 cv l wh ∧
      ∀ e w', OneOK w w0.heap.size bd2 H M c N s tv bv tv2 cv e w' → e = .returned (.bool true) ∧ Two w0 w' bd2 hp mp gp np := by
  obtain ⟨P1, P2, h1, h2, h3, h4, h5⟩ := h
  rcases h1 with h1 | ⟨H, M, c, N, s, tv, bv, tv2, cv, l, wh, e1, e2, hpp, ho⟩
  · exact .inl h1
  · refine .inr ⟨H, M, c, N, s, tv, bv, tv2, cv, l, wh, e1, e2, hpp, fun e w' hk => ?_⟩
    obtain ⟨he, cv', l', wh', hp', hf, hat⟩ := hk
    have hsz := hf.size
    refine ⟨he, fun j => P1 j ∨ (w.heap.size ≤ j ∧ j < w'.heap.size), P2, .inr ⟨H, M, c, N, s, tv, bv, tv2, cv', l', wh', e1, e2, hp', fun j hj => ?_⟩, h2.frv hf (fun j hj hj2 => h3 j (ho j hj2) hj) hb, fun j hj hj2 => ?_, fun j hj => ?_, h5.trans (hf.below h5.size (fun j hj => (hpp.lt j hj).1))⟩
    · have hlt := hp'.lt j hj
      by_cases hge : w.heap.size ≤ j
      · exact .inr ⟨hge, hlt.2⟩
      · refine .inl (ho j ?_)
        rcases hj with hj | hj | hj | hj | hj | hj
        · exact .inl hj
        · exact .inr (.inl hj)
        · exact .inr (.inr (.inl hj))
        · exact .inr (.inr (.inr (.inl hj)))
        · exact .inr (.inr (.inr (.inr (.inl hj))))
        · rcases hat j hj with h | h
          · exact .inr (.inr (.inr (.inr (.inr h))))
          · omega
    · rcases hj with hj | hj
      · exact h3 j hj hj2
      · have := h4 j (.inr hj2); omega
    · rcases hj with (hj | hj) | hj
      · have := h4 j (.inl hj); omega
      · omega
      · have := h4 j (.inr hj); omega
theorem Pair.not_op {w : World} {B bd H M : Nat} {c : Int} {N : Nat} {s : ByteArray} {tv bv tv2 cv : Value} {l : List Int} {whole : Bool} (h : Pair w B bd H M c N s tv bv tv2 cv l whole) {O : Nat} {a : Array Value} (hO : w.heap[O]? = some (.cells a 51)) : ¬ own H M tv bv tv2 cv O := by
  have hty := h.st.ty
  intro hj
  rcases hj with e | e | e | e | e | e
  · obtain ⟨a2, ha⟩ := hty.1
    exact ty_ne hO ha (by decide) e
  · exact ty_ne hO h.mm.hM (by decide) e
  · obtain ⟨a2, ha⟩ := hty.2.1 O e
    exact ty_ne hO ha (by decide) rfl
  · obtain ⟨a2, ha⟩ := hty.2.2 O e
    exact ty_ne hO ha (by decide) rfl
  · obtain ⟨a2, ha⟩ := own_ty h.mm.ra e
    exact ty_ne hO ha (by decide) rfl
  · obtain ⟨a2, ha⟩ := own_ty h.mm.rc e
    exact ty_ne hO ha (by decide) rfl
theorem Mm.base {w : World} {B B2 M : Nat} {c : Int} {N : Nat} {T : List Int} {tv cv : Value} {l : List Int} {whole : Bool} (h : Mm w B M c N T tv cv l whole) (hB : B2 ≤ B) : Mm w B2 M c N T tv cv l whole :=
  ⟨h.hM, rowMono h.ra hB, rowMono h.rc hB, h.ne, Nat.le_trans hB h.le⟩
/-- a Hunt made now, the document's made later -/
theorem side_new {w0 w1 w2 w3 w4 w5 : World} {c n : Int} {s : ByteArray} {hp mp : Value} (hs : s.size ≤ 1048576) (h01 : w0.heap.size ≤ w1.heap.size)
    (h1 : (errZ c n ≠ 0 ∧ hp = .pointer none) ∨ (errZ c n = 0 ∧ 0 ≤ c ∧ c ≤ 8 ∧ ∃ tv bv, hp = .pointer (some ⟨w1.heap.size, 0, none⟩) ∧ St w2 (w1.heap.size + 1) w1.heap.size c n.toNat (askedT c s) tv bv [] false))
    (h2 : (errZ c n ≠ 0 ∧ mp = .pointer none) ∨ (errZ c n = 0 ∧ ∃ M tv cv, mp = .pointer (some ⟨M, 0, none⟩) ∧ w3.heap.size ≤ M ∧ M < w4.heap.size ∧ Mm w4 w3.heap.size M c n.toNat (rs s) tv cv [] false))
    (b25 : Below w2.heap.size w2 w5) (b45 : Below w4.heap.size w4 w5) (h23 : w2.heap.size ≤ w3.heap.size) :
    Side w5 w0.heap.size 0 hp mp (fun j => (w1.heap.size ≤ j ∧ j < w2.heap.size) ∨ (w3.heap.size ≤ j ∧ j < w4.heap.size)) := by
  rcases h1 with ⟨_, h1⟩ | ⟨hz, hc0, hc8, tv, bv, rfl, st⟩
  · exact .inl h1
  rcases h2 with ⟨h2, _⟩ | ⟨_, M, tv2, cv, rfl, hM1, hM2, mm⟩
  · exact absurd hz h2
  have hl := st.lts
  refine .inr ⟨w1.heap.size, M, c, n.toNat, s, tv, bv, tv2, cv, [], false, rfl, rfl, ⟨st.below b25, (mm.frv (Fr.of (p := fun _ => False) b45) (fun x => x) (fun _ _ x => x) (fun _ _ x => x)).base (by have := h01; have := hl.1; omega), fun g hg hg2 => ?_, ⟨h01, by have := hl.1; omega⟩, hc0, hc8, hs, by simp⟩, fun j hj => ?_⟩
  · have := (hl.2.2 g hg).2
    have := (Row.lt mm.rc g hg2).1
    omega
  · rcases hj with rfl | rfl | e | e | e | e
    · exact .inl ⟨Nat.le_refl _, hl.1⟩
    · exact .inr ⟨hM1, hM2⟩
    · have := hl.2.1 j e; exact .inl ⟨by omega, this.2⟩
    · have := hl.2.2 j e; exact .inl ⟨by omega, this.2⟩
    · exact .inr (Row.lt mm.ra j e)
    · exact .inr (Row.lt mm.rc j e)
end Go.Proofs.Ytgajinnbmnnccaa
