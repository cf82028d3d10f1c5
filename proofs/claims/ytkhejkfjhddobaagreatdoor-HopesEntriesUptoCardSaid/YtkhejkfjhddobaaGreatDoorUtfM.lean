/- Plain laws on the characters of a string, as the model's own range goes through it. No program in sight. -/
import Derived.Lib.RuneCount
import Derived.Test.YtkhejkfjhddobaaGreatDoorProg
import Derived.WalkKit
import Derived.WalkSmall
import Derived.Lib.Hide
import Derived.Lib.OthersKept
import Derived.BigQuiet
import Derived.Laws.Cover4
import Derived.WalkLawsBesides
import Derived.Deep.QuietTactic
section
namespace Gim
open Go

/-- characters of s from place p on, with fuel -/
def rsF (s : ByteArray) : Nat → Nat → List Int
  | 0, _ => []
  | f + 1, p => if p < s.size then ((Utf8.decode s p).1 : Int) :: rsF s f (p + (Utf8.decode s p).2) else []

theorem rsF_end (s : ByteArray) (f p : Nat) (h : ¬ p < s.size) : rsF s f p = [] := by
  cases f <;> simp [rsF, h]

theorem rsF_fuel (s : ByteArray) : ∀ (f g p : Nat), s.size ≤ p + f → s.size ≤ p + g → rsF s f p = rsF s g p := by
  intro f
  induction f with
  | zero => intro g p h _; rw [rsF_end s g p (by omega)]; rfl
  | succ f ih =>
    intro g p h h2
    by_cases hp : p < s.size
    · obtain ⟨g, rfl⟩ : ∃ g', g = g' + 1 := ⟨g - 1, by omega⟩
      have hw := Lib.decode_width_pos s p hp
      simp only [rsF, hp, if_true]
      rw [ih g (p + (Utf8.decode s p).2) (by omega) (by omega)]
    · rw [rsF_end s _ p hp, rsF_end s _ p hp]

/-- characters from place p on -/
def rsAt (s : ByteArray) (p : Nat) : List Int := rsF s (s.size - p) p
/-- the characters of s -/
def rs (s : ByteArray) : List Int := rsAt s 0

theorem rsAt_end {s : ByteArray} {p : Nat} (h : ¬ p < s.size) : rsAt s p = [] := rsF_end s _ p h
theorem rsAt_next {s : ByteArray} {p : Nat} (h : p < s.size) : rsAt s p = ((Utf8.decode s p).1 : Int) :: rsAt s (p + (Utf8.decode s p).2) := by
  have hw := Lib.decode_width_pos s p h
  unfold rsAt
  obtain ⟨f, hf⟩ : ∃ f, s.size - p = f + 1 := ⟨s.size - p - 1, by omega⟩
  rw [hf]
  simp only [rsF, h, if_true]
  rw [rsF_fuel s f (s.size - (p + (Utf8.decode s p).2)) (p + (Utf8.decode s p).2) (by omega) (by omega)]

theorem rsF_length (s : ByteArray) : ∀ (f p : Nat), (rsF s f p).length ≤ f := by
  intro f
  induction f with
  | zero => intro p; simp [rsF]
  | succ f ih => intro p; simp only [rsF]; split <;> simp [ih _]

theorem rsAt_length (s : ByteArray) (p : Nat) : (rsAt s p).length ≤ s.size - p := rsF_length s _ p
theorem rs_length (s : ByteArray) : (rs s).length ≤ s.size := rsAt_length s 0

theorem decode_nonneg_lt (s : ByteArray) (p : Nat) : (Utf8.decode s p).1 ≤ 1114111 := by
  have hb : ∀ k, (s.get! (p + k)).toNat < 256 := fun k => (s.get! (p + k)).toNat_lt
  have h0 := hb 0; have h1 := hb 1; have h2 := hb 2; have h3 := hb 3
  simp only [Utf8.decode]
  repeat' split
  all_goals simp_all [Utf8.runeError, Utf8.valid]
  all_goals omega

theorem rsF_range (s : ByteArray) : ∀ (f p : Nat), ∀ r ∈ rsF s f p, 0 ≤ r ∧ r ≤ 1114111 := by
  intro f
  induction f with
  | zero => intro p r h; simp [rsF] at h
  | succ f ih =>
    intro p r h
    simp only [rsF] at h
    split at h
    · rcases List.mem_cons.1 h with h | h
      · subst h; have := decode_nonneg_lt s p; omega
      · exact ih _ r h
    · simp at h
theorem rs_range (s : ByteArray) : ∀ r ∈ rs s, 0 ≤ r ∧ r ≤ 1114111 := rsF_range s _ 0

/-- the element number j (kept from the walk's simp) -/
def gt (l : List Int) (j : Nat) : Int := (l[j]?).getD 0
theorem gt_some {l : List Int} {j : Nat} (h : j < l.length) : l[j]? = some (gt l j) := by simp [gt, h]
theorem gt_lt {l : List Int} {j : Nat} (h : j < l.length) : gt l j = l[j] := by simp [gt, h]
theorem gt_mem {l : List Int} {j : Nat} (h : j < l.length) : gt l j ∈ l := by rw [gt_lt h]; exact List.getElem_mem h

theorem gt_ext {l t : List Int} (h : l.length = t.length) (hg : ∀ j, j < l.length → gt l j = gt t j) : l = t := by
  apply List.ext_getElem h
  intro j h1 h2
  have := hg j h1
  rwa [gt_lt h1, gt_lt h2] at this

/-- one character on, by number -/
theorem rs_step {s : ByteArray} {p n : Nat} (hp : p < s.size) (h : (rs s).drop n = rsAt s p) :
    n < (rs s).length ∧ gt (rs s) n = ((Utf8.decode s p).1 : Int) ∧ (rs s).drop (n + 1) = rsAt s (p + (Utf8.decode s p).2) := by
  rw [rsAt_next hp] at h
  have hn : n < (rs s).length := by
    rcases Nat.lt_or_ge n (rs s).length with h1 | h1
    · exact h1
    · rw [List.drop_eq_nil_of_le h1] at h; cases h
  rw [List.drop_eq_getElem_cons hn] at h
  have h2 := (List.cons.inj h)
  exact ⟨hn, by rw [gt_lt hn]; exact h2.1, h2.2⟩
theorem rs_stop {s : ByteArray} {p n : Nat} (hp : ¬ p < s.size) (h : (rs s).drop n = rsAt s p) : (rs s).length ≤ n := by
  rw [rsAt_end hp] at h
  simpa using h

end Gim

end

section
namespace Gim
open Go Go.RowKit

/-- v is a slice of numbers xs of kind k that lies in blocks from B on -/
def Row (w : World) (B : Nat) (e : TypeId) (k : IntKind) (v : Value) (xs : List Int) : Prop := w.ownsRow B e 1 v xs.length (xs.map (Value.int k))

/-- a call that hands back such a slice, new, and leaves all that was -/
def GivesRow (w : World) (e : TypeId) (k : IntKind) (xs : List Int) (en : Ending) (w' : World) : Prop :=
  ∃ v, en = .returned v ∧ Row w' w.heap.size e k v xs ∧ Below w.heap.size w w'

theorem Row.lt {w : World} {B : Nat} {e : TypeId} {k : IntKind} {v : Value} {xs : List Int} (h : Row w B e k v xs) : ∀ g, v.ownBlock = some g → B ≤ g ∧ g < w.heap.size := World.ownsRow.lt h

theorem iter_grown {w w' : World} {v : Value} {B : Nat} {e : TypeId} {n : Nat} {xs : List Value} {k : Nat} {s : ByteArray} {p : Nat}
    (hown : w.ownsRow B e 1 v n xs) (hg : w.grownBy w' v.ownBlock) (hit : w.heap[k]? = some (.stringIter s p)) : w'.heap[k]? = some (.stringIter s p) := by
  have hk : k < w.heap.size := (Array.getElem?_eq_some_iff.1 hit).1
  rw [hg.block k hk ?_]
  · exact hit
  · intro hk2
    rcases hown.2 with ⟨rfl, _⟩ | ⟨g, cap, cur, rfl, _, hgg, _⟩
    · simp [Value.ownBlock] at hk2
    · simp [Value.ownBlock] at hk2
      subst hk2
      rw [hit] at hgg
      cases hgg

theorem ownsRow_iterAt' {w : World} {base : Nat} {e : TypeId} {size : Nat} {v : Value} {n : Nat} {xs : List Value} (h : w.ownsRow base e size v n xs) {k : Nat} {s : ByteArray} {p : Nat}
    (hit : w.heap[k]? = some (.stringIter s p)) (p' : Nat) : (w.iterAt k s p').ownsRow base e size v n xs := by
  obtain ⟨h1, h2⟩ := h
  refine ⟨h1, ?_⟩
  rcases h2 with h2 | ⟨g, cap, cur, a, b, c, d⟩
  · exact .inl h2
  · refine .inr ⟨g, cap, cur, a, b, ?_, d⟩
    have hne : g ≠ k := by
      intro e1
      rw [e1, hit] at c
      cases c
    rw [Lib.iterAt_other _ _ _ _ _ hne]
    exact c

theorem one_new (w : World) (a : Value) (t : TypeId) : ∀ j u, [a][j]? = some u → (w.alloc (.cells #[a] t)).cell? ((⟨w.heap.size, 0, none⟩ : Addr).add j) = some u := by
  intro j u hj
  match j, hj with
  | 0, hj => simp at hj; subst hj; simp [Addr.add]
  | j + 1, hj => simp at hj

/-- the string's iterator in block k has gone on to place p' -/
structure Went (w : World) (k : Nat) (s : ByteArray) (p' : Nat) (W1 : World) : Prop where
  it : W1.heap[k]? = some (.stringIter s p')
  size : W1.heap.size = w.heap.size
  below : ∀ B a, Below B a w → B ≤ k → Below B a W1
  owns : ∀ base e z v n xs, w.ownsRow base e z v n xs → W1.ownsRow base e z v n xs
  other : ∀ j, j ≠ k → W1.heap[j]? = w.heap[j]?
  at_ : W1.iterPos k = p'

theorem next_some {P : Program} {w : World} {k : Nat} {s : ByteArray} {p : Nat} (hit : w.heap[k]? = some (.stringIter s p)) (hp : p < s.size) :
    ∃ W1, (∀ ty, (Instr.next (.pointer (some ⟨k, 0, none⟩)) true ty).run P w = .ok (.tuple #[.bool true, .int .i64 p, .int .i32 (Utf8.decode s p).1]) W1) ∧ Went w k s (p + (Utf8.decode s p).2) W1 :=
  ⟨w.iterAt k s (p + (Utf8.decode s p).2), fun ty => Lib.run_next_any_at w k s p ty hit hp,
    Lib.iterAt_heap w k s p _ hit, Lib.iterAt_size _ _ _ _, fun _ _ hb hk => Lib.below_iterAt hb hk _ _, fun _ _ _ _ _ _ h => ownsRow_iterAt' h hit _, fun _ hj => Lib.iterAt_other _ _ _ _ _ hj, iterPos_of (Lib.iterAt_heap w k s p _ hit)⟩

/-- v is a slice of numbers xs of kind k, to be read -/
structure Rd (w : World) (k : IntKind) (ao : Option Addr) (n cap : Nat) (xs : List Int) : Prop where
  len : xs.length = n
  le : n ≤ cap
  cap_le : cap ≤ maxLen
  cell : ∀ j, j < n → ∃ b o, ao = some ⟨b, o, none⟩ ∧ b < w.heap.size ∧ ∀ i, i < n → w.cell? ⟨b, o + i, none⟩ = some (.int k (gt xs i))

theorem Rd.below {w w' : World} {k : IntKind} {ao : Option Addr} {n cap : Nat} {xs : List Int} (h : Rd w k ao n cap xs) (hb : Below w.heap.size w w') : Rd w' k ao n cap xs :=
  ⟨h.len, h.le, h.cap_le, fun j hj => by
    obtain ⟨b, o, h1, h2, h3⟩ := h.cell j hj
    exact ⟨b, o, h1, Nat.lt_of_lt_of_le h2 hb.size, fun i hi => (hb.cell (p := ⟨b, o + i, none⟩) h2).trans (h3 i hi)⟩⟩

theorem Rd.drewN {w : World} {k : IntKind} {ao : Option Addr} {n cap : Nat} {xs : List Int} (h : Rd w k ao n cap xs) (m : Nat) : Rd (w.drewN m) k ao n cap xs := h.below (below_drewN (Below.refl _ _) m)

theorem Row.rd {w : World} {B : Nat} {e : TypeId} {k : IntKind} {v : Value} {xs : List Int} (h : Row w B e k v xs) : ∃ ao cap, v = .slice ao xs.length cap ∧ Rd w k ao xs.length cap xs := by
  rcases h.2 with ⟨rfl, h0⟩ | ⟨g, cap, cur, rfl, hb, hg, hn, hc, hs, ht⟩
  · exact ⟨none, 0, by rw [h0], rfl, by omega, by unfold maxLen; omega, fun j hj => by omega⟩
  · refine ⟨_, cap, rfl, rfl, hn, hc, fun j hj => ⟨g, 0, rfl, (Array.getElem?_eq_some_iff.1 hg).1, fun i hi => ?_⟩⟩
    have := World.ownsRow.cells (g := g) h rfl i (.int k (gt xs i)) (by simp [gt, hi])
    simpa [Addr.add_lit] using this

theorem Rd.take {w : World} {k : IntKind} {ao : Option Addr} {n cap : Nat} {xs : List Int} (h : Rd w k ao n cap xs) {m : Nat} (hm : m ≤ n) : Rd w k ao m cap (xs.take m) :=
  ⟨by have := h.len; simp; omega, by have := h.le; omega, h.cap_le, fun j hj => by
    obtain ⟨b, o, h1, h2, h3⟩ := h.cell j (by omega)
    exact ⟨b, o, h1, h2, fun i hi => by rw [h3 i (by omega)]; simp [gt, hi]⟩⟩

theorem Rd.drop {w : World} {k : IntKind} {ao : Option Addr} {n cap : Nat} {xs : List Int} (h : Rd w k ao n cap xs) {m : Nat} (hm : m ≤ n) :
    Rd w k (if cap = m then ao else ao.map (·.add m)) (n - m) (cap - m) (xs.drop m) :=
  ⟨by have := h.len; simp; omega, by have := h.le; omega, by have := h.cap_le; omega, fun j hj => by
    obtain ⟨b, o, h1, h2, h3⟩ := h.cell 0 (by omega)
    have hle := h.le
    refine ⟨b, o + m, by rw [if_neg (by omega), h1]; simp [Addr.add_lit], h2, fun i hi => by rw [Nat.add_assoc, h3 (m + i) (by omega)]; simp [gt]⟩⟩

theorem Rd.conv {P : Program} {w : World} {ao : Option Addr} {n cap : Nat} {xs : List Int} (h : Rd w .i32 ao n cap xs) {src dst e : TypeId}
    (hs : P.underlying src = some (.slice e)) (he : P.underlying e = some (.int .i32)) (hd : P.underlying dst = some .string) :
    (convert src dst (.slice ao n cap)).run P w = .ok (.string (runesBytes xs)) w := by
  by_cases h0 : n = 0
  · have hx : xs = [] := List.eq_nil_of_length_eq_zero (by rw [h.len]; exact h0)
    subst hx h0
    cases ao with
    | none => rw [run_convert_runes_nil w src dst e _ _ hs he hd]; rfl
    | some a =>
      rw [run_convert_runes w src dst e a 0 cap [] (by simp) hs he hd (fun j hj => by simp at hj)]
      rfl
  · obtain ⟨b, o, rfl, h2, h3⟩ := h.cell 0 (by omega)
    have hl := h.len
    rw [run_convert_runes w src dst e _ n cap xs (by omega) hs he hd (fun j hj => by
      rw [Addr.add_lit, h3 j (by omega)]; simp [gt, List.getD])]
    rw [List.take_of_length_le (by omega)]

theorem madeInts (k : IntKind) (n : Nat) : (madeCells (Value.int k 0).cells (n * 1)).toList = (List.replicate n (0 : Int)).map (Value.int k) := by
  apply List.ext_getElem?
  intro j
  by_cases h : j < n <;> simp [madeCells, Value.cells, Nat.mod_one, h]

theorem Row.cell {w : World} {B : Nat} {e : TypeId} {k : IntKind} {g n cap : Nat} {xs : List Int} (h : Row w B e k (.slice (some ⟨g, 0, none⟩) n cap) xs) {j : Nat} (hj : j < xs.length) :
    w.cell? ⟨g, j, none⟩ = some (.int k (gt xs j)) := by
  have := World.ownsRow.cells (g := g) h rfl j (.int k (gt xs j)) (by simp [gt, hj])
  simpa [Addr.add_lit] using this

theorem Row.free {w : World} {B : Nat} {e : TypeId} {k : IntKind} {g n cap : Nat} {xs : List Int} (h : Row w B e k (.slice (some ⟨g, 0, none⟩) n cap) xs) (j : Nat) :
    w.frozen? ⟨g, j, none⟩ = false := by
  rcases h.2 with ⟨h', _⟩ | ⟨g', cap', cur, h', _, hg, _⟩
  · simp at h'
  · simp only [Value.slice.injEq, Option.some.injEq, Addr.mk.injEq, and_true] at h'
    obtain ⟨rfl, _⟩ := h'
    exact frozen_of_row w g j cur e hg

/-- a store into such a slice -/
theorem Row.set {w : World} {B : Nat} {e : TypeId} {k : IntKind} {g cap : Nat} {xs : List Int} (h : Row w B e k (.slice (some ⟨g, 0, none⟩) xs.length cap) xs) (j : Nat) (u : Int) :
    Row (w.setCell ⟨g, j, none⟩ (.int k u)) B e k (.slice (some ⟨g, 0, none⟩) xs.length cap) (xs.set j u) ∧ B ≤ g := by
  refine ⟨?_, (h.lt g rfl).1⟩
  have := (World.ownsRow.stored h j (.int k u)).1
  unfold Row
  rw [List.length_set, List.map_set]
  exact this

theorem Row.set' {w : World} {B : Nat} {e : TypeId} {k : IntKind} {g n cap : Nat} {xs : List Int} (h : Row w B e k (.slice (some ⟨g, 0, none⟩) n cap) xs) (j : Nat) (u : Int) :
    Row (w.setCell ⟨g, j, none⟩ (.int k u)) B e k (.slice (some ⟨g, 0, none⟩) n cap) (xs.set j u) := by
  have hn : n = xs.length := by
    rcases h.2 with ⟨h', _⟩ | ⟨g', cap', cur, h', _⟩
    · simp at h'
    · simp only [Value.slice.injEq] at h'; exact h'.2.1
  subst hn
  exact (h.set j u).1

theorem Row.drewN {w : World} {B : Nat} {e : TypeId} {k : IntKind} {v : Value} {xs : List Int} (h : Row w B e k v xs) (n : Nat) : Row (w.drewN n) B e k v xs := h

/-- w' is w behind some draws -/
def Drew (w w' : World) : Prop := ∃ n, w' = w.drewN n
theorem Drew.refl (w : World) : Drew w w := ⟨0, rfl⟩
theorem Drew.drewN {w w' : World} (h : Drew w w') (n : Nat) : Drew w (w'.drewN n) := by obtain ⟨m, rfl⟩ := h; exact ⟨m + n, by rw [World.drewN_drewN]⟩
theorem Drew.below {w w' : World} (h : Drew w w') (B : Nat) : Below B w w' := by obtain ⟨m, rfl⟩ := h; exact below_drewN (Below.refl _ _) m
theorem Drew.trans {w w1 w2 : World} (h : Drew w w1) (k : Drew w1 w2) : Drew w w2 := by obtain ⟨m, rfl⟩ := k; exact h.drewN m

theorem Row.mono {w : World} {B B' : Nat} {e : TypeId} {k : IntKind} {v : Value} {xs : List Int} (h : Row w B e k v xs) (hB : B' ≤ B) : Row w B' e k v xs := by
  refine ⟨h.1, ?_⟩
  rcases h.2 with h2 | ⟨g, cap, cur, a, b, c⟩
  · exact .inl h2
  · exact .inr ⟨g, cap, cur, a, by omega, c⟩

theorem row_heap {w w' : World} {B : Nat} {e : TypeId} {k : IntKind} {v : Value} {xs : List Int} (h : Row w B e k v xs) (hh : w'.heap = w.heap) : Row w' B e k v xs := by
  unfold Row World.ownsRow at *
  rw [hh]
  exact h

/-- a call that hands back a new slice without spare room -/
def GivesFull (w : World) (e : TypeId) (k : IntKind) (xs : List Int) (en : Ending) (w' : World) : Prop :=
  ∃ g, en = .returned (.slice (some ⟨g, 0, none⟩) xs.length xs.length) ∧ Row w' w.heap.size e k (.slice (some ⟨g, 0, none⟩) xs.length xs.length) xs ∧ Below w.heap.size w w'
theorem GivesFull.row {w : World} {e : TypeId} {k : IntKind} {xs : List Int} {en : Ending} {w' : World} (h : GivesFull w e k xs en w') : GivesRow w e k xs en w' := by
  obtain ⟨g, h1, h2, h3⟩ := h
  exact ⟨_, h1, h2, h3⟩

theorem Row.rdAt {w : World} {B : Nat} {e : TypeId} {k : IntKind} {g n cap : Nat} {xs : List Int} (h : Row w B e k (.slice (some ⟨g, 0, none⟩) n cap) xs) : Rd w k (some ⟨g, 0, none⟩) n cap xs := by
  obtain ⟨ao, c, e1, rd⟩ := h.rd
  simp only [Value.slice.injEq] at e1
  obtain ⟨rfl, rfl, rfl⟩ := e1
  exact rd
theorem Row.length {w : World} {B : Nat} {e : TypeId} {k : IntKind} {ao : Option Addr} {n cap : Nat} {xs : List Int} (h : Row w B e k (.slice ao n cap) xs) : xs.length = n := by
  obtain ⟨ao, c, e1, rd⟩ := h.rd
  simp only [Value.slice.injEq] at e1
  exact e1.2.1.symm

/-- 'append(out, x)' of one number to a slice of numbers that the call owns -/
theorem append1 {P : Program} (w : World) {ops : Array Oper} {rest : List Oper} {o : Oper} {a : Act} {Q : Exit → Act → World → Prop} (hg : o.guard = none) (s x : Operand) (t : TypeId)
    (ho : o.op = .call { callee := .builtin .append, args := #[s, x], argTypes := #[t, t] }) (B : Nat) (e : TypeId) (k : IntKind) (bytes : Nat)
    (hinfo : (P.info? e).map (fun i => (i.zero, i.size, i.bytes)) = some (some (.int k 0), 1, bytes)) (ht : P.underlying t = some (.slice e))
    (v : Value) (xs : List Int) (hs : a.eval s = v) (hrow : Row w B e k v xs) (z : Int) (hx : a.eval x = .slice (some ⟨w.heap.size, 0, none⟩) 1 1)
    (hlen : xs.length < 1099511627776) (hby : bytes ≤ 8) (hB : B ≤ w.heap.size)
    (hK : ∀ v' w', Row w' B e k v' (xs ++ [z]) → w.grownBy w' v.ownBlock → wpList P ops Q rest (a.put o.dst v') w') :
    wpList P ops Q (o :: rest) a (w.alloc (.cells #[.int k z] e)) := by
  obtain ⟨i0, hi, hz0, hz1, hz2⟩ := info_parts hinfo
  refine wpList_append_own _ hg s x t ho B e i0 (.int k 0) 1 bytes ht hi hz0 hz1 hz2 rfl (by decide) v xs.length (xs.map (Value.int k)) hs (World.ownsRow.alloc hrow _) ⟨w.heap.size, 0, none⟩ 1 1 [.int k z] hx rfl (one_new _ _ _)
    (fun x hx => by simp at hx; rcases hx with rfl; rfl) (by unfold maxLen; omega) (by have := Nat.mul_le_mul_left (xs.length + 1) hby; omega) (by simp; omega) ?_
  intro v' w' h1 h2 _
  refine hK v' w' ?_ ?_
  · unfold Row
    simpa using h1
  · have h3 := World.grownBy_alloc w (.cells #[.int k z] e) v.ownBlock
    exact ⟨h2.os.trans h3.os, h2.tape.trans h3.tape, h2.output.trans h3.output, Nat.le_trans h3.size h2.size,
      fun j hj hne => (h2.block j (Nat.lt_of_lt_of_le hj h3.size) hne).trans (h3.block j hj hne)⟩

/-- 'append(out, x, y)' of two numbers -/
theorem append2 {P : Program} (w : World) {ops : Array Oper} {rest : List Oper} {o : Oper} {a : Act} {Q : Exit → Act → World → Prop} (hg : o.guard = none) (s x : Operand) (t : TypeId)
    (ho : o.op = .call { callee := .builtin .append, args := #[s, x], argTypes := #[t, t] }) (B : Nat) (e : TypeId) (k : IntKind) (bytes : Nat)
    (hinfo : (P.info? e).map (fun i => (i.zero, i.size, i.bytes)) = some (some (.int k 0), 1, bytes)) (ht : P.underlying t = some (.slice e))
    (v : Value) (xs : List Int) (hs : a.eval s = v) (hrow : Row w B e k v xs) (z z2 : Int) (hx : a.eval x = .slice (some ⟨w.heap.size, 0, none⟩) 2 2)
    (hlen : xs.length < 1099511627776) (hby : bytes ≤ 8) (hB : B ≤ w.heap.size)
    (hK : ∀ v' w', Row w' B e k v' (xs ++ [z, z2]) → w.grownBy w' v.ownBlock → wpList P ops Q rest (a.put o.dst v') w') :
    wpList P ops Q (o :: rest) a (w.alloc (.cells #[.int k z, .int k z2] e)) := by
  obtain ⟨i0, hi, hz0, hz1, hz2⟩ := info_parts hinfo
  refine wpList_append_own _ hg s x t ho B e i0 (.int k 0) 1 bytes ht hi hz0 hz1 hz2 rfl (by decide) v xs.length (xs.map (Value.int k)) hs (World.ownsRow.alloc hrow _) ⟨w.heap.size, 0, none⟩ 2 2 [.int k z, .int k z2] hx rfl (cell_two_new _ _ _ _)
    (fun x hx => by simp at hx; rcases hx with rfl | rfl <;> rfl) (by unfold maxLen; omega) (by have := Nat.mul_le_mul_left (xs.length + 2) hby; omega) (by simp; omega) ?_
  intro v' w' h1 h2 _
  refine hK v' w' ?_ ?_
  · unfold Row
    simpa using h1
  · have h3 := World.grownBy_alloc w (.cells #[.int k z, .int k z2] e) v.ownBlock
    exact ⟨h2.os.trans h3.os, h2.tape.trans h3.tape, h2.output.trans h3.output, Nat.le_trans h3.size h2.size,
      fun j hj hne => (h2.block j (Nat.lt_of_lt_of_le hj h3.size) hne).trans (h3.block j hj hne)⟩

theorem rune_wf {r : Int} (h0 : 0 ≤ r) (h1 : r ≤ 1114111) : (Lit.int .i32 r).wf = true := by
  simp [Lit.wf, IntKind.min, IntKind.max, IntKind.signed, IntKind.bits]; omega

theorem iter_lt {w : World} {k : Nat} {s : ByteArray} {p : Nat} (h : w.heap[k]? = some (.stringIter s p)) : k < w.heap.size := (Array.getElem?_eq_some_iff.1 h).1

theorem convFrom_eq (s : ByteArray) : ∀ (f i : Nat) (acc : Array Value), Conv.runesFrom s f i acc = acc ++ ((rsF s f i).map (Value.int .i32)).toArray
  | 0, i, acc => by simp [Conv.runesFrom, rsF]
  | f + 1, i, acc => by
    unfold Conv.runesFrom rsF
    by_cases h : i < s.size
    · rw [if_pos h, if_pos h]
      show Conv.runesFrom s f (i + (Utf8.decode s i).2) (acc.push (.int .i32 (Int.ofNat (Utf8.decode s i).1))) = _
      rw [convFrom_eq s f]
      generalize Utf8.decode s i = d
      simp
    · rw [if_neg h, if_neg h]; simp
theorem convRunes_eq (s : ByteArray) : Conv.runesFrom s s.size 0 #[] = ((rs s).map (Value.int .i32)).toArray := by
  rw [convFrom_eq]; simp [rs, rsAt]

/-- '[]rune(s)' -/
theorem wpList_convRunes {P : Program} (w : World) {ops : Array Oper} {rest : List Oper} {o : Oper} {a : Act} {Q : Exit → Act → World → Prop} (hg : o.guard = none) (x : Operand) (src dst e : TypeId)
    (hop : o.op = .convert src dst x) (s : ByteArray) (hx : a.eval x = .string s) (hs : P.underlying src = some .string) (hd : P.underlying dst = some (.slice e)) (he : P.underlying e = some (.int .i32)) (hsz : s.size ≤ 1099511627776)
    (hK : ∀ v w', Row w' w.heap.size e .i32 v (rs s) → w.grownBy w' none → wpList P ops Q rest (a.put o.dst v) w') :
    wpList P ops Q (o :: rest) a w := by
  refine wpList_plain hg fun K hK' => ?_
  have hl := rs_length s
  have hrun := run_runes_of_string (P := P) w src dst e s hs hd he (by rw [convRunes_eq]; simp; omega)
  have hsize : (Conv.runesFrom s s.size 0 #[]).size = (rs s).length := by rw [convRunes_eq]; simp
  unfold Oper.wp
  simp only [execOp, hop, hx, Sem.run_bind, hrun, Result.andThen]
  refine hK' _ _ (hK _ _ ?_ ?_)
  · refine ⟨by simp, .inr ⟨w.heap.size, grownCap w (rs s).length 0 e, _, by rw [hsize], Nat.le_refl _, heap_alloc_new w.drew _, grownCap_ge _ _ _ _, grownCap_le_maxLen _ _ _ _ (by unfold maxLen; omega), ?_, ?_⟩⟩
    · rw [convRunes_eq]
      have := grownCap_ge w (rs s).length 0 e
      simp; omega
    · rw [convRunes_eq]
      simp
  · exact ⟨rfl, rfl, rfl, by simp, fun k hk _ => heap_alloc_old w.drew _ hk⟩

end Gim

end

