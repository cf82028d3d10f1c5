/- Plain laws on the characters of a string, as the model's own range goes through it. No program in sight. -/
import Derived.Lib.RuneCount
import Derived.Test.YtkhejkfjhddobaaGreatDoorProg
import Derived.WalkKit
import Derived.WalkSmall
import Derived.Lib.Hide
import Derived.Lib.OthersKept
import Derived.BigQuiet
import Derived.Laws.Cover4
import Derived.WalkLawsBesides
import Derived.Deep.QuietTactic
namespace Gim
open Go Go.RowKit
theorem jc {w : World} {b : Nat} {a : Array Value} {t : TypeId} (h : w.heap[b]? = some (.cells a t)) (i : Nat) {v : Value} (e : a[i]? = some v) : w.cell? ⟨b, i, none⟩ = some v := by simp [World.cell?, h, e]
theorem je {α : Sort _} (a : α) : ∃ z, a = z := ⟨_, rfl⟩
theorem jl {α : Type _} {l : Array α} {i : Nat} {b : α} (h : l[i]? = some b) : i < l.size := (Array.getElem?_eq_some_iff.1 h).1
theorem jh {p : Prop} (h : p) : Hid p := Lib.hid h
theorem jg {α : Type _} {l : List α} {i : Nat} {a : α} : l.getD i a = l[i]?.getD a := List.getD_eq_getElem?_getD
theorem jk {α : Type _} {l : List α} {i : Nat} (h : i < l.length) : l[i]? = some l[i] := List.getElem?_eq_getElem h
theorem jr (n : Nat) : n ≤ n := Nat.le_refl n
theorem jf (n : Nat) (w : World) : Below n w w := Below.refl n w
theorem jt {a b c : Nat} (h : a < b) (k : b ≤ c) : a < c := Nat.lt_of_lt_of_le h k
theorem ju {a b c : Nat} (h : a ≤ b) (k : b ≤ c) : a ≤ c := Nat.le_trans h k
theorem jz (n : Nat) : 0 ≤ n := Nat.zero_le n
theorem js (w : World) (p : Addr) (v : Value) (b : Nat) (h : b ≠ p.block) : (w.setCell p v).heap[b]? = w.heap[b]? := Below.heap_setCell w p v b h
theorem jb (a b : Bool) : ((a && b) = true) = (a = true ∧ b = true) := Bool.and_eq_true a b
theorem jn {α : Type _} [BEq α] [LawfulBEq α] {a b : α} : (a == b) = false ↔ a ≠ b := beq_eq_false_iff_ne
theorem ji {α : Type _} {l : List α} {i : Nat} {a : α} : l[i]? = some a ↔ ∃ h : i < l.length, l[i] = a := List.getElem?_eq_some_iff
theorem jj {α : Type _} {b : α} {l : Array α} {i : Nat} : l[i]? = some b ↔ ∃ h : i < l.size, l[i] = b := Array.getElem?_eq_some_iff
theorem jp {α : Type _} {a b : List α} : (a ++ b).length = a.length + b.length := List.length_append
theorem jv (w : World) (p : Addr) (v : Value) : (w.setCell p v).heap.size = w.heap.size := World.size_setCell w p v
theorem jm {α : Type _} {i : Nat} {l : List α} (h : l.length ≤ i) : l.take i = l := List.take_of_length_le h
theorem jw (w : World) (o : Obj) : (w.alloc o).heap[w.heap.size]? = some o := heap_alloc_new w o
end Gim
namespace Gim
open Go
def rsF (s : ByteArray) : Nat → Nat → List Int
 | 0, _ => []
 | f + 1, p => if p < s.size then ((Utf8.decode s p).1 : Int) :: rsF s f (p + (Utf8.decode s p).2) else []
theorem yHT (s : ByteArray) (f p : Nat) (h : ¬ p < s.size) : rsF s f p = [] := by cases f <;> simp [rsF, h]
theorem yQ4 (s : ByteArray) : ∀ (f g p : Nat), s.size ≤ p + f → s.size ≤ p + g → rsF s f p = rsF s g p := by
 intro f
 induction f with
 | zero => intro g p h _; rw [yHT s g p (by omega)]; rfl
 | succ f ih =>
  intro g p h h2; by_cases hp : p < s.size
  ·obtain ⟨g, rfl⟩ : ∃ g', g = g' + 1 := ⟨g - 1, by omega⟩
   have hw := Lib.decode_width_pos s p hp; simp only [rsF, hp, if_true]; rw [ih g (p + (Utf8.decode s p).2) (by omega) (by omega)]
  ·rw [yHT s _ p hp, yHT s _ p hp]
def yDX (s : ByteArray) (p : Nat) : List Int := rsF s (s.size - p) p
def rs (s : ByteArray) : List Int := yDX s 0
theorem yDk {s : ByteArray} {p : Nat} (h : ¬ p < s.size) : yDX s p = [] := yHT s _ p h
theorem yC9 {s : ByteArray} {p : Nat} (h : p < s.size) : yDX s p = ((Utf8.decode s p).1 : Int) :: yDX s (p + (Utf8.decode s p).2) := by
 have hw := Lib.decode_width_pos s p h; unfold yDX; obtain ⟨f, hf⟩ : ∃ f, s.size - p = f + 1 := ⟨s.size - p - 1, by omega⟩
 rw [hf]; simp only [rsF, h, if_true]; rw [yQ4 s f (s.size - (p + (Utf8.decode s p).2)) (p + (Utf8.decode s p).2) (by omega) (by omega)]
theorem yOc (s : ByteArray) : ∀ (f p : Nat), (rsF s f p).length ≤ f := by
 intro f
 induction f with
 | zero => intro p; simp [rsF]
 | succ f ih => intro p; simp only [rsF]; split <;> simp [ih _]
theorem yLP (s : ByteArray) (p : Nat) : (yDX s p).length ≤ s.size - p := yOc s _ p
theorem yAX (s : ByteArray) : (rs s).length ≤ s.size := yLP s 0
def gt (l : List Int) (j : Nat) : Int := (l[j]?).getD 0
theorem yFf {l : List Int} {j : Nat} (h : j < l.length) : gt l j = l[j] := by simp [gt, h]
theorem yS7 {l : List Int} {j : Nat} (h : j < l.length) : gt l j ∈ l := by rw [yFf h]; exact List.getElem_mem h
theorem yS8 {l t : List Int} (h : l.length = t.length) (hg : ∀ j, j < l.length → gt l j = gt t j) : l = t := by apply List.ext_getElem h; intro j h1 h2; have := hg j h1; rwa [yFf h1, yFf h2] at this
open Go Go.RowKit
def Row (w : World) (B : Nat) (e : TypeId) (k : IntKind) (v : Value) (xs : List Int) : Prop := w.ownsRow B e 1 v xs.length (xs.map (Value.int k))
def yIJ (w : World) (e : TypeId) (k : IntKind) (xs : List Int) (en : Ending) (w' : World) : Prop :=
 ∃ v, en = .returned v ∧ Row w' w.heap.size e k v xs ∧ Below w.heap.size w w'
theorem Row.lt {w : World} {B : Nat} {e : TypeId} {k : IntKind} {v : Value} {xs : List Int} (h : Row w B e k v xs) : ∀ g, v.ownBlock = some g → B ≤ g ∧ g < w.heap.size := World.ownsRow.lt h
theorem yIw {w w' : World} {v : Value} {B : Nat} {e : TypeId} {n : Nat} {xs : List Value} {k : Nat} {s : ByteArray} {p : Nat}
  (hown : w.ownsRow B e 1 v n xs) (hg : w.grownBy w' v.ownBlock) (hit : w.heap[k]? = some (.stringIter s p)) : w'.heap[k]? = some (.stringIter s p) := by
 have hk : k < w.heap.size := jl hit; rw [hg.block k hk ?_]
 ·exact hit
 ·intro hk2; rcases hown.2 with ⟨rfl, _⟩ | ⟨g, cap, cur, rfl, _, hgg, _⟩
  ·simp [Value.ownBlock] at hk2
  ·simp [Value.ownBlock] at hk2; subst hk2; rw [hit] at hgg; cases hgg
theorem yHH {w : World} {base : Nat} {e : TypeId} {size : Nat} {v : Value} {n : Nat} {xs : List Value} (h : w.ownsRow base e size v n xs) {k : Nat} {s : ByteArray} {p : Nat}
  (hit : w.heap[k]? = some (.stringIter s p)) (p' : Nat) : (w.iterAt k s p').ownsRow base e size v n xs := by
 obtain ⟨h1, h2⟩ := h; refine ⟨h1, ?_⟩; rcases h2 with h2 | ⟨g, cap, cur, a, b, c, d⟩
 ·exact .inl h2
 ·refine .inr ⟨g, cap, cur, a, b, ?_, d⟩; have hne : g ≠ k := by intro e1; rw [e1, hit] at c; cases c
  rw [Lib.iterAt_other _ _ _ _ _ hne]; exact c
theorem yHP (w : World) (a : Value) (t : TypeId) : ∀ j u, [a][j]? = some u → (w.alloc (.cells #[a] t)).cell? ((⟨w.heap.size, 0, none⟩ : Addr).add j) = some u := by
 intro j u hj
 match j, hj with
 | 0, hj => simp at hj; subst hj; simp [Addr.add]
 | j + 1, hj => simp at hj
structure Went (w : World) (k : Nat) (s : ByteArray) (p' : Nat) (W1 : World) : Prop where
 it : W1.heap[k]? = some (.stringIter s p')
 size : W1.heap.size = w.heap.size
 below : ∀ B a, Below B a w → B ≤ k → Below B a W1
 owns : ∀ base e z v n xs, w.ownsRow base e z v n xs → W1.ownsRow base e z v n xs
 other : ∀ j, j ≠ k → W1.heap[j]? = w.heap[j]?
 at_ : W1.iterPos k = p'
theorem yDY {P : Program} {w : World} {k : Nat} {s : ByteArray} {p : Nat} (hit : w.heap[k]? = some (.stringIter s p)) (hp : p < s.size) :
  ∃ W1, (∀ ty, (Instr.next (.pointer (some ⟨k, 0, none⟩)) true ty).run P w = .ok (.tuple #[.bool true, .int .i64 p, .int .i32 (Utf8.decode s p).1]) W1) ∧ Went w k s (p + (Utf8.decode s p).2) W1 :=
 ⟨w.iterAt k s (p + (Utf8.decode s p).2), fun ty => Lib.run_next_any_at w k s p ty hit hp,
  Lib.iterAt_heap w k s p _ hit, Lib.iterAt_size _ _ _ _, fun _ _ hb hk => Lib.below_iterAt hb hk _ _, fun _ _ _ _ _ _ h => yHH h hit _, fun _ hj => Lib.iterAt_other _ _ _ _ _ hj, iterPos_of (Lib.iterAt_heap w k s p _ hit)⟩
structure Rd (w : World) (k : IntKind) (ao : Option Addr) (n cap : Nat) (xs : List Int) : Prop where
 len : xs.length = n
 le : n ≤ cap
 cap_le : cap ≤ maxLen
 cell : ∀ j, j < n → ∃ b o, ao = some ⟨b, o, none⟩ ∧ b < w.heap.size ∧ ∀ i, i < n → w.cell? ⟨b, o + i, none⟩ = some (.int k (gt xs i))
theorem Rd.below {w w' : World} {k : IntKind} {ao : Option Addr} {n cap : Nat} {xs : List Int} (h : Rd w k ao n cap xs) (hb : Below w.heap.size w w') : Rd w' k ao n cap xs :=
 ⟨h.len, h.le, h.cap_le, fun j hj => by obtain ⟨b, o, h1, h2, h3⟩ := h.cell j hj; exact ⟨b, o, h1, jt h2 hb.size, fun i hi => (hb.cell (p := ⟨b, o + i, none⟩) h2).trans (h3 i hi)⟩⟩
theorem Rd.drewN {w : World} {k : IntKind} {ao : Option Addr} {n cap : Nat} {xs : List Int} (h : Rd w k ao n cap xs) (m : Nat) : Rd (w.drewN m) k ao n cap xs := h.below (below_drewN (jf _ _) m)
theorem Row.rd {w : World} {B : Nat} {e : TypeId} {k : IntKind} {v : Value} {xs : List Int} (h : Row w B e k v xs) : ∃ ao cap, v = .slice ao xs.length cap ∧ Rd w k ao xs.length cap xs := by
 rcases h.2 with ⟨rfl, h0⟩ | ⟨g, cap, cur, rfl, hb, hg, hn, hc, hs, ht⟩
 ·exact ⟨none, 0, by rw [h0], rfl, by omega, by unfold maxLen; omega, fun j hj => by omega⟩
 ·refine ⟨_, cap, rfl, rfl, hn, hc, fun j hj => ⟨g, 0, rfl, (jl hg), fun i hi => ?_⟩⟩; have := World.ownsRow.cells (g := g) h rfl i (.int k (gt xs i)) (by simp [gt, hi]); simpa [Addr.add_lit] using this
theorem yRa (k : IntKind) (n : Nat) : (madeCells (Value.int k 0).cells (n * 1)).toList = (List.replicate n (0 : Int)).map (Value.int k) := by apply List.ext_getElem?; intro j; by_cases h : j < n <;> simp [madeCells, Value.cells, Nat.mod_one, h]
theorem Row.cell {w : World} {B : Nat} {e : TypeId} {k : IntKind} {g n cap : Nat} {xs : List Int} (h : Row w B e k (.slice (some ⟨g, 0, none⟩) n cap) xs) {j : Nat} (hj : j < xs.length) :
  w.cell? ⟨g, j, none⟩ = some (.int k (gt xs j)) := by have := World.ownsRow.cells (g := g) h rfl j (.int k (gt xs j)) (by simp [gt, hj]); simpa [Addr.add_lit] using this
theorem Row.free {w : World} {B : Nat} {e : TypeId} {k : IntKind} {g n cap : Nat} {xs : List Int} (h : Row w B e k (.slice (some ⟨g, 0, none⟩) n cap) xs) (j : Nat) :
  w.frozen? ⟨g, j, none⟩ = false := by
 rcases h.2 with ⟨h', _⟩ | ⟨g', cap', cur, h', _, hg, _⟩
 ·simp at h'
 ·simp only [Value.slice.injEq, Option.some.injEq, Addr.mk.injEq, and_true] at h'; obtain ⟨rfl, _⟩ := h'; exact frozen_of_row w g j cur e hg
theorem Row.set {w : World} {B : Nat} {e : TypeId} {k : IntKind} {g cap : Nat} {xs : List Int} (h : Row w B e k (.slice (some ⟨g, 0, none⟩) xs.length cap) xs) (j : Nat) (u : Int) :
  Row (w.setCell ⟨g, j, none⟩ (.int k u)) B e k (.slice (some ⟨g, 0, none⟩) xs.length cap) (xs.set j u) ∧ B ≤ g := by refine ⟨?_, (h.lt g rfl).1⟩; have := (World.ownsRow.stored h j (.int k u)).1; unfold Row; rw [List.length_set, List.map_set]; exact this
theorem Row.set' {w : World} {B : Nat} {e : TypeId} {k : IntKind} {g n cap : Nat} {xs : List Int} (h : Row w B e k (.slice (some ⟨g, 0, none⟩) n cap) xs) (j : Nat) (u : Int) :
  Row (w.setCell ⟨g, j, none⟩ (.int k u)) B e k (.slice (some ⟨g, 0, none⟩) n cap) (xs.set j u) := by
 have hn : n = xs.length := by
  rcases h.2 with ⟨h', _⟩ | ⟨g', cap', cur, h', _⟩
  ·simp at h'
  ·simp only [Value.slice.injEq] at h'; exact h'.2.1
 subst hn; exact (h.set j u).1
theorem Row.drewN {w : World} {B : Nat} {e : TypeId} {k : IntKind} {v : Value} {xs : List Int} (h : Row w B e k v xs) (n : Nat) : Row (w.drewN n) B e k v xs := h
def yAJ (w w' : World) : Prop := ∃ n, w' = w.drewN n
theorem yAJ.refl (w : World) : yAJ w w := ⟨0, rfl⟩
theorem yAJ.drewN {w w' : World} (h : yAJ w w') (n : Nat) : yAJ w (w'.drewN n) := by obtain ⟨m, rfl⟩ := h; exact ⟨m + n, by rw [World.drewN_drewN]⟩
theorem yAJ.below {w w' : World} (h : yAJ w w') (B : Nat) : Below B w w' := by obtain ⟨m, rfl⟩ := h; exact below_drewN (jf _ _) m
theorem yAJ.trans {w w1 w2 : World} (h : yAJ w w1) (k : yAJ w1 w2) : yAJ w w2 := by obtain ⟨m, rfl⟩ := k; exact h.drewN m
theorem Row.mono {w : World} {B B' : Nat} {e : TypeId} {k : IntKind} {v : Value} {xs : List Int} (h : Row w B e k v xs) (hB : B' ≤ B) : Row w B' e k v xs := by
 refine ⟨h.1, ?_⟩; rcases h.2 with h2 | ⟨g, cap, cur, a, b, c⟩
 ·exact .inl h2
 ·exact .inr ⟨g, cap, cur, a, by omega, c⟩
def yDJ (w : World) (e : TypeId) (k : IntKind) (xs : List Int) (en : Ending) (w' : World) : Prop :=
 ∃ g, en = .returned (.slice (some ⟨g, 0, none⟩) xs.length xs.length) ∧ Row w' w.heap.size e k (.slice (some ⟨g, 0, none⟩) xs.length xs.length) xs ∧ Below w.heap.size w w'
theorem Row.rdAt {w : World} {B : Nat} {e : TypeId} {k : IntKind} {g n cap : Nat} {xs : List Int} (h : Row w B e k (.slice (some ⟨g, 0, none⟩) n cap) xs) : Rd w k (some ⟨g, 0, none⟩) n cap xs := by obtain ⟨ao, c, e1, rd⟩ := h.rd; simp only [Value.slice.injEq] at e1; obtain ⟨rfl, rfl, rfl⟩ := e1; exact rd
theorem yOx {P : Program} (w : World) {ops : Array Oper} {rest : List Oper} {o : Oper} {a : Act} {Q : Exit → Act → World → Prop} (hg : o.guard = none) (s x : Operand) (t : TypeId)
  (ho : o.op = .call { callee := .builtin .append, args := #[s, x], argTypes := #[t, t] }) (B : Nat) (e : TypeId) (k : IntKind) (bytes : Nat)
  (hinfo : (P.info? e).map (fun i => (i.zero, i.size, i.bytes)) = some (some (.int k 0), 1, bytes)) (ht : P.underlying t = some (.slice e))
  (v : Value) (xs : List Int) (hs : a.eval s = v) (hrow : Row w B e k v xs) (z : Int) (hx : a.eval x = .slice (some ⟨w.heap.size, 0, none⟩) 1 1)
  (hlen : xs.length < 1099511627776) (hby : bytes ≤ 8) (hB : B ≤ w.heap.size)
  (hK : ∀ v' w', Row w' B e k v' (xs ++ [z]) → w.grownBy w' v.ownBlock → wpList P ops Q rest (a.put o.dst v') w') :
  wpList P ops Q (o :: rest) a (w.alloc (.cells #[.int k z] e)) := by
 obtain ⟨i0, hi, hz0, hz1, hz2⟩ := info_parts hinfo; refine wpList_append_own _ hg s x t ho B e i0 (.int k 0) 1 bytes ht hi hz0 hz1 hz2 rfl (by decide) v xs.length (xs.map (Value.int k)) hs (World.ownsRow.alloc hrow _) ⟨w.heap.size, 0, none⟩ 1 1 [.int k z] hx rfl (yHP _ _ _)
  (fun x hx => by simp at hx; rcases hx with rfl; rfl) (by unfold maxLen; omega) (by have := Nat.mul_le_mul_left (xs.length + 1) hby; omega) (by simp; omega) ?_
 intro v' w' h1 h2 _; refine hK v' w' ?_ ?_
 ·unfold Row; simpa using h1
 ·have h3 := World.grownBy_alloc w (.cells #[.int k z] e) v.ownBlock; exact ⟨h2.os.trans h3.os, h2.tape.trans h3.tape, h2.output.trans h3.output, ju h3.size h2.size,
   fun j hj hne => (h2.block j (jt hj h3.size) hne).trans (h3.block j hj hne)⟩
theorem yHu (s : ByteArray) : ∀ (f i : Nat) (acc : Array Value), Conv.runesFrom s f i acc = acc ++ ((rsF s f i).map (Value.int .i32)).toArray
 | 0, i, acc => by simp [Conv.runesFrom, rsF]
 | f + 1, i, acc => by
  unfold Conv.runesFrom rsF; by_cases h : i < s.size
  ·rw [if_pos h, if_pos h]; show Conv.runesFrom s f (i + (Utf8.decode s i).2) (acc.push (.int .i32 (Int.ofNat (Utf8.decode s i).1))) = _; rw [yHu s f]; generalize Utf8.decode s i = d; simp
  ·rw [if_neg h, if_neg h]; simp
theorem yC7 (s : ByteArray) : Conv.runesFrom s s.size 0 #[] = ((rs s).map (Value.int .i32)).toArray := by rw [yHu]; simp [rs, yDX]
theorem yG7 {P : Program} (w : World) {ops : Array Oper} {rest : List Oper} {o : Oper} {a : Act} {Q : Exit → Act → World → Prop} (hg : o.guard = none) (x : Operand) (src dst e : TypeId)
  (hop : o.op = .convert src dst x) (s : ByteArray) (hx : a.eval x = .string s) (hs : P.underlying src = some .string) (hd : P.underlying dst = some (.slice e)) (he : P.underlying e = some (.int .i32)) (hsz : s.size ≤ 1099511627776)
  (hK : ∀ v w', Row w' w.heap.size e .i32 v (rs s) → w.grownBy w' none → wpList P ops Q rest (a.put o.dst v) w') :
  wpList P ops Q (o :: rest) a w := by
 refine wpList_plain hg fun K hK' => ?_
 have hl := yAX s; have hrun := run_runes_of_string (P := P) w src dst e s hs hd he (by rw [yC7]; simp; omega); have hsize : (Conv.runesFrom s s.size 0 #[]).size = (rs s).length := by rw [yC7]; simp
 unfold Oper.wp; simp only [execOp, hop, hx, Sem.run_bind, hrun, Result.andThen]; refine hK' _ _ (hK _ _ ?_ ?_)
 ·refine ⟨by simp, .inr ⟨w.heap.size, grownCap w (rs s).length 0 e, _, by rw [hsize], jr _, jw w.drew _, grownCap_ge _ _ _ _, grownCap_le_maxLen _ _ _ _ (by unfold maxLen; omega), ?_, ?_⟩⟩
  ·rw [yC7]; have := grownCap_ge w (rs s).length 0 e; simp; omega
  ·rw [yC7]; simp
 ·exact ⟨rfl, rfl, rfl, by simp, fun k hk _ => heap_alloc_old w.drew _ hk⟩
end Gim
