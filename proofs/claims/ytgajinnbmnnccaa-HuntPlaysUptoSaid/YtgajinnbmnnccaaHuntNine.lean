/- Several Hunts in a slice; texts handed in; laws of what the comparisons say of one another. -/
import Derived.Test.YtgajinnbmnnccaaHuntTwo
namespace Gim
open Go Go.RowKit
/-- texts handed in, to be read -/
structure Sd (w : World) (ao : Option Addr) (n cap : Nat) (ss : List ByteArray) : Prop where
  len : ss.length = n
  le : n ≤ cap
  cap_le : cap ≤ maxLen
  cell : ∀ j, j < n → ∃ b o, ao = some ⟨b, o, none⟩ ∧ b < w.heap.size ∧ ∀ i, i < n → w.cell? ⟨b, o + i, none⟩ = some (.string (ss.getD i ByteArray.empty))
/-- the characters of the first i texts -/
def catL (ss : List ByteArray) (i : Nat) : List Int := (ss.take i).flatMap rs
theorem catL_next (ss : List ByteArray) {i : Nat} (h : i < ss.length) : catL ss (i + 1) = catL ss i ++ rs (ss.getD i ByteArray.empty) := by
  unfold catL
  rw [List.take_succ_eq_append_getElem h, List.flatMap_append]
  simp [h]
theorem sum_take (ss : List ByteArray) : ∀ i, ((ss.take i).map (·.size)).sum ≤ (ss.map (·.size)).sum := fun i => by
  have h := congrArg (fun l => (l.map (·.size)).sum) (List.take_append_drop i ss)
  simp only [List.map_append, List.sum_append] at h
  omega
theorem cat_len : ∀ ss : List ByteArray, (ss.flatMap rs).length ≤ (ss.map (·.size)).sum
  | [] => by simp
  | s :: ss => by
    have h1 := rs_length s
    have h2 := cat_len ss
    simp only [List.flatMap_cons, List.length_append, List.map_cons, List.sum_cons]
    omega
theorem catL_len (ss : List ByteArray) (i : Nat) : (catL ss i).length ≤ (ss.map (·.size)).sum := Nat.le_trans (cat_len _) (sum_take ss i)
theorem size_le : ∀ (ss : List ByteArray) (i : Nat), (ss.getD i ByteArray.empty).size ≤ (ss.map (·.size)).sum
  | [], i => by simp
  | s :: ss, 0 => by simp
  | s :: ss, i + 1 => by
    have := size_le ss i
    simp only [List.getD_cons_succ, List.map_cons, List.sum_cons]
    omega
end Gim
namespace Go.Proofs.Ytgajinnbmnnccaa
open Go.RowKit Gim
theorem own_ty {w : World} {B : Nat} {e : TypeId} {sz : Nat} {v : Value} {n : Nat} {xs : List Value} (h : w.ownsRow B e sz v n xs) {g : Nat} (hg : v.ownBlock = some g) : ∃ cur, w.heap[g]? = some (.cells cur e (0, 0)) := by
  rcases h.2 with ⟨rfl, _⟩ | ⟨g', cap, cur, rfl, _, hgg, _⟩
  · cases hg
  · cases hg
    exact ⟨cur, hgg⟩
theorem ownfrv {p : Nat → Prop} {w w' : World} {B : Nat} {e : TypeId} {sz : Nat} {v : Value} {n : Nat} {xs : List Value} (h : w.ownsRow B e sz v n xs) (hf : Fr p w w') (ho : ∀ g, v.ownBlock = some g → ¬ p g) : w'.ownsRow B e sz v n xs := by
  unfold World.ownsRow at *
  refine ⟨h.1, ?_⟩
  rcases h.2 with h2 | ⟨g, cap, cur, h1, h2, h3, h4⟩
  · exact .inl h2
  · refine .inr ⟨g, cap, cur, h1, h2, ?_, h4⟩
    rw [hf.block g (Array.getElem?_eq_some_iff.1 h3).1 (ho g (by rw [h1]; rfl))]
    exact h3
/-- m Hunts, each of its comparison -/
structure Nine (w0 w : World) (m N : Nat) (s : ByteArray) (Hs : Nat → Nat) (tv bv : Nat → Value) (ls : Nat → List Int) (wh : Nat → Bool) : Prop where
  st : ∀ c, c < m → St w (Hs c + 1) (Hs c) c N (askedT c s) (tv c) (bv c) (ls c) (wh c)
  lo : ∀ c, c < m → w0.heap.size ≤ Hs c
  ap : ∀ c d, c < m → d < m → Hs c = Hs d → c = d
  below : Below w0.heap.size w0 w
theorem St.ty {w : World} {B H : Nat} {c : Int} {N : Nat} {T : List Int} {tv bv : Value} {l : List Int} {whole : Bool} (h : St w B H c N T tv bv l whole) :
    (∃ a, w.heap[H]? = some (.cells a 63)) ∧ (∀ g, tv.ownBlock = some g → ∃ a, w.heap[g]? = some (.cells a 21)) ∧ (∀ g, bv.ownBlock = some g → ∃ a, w.heap[g]? = some (.cells a 3)) := by
  obtain ⟨k, hm, hk⟩ := h
  exact ⟨⟨_, hm.hH⟩, fun g hg => own_ty hm.rt hg, fun g hg => own_ty hm.rb hg⟩
theorem ty_ne {w : World} {g h : Nat} {a b : Array Value} {t u : TypeId} (hg : w.heap[g]? = some (.cells a t)) (hh : w.heap[h]? = some (.cells b u)) (hne : t ≠ u) : g ≠ h := by
  rintro rfl
  rw [hg] at hh
  injection hh with hh
  injection hh with _ h2
  exact hne h2
theorem Nine.step {w0 w w' : World} {m N : Nat} {s : ByteArray} {Hs : Nat → Nat} {tv bv : Nat → Value} {ls : Nat → List Int} {wh : Nat → Bool} (h : Nine w0 w m N s Hs tv bv ls wh) {d : Nat} (hd : d < m) {l : List Int} {b : Bool} {v : Value} {e : Ending}
    (t : Adds w (Hs d + 1) (Hs d) d N (askedT d s) (tv d) (bv d) l b v e w') {ls2 : Nat → List Int} {wh2 : Nat → Bool} (h1 : ls2 d = l) (h2 : wh2 d = b) (h3 : ∀ c, c < m → c ≠ d → ls2 c = ls c ∧ wh2 c = wh c) : Nine w0 w' m N s Hs tv bv ls2 wh2 := by
  refine ⟨fun c hc => ?_, h.lo, h.ap, h.below.trans (t.2.1.below h.below.size (fun j e => by have := h.lo d hd; omega))⟩
  by_cases hcd : c = d
  · subst hcd
    rw [h1, h2]
    exact t.2.2
  · rw [(h3 c hc hcd).1, (h3 c hc hcd).2]
    obtain ⟨a, ha⟩ := (h.st d hd).ty.1
    refine (h.st c hc).frv t.2.1 (fun e => hcd (h.ap c d hc hd e)) (fun g hg e => ?_) (fun g hg e => ?_)
    · obtain ⟨a2, ha2⟩ := (h.st c hc).ty.2.1 g hg
      exact ty_ne ha2 ha (by decide) e
    · obtain ⟨a2, ha2⟩ := (h.st c hc).ty.2.2 g hg
      exact ty_ne ha2 ha (by decide) e
theorem Nine.fresh {w0 w w' : World} {m N : Nat} {s : ByteArray} {Hs : Nat → Nat} {tv bv : Nat → Value} {ls : Nat → List Int} {wh : Nat → Bool} (h : Nine w0 w m N s Hs tv bv ls wh) (b : Below w.heap.size w w') : Nine w0 w' m N s Hs tv bv ls wh :=
  ⟨fun c hc => (h.st c hc).below b, h.lo, h.ap, h.below.trans (b.mono h.below.size)⟩
theorem Nine.drewN {w0 w : World} {m N : Nat} {s : ByteArray} {Hs : Nat → Nat} {tv bv : Nat → Value} {ls : Nat → List Int} {wh : Nat → Bool} (h : Nine w0 w m N s Hs tv bv ls wh) (n : Nat) : Nine w0 (w.drewN n) m N s Hs tv bv ls wh := h.fresh (below_drewN (Below.refl _ _) n)
/-- one Hunt more -/
theorem Nine.push {w0 w w' : World} {m N : Nat} {s : ByteArray} {Hs : Nat → Nat} {tv bv : Nat → Value} (h : Nine w0 w m N s Hs tv bv (fun _ => []) (fun _ => false)) (b : Below w.heap.size w w') {tv2 bv2 : Value}
    (st : St w' (w.heap.size + 1) w.heap.size m N (askedT m s) tv2 bv2 [] false) :
    Nine w0 w' (m + 1) N s (fun c => if c = m then w.heap.size else Hs c) (fun c => if c = m then tv2 else tv c) (fun c => if c = m then bv2 else bv c) (fun _ => []) (fun _ => false) := by
  have h2 := h.fresh b
  refine ⟨fun c hc => ?_, fun c hc => ?_, fun c d hc hd e => ?_, h2.below⟩
  · by_cases hcm : c = m
    · subst hcm; simp only [if_true]; exact st
    · simp only [hcm, if_false]; exact h2.st c (by omega)
  · by_cases hcm : c = m
    · simp only [hcm, if_true]; exact h.below.size
    · simp only [hcm, if_false]; exact h.lo c (by omega)
  · by_cases hcm : c = m <;> by_cases hdm : d = m
    · omega
    · simp only [hcm, hdm, if_true, if_false] at e
      have := (h.st d (by omega)).lts.1
      omega
    · simp only [hcm, hdm, if_true, if_false] at e
      have := (h.st c (by omega)).lts.1
      omega
    · simp only [hcm, hdm, if_false] at e
      exact h.ap c d (by omega) (by omega) e
theorem Fr.grown {w w' : World} {ob : Option Nat} (h : w.grownBy w' ob) : Fr (fun j => some j = ob) w w' := ⟨h.os, h.tape, h.output, h.size, fun j hj hp => h.block j hj hp⟩
/-- a slice of pointers to Hunts -/
def Pr (w : World) (B : Nat) (v : Value) (m : Nat) (Hs : Nat → Nat) : Prop := w.ownsRow B 28 1 v m ((List.range m).map fun c => .pointer (some ⟨Hs c, 0, none⟩))
theorem Nine.grown {w0 w w' : World} {m N : Nat} {s : ByteArray} {Hs Hs2 : Nat → Nat} {tv bv : Nat → Value} {ls : Nat → List Int} {wh : Nat → Bool} {k : Nat} {v : Value} (h : Nine w0 w m N s Hs tv bv ls wh) (hp : Pr w w0.heap.size v k Hs2) (hg : w.grownBy w' v.ownBlock) : Nine w0 w' m N s Hs tv bv ls wh := by
  refine ⟨fun c hc => ?_, h.lo, h.ap, h.below.grown hg h.below.size (fun j hj => (World.ownsRow.lt hp j hj).1)⟩
  have hty := (h.st c hc).ty
  have ne : ∀ {g : Nat} {a : Array Value} {t : TypeId}, w.heap[g]? = some (.cells a t) → t ≠ 28 → ¬ some g = v.ownBlock := fun ha ht e => by
    obtain ⟨cur, hcur⟩ := own_ty hp e.symm
    exact ty_ne ha hcur ht rfl
  refine (h.st c hc).frv (Fr.grown hg) ?_ (fun g hg' => ?_) (fun g hg' => ?_)
  · obtain ⟨a, ha⟩ := hty.1; exact ne ha (by decide)
  · obtain ⟨a, ha⟩ := hty.2.1 g hg'; exact ne ha (by decide)
  · obtain ⟨a, ha⟩ := hty.2.2 g hg'; exact ne ha (by decide)
theorem Pr.step {w0 w w' : World} {m N k : Nat} {s : ByteArray} {Hs : Nat → Nat} {tv bv : Nat → Value} {ls : Nat → List Int} {wh : Nat → Bool} {v : Value} (hp : Pr w w0.heap.size v k Hs) (h : Nine w0 w m N s Hs tv bv ls wh) {d : Nat} (hd : d < m) (hf : Fr (fun j => j = Hs d) w w') : Pr w' w0.heap.size v k Hs :=
  ownfrv hp hf (fun g hg e => by
    obtain ⟨cur, hcur⟩ := own_ty hp hg
    obtain ⟨a, ha⟩ := (h.st d hd).ty.1
    exact ty_ne hcur ha (by decide) e)
theorem Pr.fresh {w w' : World} {B : Nat} {v : Value} {k : Nat} {Hs : Nat → Nat} (hp : Pr w B v k Hs) (b : Below w.heap.size w w') : Pr w' B v k Hs := ownfrv hp (Fr.of (p := fun _ => False) b) (fun _ _ x => x)
theorem Pr.congr {w : World} {B : Nat} {v : Value} {k : Nat} {Hs Hs2 : Nat → Nat} (hp : Pr w B v k Hs) (h : ∀ c, c < k → Hs c = Hs2 c) : Pr w B v k Hs2 := by
  unfold Pr at *
  rwa [show ((List.range k).map fun c => Value.pointer (some ⟨Hs2 c, 0, none⟩)) = (List.range k).map fun c => Value.pointer (some ⟨Hs c, 0, none⟩) from List.map_congr_left (fun c hc => by rw [h c (List.mem_range.1 hc)])]
theorem Pr.open_ {w : World} {B : Nat} {v : Value} {k : Nat} {Hs : Nat → Nat} (hp : Pr w B v k Hs) (hk : 0 < k) : ∃ g cap, v = .slice (some ⟨g, 0, none⟩) k cap ∧ k ≤ cap ∧ cap ≤ maxLen := by
  rcases hp.2 with ⟨_, h0⟩ | ⟨g, cap, cur, hv, _, _, h1, h2, _⟩
  · omega
  · exact ⟨g, cap, hv, h1, h2⟩
theorem Pr.cell {w : World} {B g n cap : Nat} {k : Nat} {Hs : Nat → Nat} (hp : Pr w B (.slice (some ⟨g, 0, none⟩) n cap) k Hs) {c : Nat} (hc : c < k) : w.cell? ⟨g, c, none⟩ = some (.pointer (some ⟨Hs c, 0, none⟩)) := by
  have := World.ownsRow.cells (g := g) hp rfl c (.pointer (some ⟨Hs c, 0, none⟩)) (by simp [hc])
  simpa [Addr.add_lit] using this
theorem info_hunt : (Try.prog.info? 28).map (fun i => (i.zero, i.size, i.bytes)) = some (some (.pointer none), 1, 8) := by kernel_rfl
/-- 'append(all, h)' -/
theorem appendP (w : World) {ops : Array Oper} {rest : List Oper} {o : Oper} {a : Act} {Q : Exit → Act → World → Prop} (hg : o.guard = none) (sl x : Operand)
    (ho : o.op = .call { callee := .builtin .append, args := #[sl, x], argTypes := #[26, 26] }) (B : Nat)
    (v : Value) (m : Nat) (Hs : Nat → Nat) (hs : a.eval sl = v) (hrow : Pr w B v m Hs) (H : Nat) (hx : a.eval x = .slice (some ⟨w.heap.size, 0, none⟩) 1 1) (hlen : m < 1099511627776) (hB : B ≤ w.heap.size)
    (hK : ∀ v' w', Pr w' B v' (m + 1) (fun c => if c = m then H else Hs c) → w.grownBy w' v.ownBlock → wpList Try.prog ops Q rest (a.put o.dst v') w') :
    wpList Try.prog ops Q (o :: rest) a (w.alloc (.cells #[.pointer (some ⟨H, 0, none⟩)] 28)) := by
  obtain ⟨i0, hi, hz0, hz1, hz2⟩ := info_parts info_hunt
  refine wpList_append_own _ hg sl x 26 ho B 28 i0 (.pointer none) 1 8 Try.underlying26 hi hz0 hz1 hz2 rfl (by decide) v m _ hs (World.ownsRow.alloc hrow _) ⟨w.heap.size, 0, none⟩ 1 1 [.pointer (some ⟨H, 0, none⟩)] hx rfl (one_new _ _ _)
    (fun x hx => by simp at hx; rcases hx with rfl; rfl) (by unfold maxLen; omega) (by omega) (by simp; omega) ?_
  intro v' w' h1 h2 _
  refine hK v' w' ?_ ?_
  · unfold Pr
    rw [List.range_succ, List.map_append]
    have e : ((List.range m).map fun c => Value.pointer (some ⟨if c = m then H else Hs c, 0, none⟩)) = (List.range m).map fun c => Value.pointer (some ⟨Hs c, 0, none⟩) :=
      List.map_congr_left (fun c hc => by rw [if_neg (by have := List.mem_range.1 hc; omega)])
    rw [e]
    simpa using h1
  · have h3 := World.grownBy_alloc w (.cells #[.pointer (some ⟨H, 0, none⟩)] 28) v.ownBlock
    exact ⟨h2.os.trans h3.os, h2.tape.trans h3.tape, h2.output.trans h3.output, Nat.le_trans h3.size h2.size,
      fun j hj hne => (h2.block j (Nat.lt_of_lt_of_le hj h3.size) hne).trans (h3.block j hj hne)⟩
/-! ### the laws -/
theorem tB_turned (N : Nat) (s : ByteArray) (l : List Int) (w : Bool) : tB 1 N (askedT 1 s) l w + tB 2 N (askedT 2 s) l w = 2 := by
  show toldZ _ _ _ + (2 - toldZ _ _ _) = 2
  have e : askedT 1 s = askedT 2 s := rfl
  rw [e]; omega
theorem tB_exists (N : Nat) (T l : List Int) (w : Bool) : tB 0 N T l w = 2 := rfl
theorem told_is {a b w : Bool} : toldZ a b w = 2 ↔ a = true := by cases a <;> cases b <;> cases w <;> simp [toldZ]
theorem tB_longer {N : Nat} {T T2 T3 l : List Int} {w : Bool} (h : tB 7 N T l w = 2) : tB 6 N T2 l w = 0 ∧ tB 8 N T3 l w = 0 := by
  have h : toldZ (decide (N < l.length)) false w = 2 := h
  rw [told_is, decide_eq_true_eq] at h
  constructor
  · show toldZ (w && decide (l.length = N)) (decide (N < l.length)) w = 0
    rw [decide_eq_false (by omega), Bool.and_false, decide_eq_true h]; rfl
  · show toldZ (w && decide (l.length < N)) (decide (N ≤ l.length)) w = 0
    rw [decide_eq_false (by omega), Bool.and_false, decide_eq_true (by omega)]; rfl
theorem tB_begins {N : Nat} {T l : List Int} {w : Bool} (h : tB 3 N T l w = 2) : tB 5 N T l w = 2 := by
  have h : toldZ (!offB l T && decide (T.length ≤ l.length)) (offB l T) w = 2 := h
  rw [told_is, begins_iff] at h
  show toldZ (fndB l T) false w = 2
  rw [told_is, fndB_iff]
  exact ⟨0, h⟩
theorem tB_equal {N : Nat} {T l : List Int} {w : Bool} (h : tB 1 N T l w = 2) : tB 3 N T l w = 2 ∧ tB 4 N T l w = 2 ∧ tB 5 N T l w = 2 := by
  have h : toldZ (w && decide (l.length = T.length) && !offB l T) (offB l T || decide (T.length < l.length)) w = 2 := h
  rw [told_is, Bool.and_assoc, Bool.and_eq_true, same_iff, decide_eq_true_eq] at h
  obtain ⟨hw, rfl⟩ := h
  have h3 : tB 3 N l l w = 2 := by
    show toldZ (!offB l l && decide (l.length ≤ l.length)) (offB l l) w = 2
    rw [told_is, begins_iff]
    exact stands_end [] l
  refine ⟨h3, ?_, tB_begins h3⟩
  show toldZ (w && endsB l l) false w = 2
  rw [told_is, hw, Bool.true_and]
  exact ends_app [] l
/-- of a whole text one of the three holds -/
theorem tB_one (N : Nat) (T6 T7 T8 l : List Int) :
    (tB 6 N T6 l true = 2 ∧ tB 7 N T7 l true = 0 ∧ tB 8 N T8 l true = 0) ∨ (tB 6 N T6 l true = 0 ∧ tB 7 N T7 l true = 2 ∧ tB 8 N T8 l true = 0) ∨ (tB 6 N T6 l true = 0 ∧ tB 7 N T7 l true = 0 ∧ tB 8 N T8 l true = 2) := by
  have e6 : tB 6 N T6 l true = if decide (l.length = N) then 2 else 0 := by show toldZ (true && decide (l.length = N)) _ true = _; rw [told_whole, Bool.true_and]
  have e7 : tB 7 N T7 l true = if decide (N < l.length) then 2 else 0 := by show toldZ (decide (N < l.length)) _ true = _; rw [told_whole]
  have e8 : tB 8 N T8 l true = if decide (l.length < N) then 2 else 0 := by show toldZ (true && decide (l.length < N)) _ true = _; rw [told_whole, Bool.true_and]
  rw [e6, e7, e8]
  simp only [decide_eq_true_eq]
  by_cases h1 : l.length = N
  · exact .inl ⟨if_pos h1, if_neg (by omega), if_neg (by omega)⟩
  · by_cases h2 : N < l.length
    · exact .inr (.inl ⟨if_neg h1, if_pos h2, if_neg (by omega)⟩)
    · exact .inr (.inr ⟨if_neg h1, if_neg h2, if_pos (by omega)⟩)
end Go.Proofs.Ytgajinnbmnnccaa
