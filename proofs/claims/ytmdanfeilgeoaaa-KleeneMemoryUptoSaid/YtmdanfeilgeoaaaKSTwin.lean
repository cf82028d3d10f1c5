/- gimletlaw14.twin: a formula once more, in memory of the call's own. -/
import Derived.Test.YtmdanfeilgeoaaaKTree2
import Derived.Test.YtmdanfeilgeoaaaKRow
import Derived.Maps.AppendAt
import Derived.Lib.SmallJoins
import Derived.Deep.CutRange
import Derived.Deep.CutBlock
namespace Gim
open Go Go.RowKit
/-- the blocks from lo to hi stay -/
def Keeps (lo hi : Nat) (W W2 : World) : Prop := W.heap.size ≤ W2.heap.size ∧ ∀ j, lo ≤ j → j < hi → W2.heap[j]? = W.heap[j]?
theorem Keeps.refl (lo hi : Nat) (W : World) : Keeps lo hi W W := ⟨Nat.le_refl _, fun _ _ _ => rfl⟩
theorem Keeps.trans {lo hi : Nat} {A B C : World} (h : Keeps lo hi A B) (k : Keeps lo hi B C) : Keeps lo hi A C := ⟨Nat.le_trans h.1 k.1, fun j h1 h2 => (k.2 j h1 h2).trans (h.2 j h1 h2)⟩
theorem Keeps.of_below {lo hi : Nat} {A B : World} (h : Below A.heap.size A B) (ht : hi ≤ A.heap.size) : Keeps lo hi A B := ⟨h.size, fun j _ h2 => h.block j (by omega)⟩
theorem Keeps.of_grown {lo hi : Nat} {A B : World} {g : Option Nat} (h : A.grownBy B g) (ht : hi ≤ A.heap.size) (hg : ∀ j, g = some j → j < lo ∨ hi ≤ j) : Keeps lo hi A B :=
  ⟨h.size, fun j h1 h2 => h.block j (by omega) (fun e => by have := hg j e.symm; omega)⟩
theorem Keeps.mono {lo hi lo2 hi2 : Nat} {A B : World} (h : Keeps lo hi A B) (h1 : lo ≤ lo2) (h2 : hi2 ≤ hi) : Keeps lo2 hi2 A B := ⟨h.1, fun j a b => h.2 j (by omega) (by omega)⟩
/-- block g holds these formulas' cells -/
def Rw (t : TypeId) (w : World) (g cap : Nat) (cs : List N4) : Prop :=
  ∃ cur, w.heap[g]? = some (.cells cur t (0, 0)) ∧ cs.length ≤ cap ∧ cap ≤ maxLen ∧ cur.size = cap * 4 ∧ ∀ i c m u, cs[i]? = some c → m < 4 → (cell4 c)[m]? = some u → cur[i * 4 + m]? = some u
theorem Rw.lt {t : TypeId} {w : World} {g cap : Nat} {cs : List N4} (h : Rw t w g cap cs) : g < w.heap.size := by
  obtain ⟨cur, h1, _⟩ := h
  exact (Array.getElem?_eq_some_iff.1 h1).1
theorem Rw.below {t : TypeId} {w w' : World} {g cap : Nat} {cs : List N4} (h : Rw t w g cap cs) (hb : Below w.heap.size w w') : Rw t w' g cap cs := by
  have hl := h.lt
  obtain ⟨cur, h1, h2⟩ := h
  exact ⟨cur, (hb.block g hl).trans h1, h2⟩
theorem Rw.cell {t : TypeId} {w : World} {g cap : Nat} {cs : List N4} (h : Rw t w g cap cs) {i : Nat} {c : N4} {m : Nat} {u : Value} (hi : cs[i]? = some c) (hm : m < 4) (hu : (cell4 c)[m]? = some u) : w.cell? ⟨g, i * 4 + m, none⟩ = some u := by
  obtain ⟨cur, h1, _, _, _, h2⟩ := h
  simp only [World.cell?, h1]
  exact h2 i c m u hi hm hu
theorem Rw.frozen {t : TypeId} {w : World} {g cap : Nat} {cs : List N4} (h : Rw t w g cap cs) (o : Nat) : w.frozen? ⟨g, o, none⟩ = false := by
  obtain ⟨cur, h1, _⟩ := h
  simp [World.frozen?, h1]
theorem Rw.four {t : TypeId} {w : World} {g cap : Nat} {cs : List N4} (h : Rw t w g cap cs) {i : Nat} {c : N4} (hi : cs[i]? = some c) :
    w.cell? ⟨g, i * 4, none⟩ = some (.int .i64 c.1) ∧ w.cell? ⟨g, i * 4 + 1, none⟩ = some (.int .i64 c.2.1) ∧ w.cell? ⟨g, i * 4 + 2, none⟩ = some (.int .i64 c.2.2.1) ∧ w.cell? ⟨g, i * 4 + 3, none⟩ = some (.slice c.2.2.2.1 c.2.2.2.2.1 c.2.2.2.2.2) :=
  ⟨h.cell (m := 0) hi (by omega) rfl, h.cell (m := 1) hi (by omega) rfl, h.cell (m := 2) hi (by omega) rfl, h.cell (m := 3) hi (by omega) rfl⟩
theorem Rw.same {t : TypeId} {w w2 : World} {g cap : Nat} {cs : List N4} (h : Rw t w g cap cs) (e : w2.heap[g]? = w.heap[g]?) : Rw t w2 g cap cs := by
  obtain ⟨cur, h1, h2⟩ := h
  exact ⟨cur, e.trans h1, h2⟩
/-- two spans of blocks lie apart -/
abbrev Off (p q : Nat × Nat) : Prop := p.2 ≤ q.1 ∨ q.2 ≤ p.1
mutual
/-- four cells stand for a formula; its lists lie in blocks from lo to hi, no block serves twice -/
def SepF (W : World) : Fm → N4 → Nat → Nat → Prop
  | .mk op v x gs, c, lo, hi => c.1 = op ∧ c.2.1 = v ∧ c.2.2.1 = x ∧ gs.length = c.2.2.2.2.1 ∧
      ((c.2.2.2.1 = none ∧ c.2.2.2.2.1 = 0 ∧ c.2.2.2.2.2 = 0) ∨ ∃ (b : Nat) (cs : List N4) (is : List (Nat × Nat)), c.2.2.2.1 = some ⟨b, 0, none⟩ ∧ lo ≤ b ∧ b < hi ∧ Rw 26 W b c.2.2.2.2.2 cs ∧ SepL W gs cs is ∧ (∀ p, p ∈ is → lo ≤ p.1 ∧ p.2 ≤ hi ∧ (b < p.1 ∨ p.2 ≤ b)) ∧ is.Pairwise Off)
def SepL (W : World) : List Fm → List N4 → List (Nat × Nat) → Prop
  | [], cs, is => cs = [] ∧ is = []
  | f :: r, cs, is => ∃ c cr p pr, cs = c :: cr ∧ is = p :: pr ∧ SepF W f c p.1 p.2 ∧ SepL W r cr pr
end
mutual
theorem SepF.keeps {W W2 : World} : ∀ {f : Fm} {c : N4} {lo hi : Nat}, SepF W f c lo hi → Keeps lo hi W W2 → SepF W2 f c lo hi
  | .mk op v x gs, c, lo, hi, h, k => by
    unfold SepF at h ⊢
    obtain ⟨h1, h2, h3, h4, h5⟩ := h
    refine ⟨h1, h2, h3, h4, ?_⟩
    rcases h5 with h5 | ⟨b, cs, is, e, hl, hh, hr, hL, hs, hp⟩
    · exact .inl h5
    · exact .inr ⟨b, cs, is, e, hl, hh, hr.same (k.2 b hl hh), SepL.keeps hL (fun p hp => k.mono (hs p hp).1 (hs p hp).2.1), hs, hp⟩
theorem SepL.keeps {W W2 : World} : ∀ {gs : List Fm} {cs : List N4} {is : List (Nat × Nat)}, SepL W gs cs is → (∀ p, p ∈ is → Keeps p.1 p.2 W W2) → SepL W2 gs cs is
  | [], cs, is, h, _ => by unfold SepL at h ⊢; exact h
  | f :: r, cs, is, h, k => by
    unfold SepL at h ⊢
    obtain ⟨c, cr, p, pr, e1, e2, hf, hr⟩ := h
    subst e1 e2
    exact ⟨c, cr, p, pr, rfl, rfl, SepF.keeps hf (k p (by simp)), SepL.keeps hr (fun q hq => k q (by simp [hq]))⟩
end
theorem SepF.mono {W : World} {f : Fm} {c : N4} {lo hi lo2 hi2 : Nat} (h : SepF W f c lo hi) (h1 : lo2 ≤ lo) (h2 : hi ≤ hi2) : SepF W f c lo2 hi2 := by
  obtain ⟨op, v, x, gs⟩ := f
  unfold SepF at h ⊢
  obtain ⟨k1, k2, k3, k4, k5⟩ := h
  refine ⟨k1, k2, k3, k4, ?_⟩
  rcases k5 with k5 | ⟨b, cs, is, e, hl, hh, hr, hL, hs, hp⟩
  · exact .inl k5
  · exact .inr ⟨b, cs, is, e, by omega, by omega, hr, hL, fun p hp => ⟨by have := (hs p hp).1; omega, by have := (hs p hp).2.1; omega, (hs p hp).2.2⟩, hp⟩
def argsF : Fm → List Fm
  | .mk _ _ _ gs => gs
theorem fitL_of {W : World} {b : Nat} : ∀ (gs : List Fm) (o : Nat), (∀ (i : Nat) (f : Fm), gs[i]? = some f → FitA W f b (o + i * 4)) → FitL W gs b o
  | [], _, _ => by unfold FitL; trivial
  | f :: r, o, h => by
    unfold FitL
    refine ⟨by simpa using h 0 f rfl, fitL_of r (o + 4) fun i f2 hi => ?_⟩
    have := h (i + 1) f2 (by simpa using hi)
    rw [show o + 4 + i * 4 = o + (i + 1) * 4 by omega]
    exact this
mutual
theorem SepF.fits {W : World} : ∀ {f : Fm} {c : N4} {lo hi : Nat}, SepF W f c lo hi → FitS W (argsF f) c.2.2.2.1 c.2.2.2.2.1 c.2.2.2.2.2
  | .mk op v x gs, c, lo, hi, h => by
    unfold SepF at h
    obtain ⟨_, _, _, h4, h5⟩ := h
    rcases h5 with ⟨e1, e2, e3⟩ | ⟨b, cs, is, e, _, _, hr, hL, _, _⟩
    · exact ⟨h4, by omega, by rw [e3]; exact Nat.zero_le _, fun j hj => by omega⟩
    · have hlt := hr.lt
      have hlen := SepL.len hL
      have hcell := fun (i : Nat) (c : N4) (m : Nat) (u : Value) (hi : cs[i]? = some c) (hm : m < 4) (hu : (cell4 c)[m]? = some u) => hr.cell hi hm hu
      obtain ⟨cur, _, hn, hc, _⟩ := hr
      exact ⟨h4, by omega, hc, fun j hj => ⟨b, 0, e, SepL.fits hL hlt (fun i c m u hi hm hu => by rw [Nat.zero_add]; exact hcell i c m u hi hm hu)⟩⟩
theorem SepL.fits {W : World} : ∀ {gs : List Fm} {cs : List N4} {is : List (Nat × Nat)} {b o : Nat}, SepL W gs cs is → b < W.heap.size → (∀ (i : Nat) (c : N4) (m : Nat) (u : Value), cs[i]? = some c → m < 4 → (cell4 c)[m]? = some u → W.cell? ⟨b, o + (i * 4 + m), none⟩ = some u) → FitL W gs b o
  | [], cs, is, b, o, h, _, _ => by unfold FitL; trivial
  | f :: r, cs, is, b, o, h, hb, hc => by
    unfold SepL at h
    obtain ⟨c, cr, p, pr, e1, e2, hf, hr⟩ := h
    subst e1 e2
    unfold FitL
    refine ⟨?_, SepL.fits hr hb (fun i c2 m u hi hm hu => by
      have := hc (i + 1) c2 m u (by simpa using hi) hm hu
      rw [show o + 4 + (i * 4 + m) = o + ((i + 1) * 4 + m) by omega]
      exact this)⟩
    have hS := SepF.fits hf
    have k0 := hc 0 c 0 _ rfl (by omega) rfl
    have k1 := hc 0 c 1 _ rfl (by omega) rfl
    have k2 := hc 0 c 2 _ rfl (by omega) rfl
    have k3 := hc 0 c 3 _ rfl (by omega) rfl
    obtain ⟨op, v, x, gs⟩ := f
    unfold SepF at hf
    obtain ⟨e1, e2, e3, _, _⟩ := hf
    simp only [Nat.zero_mul, Nat.zero_add, Nat.add_zero] at k0 k1 k2 k3
    unfold FitA
    exact ⟨hb, by rw [k0, e1], by rw [k1, e2], by rw [k2, e3], _, _, _, k3, hS.len, hS.le, hS.cap_le, hS.fit⟩
theorem SepL.len {W : World} : ∀ {gs : List Fm} {cs : List N4} {is : List (Nat × Nat)}, SepL W gs cs is → cs.length = gs.length
  | [], cs, is, h => by unfold SepL at h; simp [h.1]
  | f :: r, cs, is, h => by
    unfold SepL at h
    obtain ⟨c, cr, p, pr, e1, e2, hf, hr⟩ := h
    subst e1
    simp [SepL.len hr]
end
/-- an element of a list: its cells, its formula, its span -/
structure Z where
  c : N4
  f : Fm
  lo : Nat
  hi : Nat
abbrev Z.off (p q : Z) : Prop := p.hi ≤ q.lo ∨ q.hi ≤ p.lo
theorem SepL.zs {W : World} : ∀ {gs : List Fm} {cs : List N4} {is : List (Nat × Nat)}, SepL W gs cs is → ∃ zs : List Z, zs.map Z.c = cs ∧ zs.map Z.f = gs ∧ zs.map (fun z => (z.lo, z.hi)) = is ∧ ∀ z, z ∈ zs → SepF W z.f z.c z.lo z.hi
  | [], cs, is, h => by
    unfold SepL at h
    exact ⟨[], h.1.symm, rfl, h.2.symm, fun z hz => by cases hz⟩
  | f :: r, cs, is, h => by
    unfold SepL at h
    obtain ⟨c, cr, p, pr, e1, e2, hf, hr⟩ := h
    obtain ⟨zs, h1, h2, h3, h4⟩ := SepL.zs hr
    refine ⟨⟨c, f, p.1, p.2⟩ :: zs, by simp [e1, h1], by simp [h2], by simp [e2, h3], fun z hz => ?_⟩
    rcases List.mem_cons.1 hz with rfl | hz
    · exact hf
    · exact h4 z hz
theorem sepL_of {W : World} : ∀ (zs : List Z), (∀ z, z ∈ zs → SepF W z.f z.c z.lo z.hi) → SepL W (zs.map Z.f) (zs.map Z.c) (zs.map fun z => (z.lo, z.hi))
  | [], _ => by simp [SepL]
  | z :: r, h => by
    simp only [List.map_cons]
    unfold SepL
    exact ⟨_, _, _, _, rfl, rfl, h z (by simp), sepL_of r fun q hq => h q (by simp [hq])⟩
/-- the slice holds the formulas, in blocks from lo to hi alone, no block twice -/
structure FitR (lo hi : Nat) (W : World) (gs : List Fm) (a : Option Addr) (n cap : Nat) : Prop where
  top : hi ≤ W.heap.size
  sep : SepF W (.mk 0 0 0 gs) (0, 0, 0, (a, n, cap)) lo hi
theorem FitR.fit {lo hi : Nat} {W : World} {gs : List Fm} {a : Option Addr} {n cap : Nat} (h : FitR lo hi W gs a n cap) (W2 : World) (k : Keeps lo hi W W2) : FitS W2 gs a n cap := (h.sep.keeps k).fits
theorem FitR.keeps {lo hi : Nat} {W W2 : World} {gs : List Fm} {a : Option Addr} {n cap : Nat} (h : FitR lo hi W gs a n cap) (k : Keeps lo hi W W2) : FitR lo hi W2 gs a n cap := ⟨Nat.le_trans h.top k.1, h.sep.keeps k⟩
theorem FitR.mono {lo hi lo2 hi2 : Nat} {W : World} {gs : List Fm} {a : Option Addr} {n cap : Nat} (h : FitR lo hi W gs a n cap) (h1 : lo2 ≤ lo) (h2 : hi ≤ hi2) (h3 : hi2 ≤ W.heap.size) : FitR lo2 hi2 W gs a n cap := ⟨h3, h.sep.mono h1 h2⟩
theorem FitR.here {lo hi : Nat} {W : World} {gs : List Fm} {a : Option Addr} {n cap : Nat} (h : FitR lo hi W gs a n cap) : FitS W gs a n cap := h.fit W (Keeps.refl _ _ _)
theorem FitR.sepF {lo hi : Nat} {W : World} {gs : List Fm} {a : Option Addr} {n cap : Nat} (h : FitR lo hi W gs a n cap) (op v x : Int) : SepF W (.mk op v x gs) (op, v, x, (a, n, cap)) lo hi := by
  have := h.sep
  unfold SepF at this ⊢
  exact ⟨rfl, rfl, rfl, this.2.2.2⟩
theorem SepF.fitR {W : World} {f : Fm} {c : N4} {lo hi : Nat} (h : SepF W f c lo hi) (ht : hi ≤ W.heap.size) : ∃ gs, f = .mk c.1 c.2.1 c.2.2.1 gs ∧ FitR lo hi W gs c.2.2.2.1 c.2.2.2.2.1 c.2.2.2.2.2 := by
  obtain ⟨op, v, x, gs⟩ := f
  unfold SepF at h
  obtain ⟨h1, h2, h3, h4⟩ := h
  refine ⟨gs, by rw [h1, h2, h3], ht, ?_⟩
  unfold SepF
  exact ⟨rfl, rfl, rfl, h4⟩
/-- four cells stand for a formula whose parts lie in blocks from N on, none of them g -/
def Tw (N : Nat) (W : World) (g : Option Nat) (c : Int × Int × Int × (Option Addr × Nat × Nat)) (f : Fm) : Prop :=
  ∃ gs lo hi, f = .mk c.1 c.2.1 c.2.2.1 gs ∧ N ≤ lo ∧ FitR lo hi W gs c.2.2.2.1 c.2.2.2.2.1 c.2.2.2.2.2 ∧ ∀ j, g = some j → j < lo ∨ hi ≤ j
/-- the formulas of a list, in blocks from N to M, no block twice, none of them g -/
structure TwL (N M : Nat) (W : World) (g : Option Nat) (cs : List N4) (fs : List Fm) : Prop where
  top : M ≤ W.heap.size
  zs : ∃ zs : List Z, zs.map Z.c = cs ∧ zs.map Z.f = fs ∧ (∀ z, z ∈ zs → SepF W z.f z.c z.lo z.hi ∧ N ≤ z.lo ∧ z.hi ≤ M ∧ ∀ j, g = some j → j < z.lo ∨ z.hi ≤ j) ∧ zs.Pairwise Z.off
theorem TwL.len {N M : Nat} {W : World} {g : Option Nat} {cs : List N4} {fs : List Fm} (h : TwL N M W g cs fs) : cs.length = fs.length := by
  obtain ⟨zs, h1, h2, _⟩ := h.zs
  rw [← h1, ← h2]
  simp
theorem TwL.each {N M : Nat} {W : World} {g : Option Nat} {cs : List N4} {fs : List Fm} (h : TwL N M W g cs fs) : ∀ (i : Nat) (c : N4) (f : Fm), cs[i]? = some c → fs[i]? = some f → Tw N W g c f := by
  obtain ⟨zs, rfl, rfl, h3, _⟩ := h.zs
  intro i c f h1 h2
  rw [List.getElem?_map] at h1 h2
  rcases he : zs[i]? with _ | z
  · rw [he] at h1; cases h1
  · rw [he] at h1 h2
    simp only [Option.map_some, Option.some.injEq] at h1 h2
    obtain ⟨k1, k2, k3, k4⟩ := h3 z (List.mem_of_getElem? he)
    subst h1 h2
    obtain ⟨gs, e, hF⟩ := k1.fitR (Nat.le_trans k3 h.top)
    exact ⟨gs, z.lo, z.hi, e, k2, hF, k4⟩
theorem TwL.nil (N : Nat) (W : World) (g : Option Nat) : TwL N W.heap.size W g [] [] := ⟨Nat.le_refl _, ⟨[], rfl, rfl, (fun z h => by cases h), List.Pairwise.nil⟩⟩
theorem TwL.below {N M : Nat} {W W2 : World} {g : Option Nat} {cs : List N4} {fs : List Fm} (h : TwL N M W g cs fs) (hb : Below W.heap.size W W2) : TwL N M W2 g cs fs := by
  have ht := h.top
  obtain ⟨zs, h1, h2, h3, h4⟩ := h.zs
  refine ⟨Nat.le_trans ht hb.size, zs, h1, h2, fun z hz => ?_, h4⟩
  obtain ⟨k1, k2, k3, k4⟩ := h3 z hz
  exact ⟨k1.keeps (Keeps.of_below hb (by omega)), k2, k3, k4⟩
theorem TwL.grown {N M : Nat} {W W2 : World} {g g2 : Option Nat} {cs : List N4} {fs : List Fm} (h : TwL N M W g cs fs) (hb : W.grownBy W2 g) (hg2 : g2 = g ∨ ∃ j, g2 = some j ∧ W.heap.size ≤ j) : TwL N M W2 g2 cs fs := by
  have ht := h.top
  obtain ⟨zs, h1, h2, h3, h4⟩ := h.zs
  refine ⟨Nat.le_trans ht hb.size, zs, h1, h2, fun z hz => ?_, h4⟩
  obtain ⟨k1, k2, k3, k4⟩ := h3 z hz
  refine ⟨k1.keeps (Keeps.of_grown hb (by omega) k4), k2, k3, fun j hj => ?_⟩
  rcases hg2 with rfl | ⟨j2, rfl, hj2⟩
  · exact k4 j hj
  · have := Option.some.inj hj
    omega
theorem TwL.raise {N M : Nat} {W : World} {g : Option Nat} {cs : List N4} {fs : List Fm} (h : TwL N M W g cs fs) : TwL N W.heap.size W g cs fs := by
  have ht := h.top
  obtain ⟨zs, h1, h2, h3, h4⟩ := h.zs
  exact ⟨Nat.le_refl _, zs, h1, h2, fun z hz => by
    obtain ⟨k1, k2, k3, k4⟩ := h3 z hz
    exact ⟨k1, k2, by omega, k4⟩, h4⟩
theorem TwL.own {N M : Nat} {W : World} {g : Option Nat} {cs : List N4} {fs : List Fm} (h : TwL N M W none cs fs) (hg : ∀ j, g = some j → j < N) : TwL N M W g cs fs := by
  obtain ⟨zs, h1, h2, h3, h4⟩ := h.zs
  exact ⟨h.top, zs, h1, h2, fun z hz => by
    obtain ⟨k1, k2, k3, k4⟩ := h3 z hz
    exact ⟨k1, k2, k3, fun j hj => .inl (by have := hg j hj; omega)⟩, h4⟩
theorem TwL.low {N N2 M : Nat} {W : World} {g : Option Nat} {cs : List N4} {fs : List Fm} (h : TwL N M W g cs fs) (hn : N2 ≤ N) : TwL N2 M W g cs fs := by
  obtain ⟨zs, h1, h2, h3, h4⟩ := h.zs
  exact ⟨h.top, zs, h1, h2, fun z hz => by
    obtain ⟨k1, k2, k3, k4⟩ := h3 z hz
    exact ⟨k1, by omega, k3, k4⟩, h4⟩
theorem TwL.app {N M L K : Nat} {W : World} {g : Option Nat} {cs cs2 : List N4} {fs fs2 : List Fm} (h : TwL N M W g cs fs) (k : TwL L K W g cs2 fs2) (hM : M ≤ L) (hN : N ≤ L) : TwL N W.heap.size W g (cs ++ cs2) (fs ++ fs2) := by
  have ht := h.top
  have kt := k.top
  obtain ⟨zs, h1, h2, h3, h4⟩ := h.zs
  obtain ⟨ys, k1, k2, k3, k4⟩ := k.zs
  refine ⟨Nat.le_refl _, zs ++ ys, by simp [h1, k1], by simp [h2, k2], fun z hz => ?_, List.pairwise_append.2 ⟨h4, k4, fun a ha b hb => .inl ?_⟩⟩
  · rcases List.mem_append.1 hz with hz | hz
    · obtain ⟨m1, m2, m3, m4⟩ := h3 z hz
      exact ⟨m1, m2, by omega, m4⟩
    · obtain ⟨m1, m2, m3, m4⟩ := k3 z hz
      exact ⟨m1, by omega, by omega, m4⟩
  · have := (h3 a ha).2.2.1
    have := (k3 b hb).2.1
    omega
theorem TwL.one {lo hi : Nat} {W : World} {gs : List Fm} {a : Option Addr} {n cap : Nat} (h : FitR lo hi W gs a n cap) (op v x : Int) {g : Option Nat} (hg : ∀ j, g = some j → j < lo ∨ hi ≤ j) : TwL lo W.heap.size W g [(op, v, x, (a, n, cap))] [.mk op v x gs] :=
  ⟨Nat.le_refl _, [⟨(op, v, x, (a, n, cap)), .mk op v x gs, lo, hi⟩], rfl, rfl, fun z hz => by
    obtain rfl : z = ⟨(op, v, x, (a, n, cap)), .mk op v x gs, lo, hi⟩ := by simpa using hz
    exact ⟨h.sepF op v x, Nat.le_refl _, h.top, hg⟩, List.pairwise_singleton _ _⟩
theorem TwL.snoc {N M : Nat} {W : World} {g : Option Nat} {cs : List N4} {fs : List Fm} (h : TwL N M W g cs fs) {lo hi : Nat} {gs : List Fm} {a : Option Addr} {n cap : Nat} (k : FitR lo hi W gs a n cap) (op v x : Int) (hM : M ≤ lo) (hN : N ≤ lo) (hg : ∀ j, g = some j → j < lo ∨ hi ≤ j) : TwL N W.heap.size W g (cs ++ [(op, v, x, (a, n, cap))]) (fs ++ [.mk op v x gs]) :=
  h.app (TwL.one k op v x hg) hM hN
/-- a list in block g, its elements in spans apart from it -/
theorem fitR_rw {N M L K : Nat} {W : World} {g cap : Nat} {cs : List N4} {fs : List Fm} (hr : Rw 26 W g cap cs) (k : TwL N M W (some g) cs fs) (hL : L ≤ g) (hLN : L ≤ N) (hK : g < K) (hMK : M ≤ K) (ht : K ≤ W.heap.size) : FitR L K W fs (some ⟨g, 0, none⟩) fs.length cap := by
  obtain ⟨zs, h1, h2, h3, h4⟩ := k.zs
  refine ⟨ht, ?_⟩
  unfold SepF
  refine ⟨rfl, rfl, rfl, rfl, .inr ⟨g, cs, zs.map fun z => (z.lo, z.hi), rfl, hL, hK, hr, ?_, fun p hp => ?_, ?_⟩⟩
  · rw [← h1, ← h2]
    exact sepL_of zs fun z hz => (h3 z hz).1
  · obtain ⟨z, hz, rfl⟩ := List.mem_map.1 hp
    obtain ⟨_, m2, m3, m4⟩ := h3 z hz
    exact ⟨by show L ≤ z.lo; omega, by show z.hi ≤ K; omega, m4 g rfl⟩
  · exact List.pairwise_map.2 h4
/-- a list's elements -/
theorem FitR.open {lo hi : Nat} {W : World} {gs : List Fm} {a : Option Addr} {n cap : Nat} (h : FitR lo hi W gs a n cap) (hn : 0 < n) : ∃ (b : Nat) (cs : List N4), a = some ⟨b, 0, none⟩ ∧ lo ≤ b ∧ b < hi ∧ Rw 26 W b cap cs ∧ TwL lo hi W (some b) cs gs := by
  have ht := h.top
  have hs := h.sep
  unfold SepF at hs
  obtain ⟨_, _, _, _, h5⟩ := hs
  rcases h5 with ⟨_, e, _⟩ | ⟨b, cs, is, e, hl, hh, hr, hL, hs, hp⟩
  · exact absurd (show n = 0 from e) (by omega)
  · obtain ⟨zs, h1, h2, h3, h4⟩ := hL.zs
    refine ⟨b, cs, e, hl, hh, hr, ht, zs, h1, h2, fun z hz => ?_, ?_⟩
    · obtain ⟨m1, m2, m3⟩ := hs (z.lo, z.hi) (by rw [← h3]; exact List.mem_map.2 ⟨z, hz, rfl⟩)
      exact ⟨h4 z hz, m1, m2, fun j hj => by cases hj; exact m3⟩
    · rw [← h3] at hp
      exact (List.pairwise_map (f := fun z : Z => (z.lo, z.hi)) (R := Off)).1 hp
theorem grownBy_setAt (w : World) (g o : Nat) (v : Value) : w.grownBy (w.setCell ⟨g, o, none⟩ v) (some g) := by
  refine ⟨rfl, rfl, rfl, by simp [World.setCell], fun j _ hne => ?_⟩
  have hne' : g ≠ j := fun e => hne (by rw [e])
  simp only [World.setCell, Array.getElem?_modify]
  rw [if_neg hne']
end Gim
namespace Go.Proofs.Ytmdanfeilgeoaaa
open Go.RowKit Gim Go.Sort
theorem rw_of_row4 {w : World} {B n cap : Nat} {g : Nat} {cs : List N4} (h : Row4 w B (.slice (some ⟨g, 0, none⟩) n cap) cs) : n = cs.length ∧ B ≤ g ∧ Rw 26 w g cap cs := by
  rcases h.2 with ⟨h1, _⟩ | ⟨g', cap', cur, h1, h2, h3, h4, h5, h6, h7⟩
  · cases h1
  · simp only [Value.slice.injEq, Option.some.injEq, Addr.mk.injEq, and_true] at h1
    obtain ⟨rfl, rfl, rfl⟩ := h1
    refine ⟨rfl, h2, cur, h3, h4, h5, h6, fun i c m u hi hm hu => ?_⟩
    have k := (cells4_get hi m hm).trans hu
    rw [← h7, List.getElem?_take] at k
    split at k
    · simpa using k
    · cases k
theorem fitR_of_row {W : World} {N M : Nat} {v : Value} {cs : List N4} {gs : List Fm} (h : Row4 W N v cs) (k : TwL N M W v.ownBlock cs gs) : ∃ a cap, v = .slice a gs.length cap ∧ FitR N W.heap.size W gs a gs.length cap := by
  rcases h.2 with ⟨rfl, h0⟩ | ⟨g, cap, cur, rfl, hb, hg, hn, hc, hs, ht⟩
  · have hl : gs.length = 0 := by rw [← k.len]; exact h0
    have hz : gs = [] := List.eq_nil_of_length_eq_zero hl
    subst hz
    exact ⟨none, 0, rfl, Nat.le_refl _, by unfold SepF; exact ⟨rfl, rfl, rfl, rfl, .inl ⟨rfl, rfl, rfl⟩⟩⟩
  · have hR := (rw_of_row4 h).2.2
    exact ⟨_, cap, by rw [k.len], fitR_rw hR k hb (Nat.le_refl _) hR.lt k.top (Nat.le_refl _)⟩
/-- 'append(args, a)' of one formula; where the new slice lies -/
theorem append4_at (w : World) {ops : Array Oper} {rest : List Oper} {o : Oper} {a : Act} {Q : Exit → Act → World → Prop} (hg : o.guard = none) (s x : Operand)
    (ho : o.op = .call { callee := .builtin .append, args := #[s, x], argTypes := #[24, 24] }) (B : Nat)
    (v : Value) (cs : List N4) (hs : a.eval s = v) (hrow : Row4 w B v cs) (c : N4) (hx : a.eval x = .slice (some ⟨w.heap.size, 0, none⟩) 1 1)
    (hlen : cs.length < 1099511627776) (hB : B ≤ w.heap.size)
    (hK : ∀ v' w', Row4 w' B v' (cs ++ [c]) → w.grownBy w' v.ownBlock → (v'.ownBlock = v.ownBlock ∨ ∃ j, v'.ownBlock = some j ∧ w.heap.size ≤ j) → wpList Try.prog ops Q rest (a.put o.dst v') w') :
    wpList Try.prog ops Q (o :: rest) a (w.alloc (.cells (cell4 c).toArray 26)) := by
  obtain ⟨i0, hi, hz0, hz1, hz2⟩ := info_parts info_form
  refine wpList_append_own_at _ hg s x 24 ho B 26 i0 _ 4 48 Try.underlying24 hi hz0 hz1 hz2 rfl (by decide) v cs.length (cells4 cs) hs (World.ownsRow.alloc hrow _) ⟨w.heap.size, 0, none⟩ 1 1 (cell4 c) hx rfl (four_new _ _ _)
      (fun x hx => cells4_one [c] x (by simpa [cells4] using hx)) (by unfold maxLen; omega) (by omega) (by simp; omega) ?_
  intro v' w' h1 h2 _ h5
  refine hK v' w' ?_ ?_ ?_
  · unfold Row4
    rw [List.length_append, cells4_app, show cells4 [c] = cell4 c from by simp [cells4]]
    exact h1
  · have h3 := World.grownBy_alloc w (.cells (cell4 c).toArray 26) v.ownBlock
    exact ⟨h2.os.trans h3.os, h2.tape.trans h3.tape, h2.output.trans h3.output, Nat.le_trans h3.size h2.size,
      fun j hj hne => (h2.block j (Nat.lt_of_lt_of_le hj h3.size) hne).trans (h3.block j hj hne)⟩
  · rcases h5 with h5 | h5
    · exact .inl h5
    · exact .inr ⟨_, h5, by simp⟩
set_option maxRecDepth 100000 in
set_option maxHeartbeats 8000000 in
theorem twin_calls : ∀ (k : Nat) (op v x : Int) (gs : List Fm) (a : Option Addr) (n cap : Nat) (w : World), SizeOf.sizeOf (Fm.mk op v x gs) ≤ k → FitS w gs a n cap → szF (.mk op v x gs) ≤ 549755813888 →
    Calls Try.prog 10 #[.agg #[.int .i64 op, .int .i64 v, .int .i64 x, .slice a n cap]] w fun e w' => ∃ a' cap', e = .returned (.agg #[.int .i64 op, .int .i64 v, .int .i64 x, .slice a' n cap']) ∧ FitR w.heap.size w'.heap.size w' gs a' n cap' ∧ Below w.heap.size w w' := by
  intro k
  induction k with
  | zero => intro op v x gs a n cap w hk; exact absurd hk (by simp)
  | succ k ih =>
  intro op v x gs a n cap w hk hF hsz
  have hcm := hF.cap_le
  have hle := hF.le
  have hnb : n ≤ 9223372036854775807 := by unfold maxLen at hcm; omega
  have HL := Lib.hid hF.len
  have HK := Lib.hid hk
  have IH := Lib.hid ih
  have HSZ := Lib.hid (show szL gs ≤ 549755813888 by unfold szF at hsz; omega)
  have hbx : ((w.alloc (.cells #[.int .i64 op, .int .i64 v, .int .i64 x, .slice a n cap] 26)).alloc (.cells #[.int .i64 0, .int .i64 0, .int .i64 0, .slice none 0 0] 26)).heap[w.heap.size]? = some (.cells #[.int .i64 op, .int .i64 v, .int .i64 x, .slice a n cap] 26) := (heap_alloc_old _ _ (by simp)).trans (heap_alloc_new _ _)
  have hbr : ((w.alloc (.cells #[.int .i64 op, .int .i64 v, .int .i64 x, .slice a n cap] 26)).alloc (.cells #[.int .i64 0, .int .i64 0, .int .i64 0, .slice none 0 0] 26)).heap[w.heap.size + 1]? = some (.cells #[.int .i64 0, .int .i64 0, .int .i64 0, .slice none 0 0] 26) := by
    have := heap_alloc_new (w.alloc (.cells #[.int .i64 op, .int .i64 v, .int .i64 x, .slice a n cap] 26)) (.cells #[.int .i64 0, .int .i64 0, .int .i64 0, .slice none 0 0] 26)
    rw [World.size_alloc] at this
    exact this
  have hb0 : Below w.heap.size w ((w.alloc (.cells #[.int .i64 op, .int .i64 v, .int .i64 x, .slice a n cap] 26)).alloc (.cells #[.int .i64 0, .int .i64 0, .int .i64 0, .slice none 0 0] 26)) := ((Below.refl _ _).alloc (Nat.le_refl _) _).alloc (by simp) _
  have hs0 : ((w.alloc (.cells #[.int .i64 op, .int .i64 v, .int .i64 x, .slice a n cap] 26)).alloc (.cells #[.int .i64 0, .int .i64 0, .int .i64 0, .slice none 0 0] 26)).heap.size = w.heap.size + 2 := by simp
  obtain ⟨W1, hW1⟩ : ∃ W1, (w.alloc (.cells #[.int .i64 op, .int .i64 v, .int .i64 x, .slice a n cap] 26)).alloc (.cells #[.int .i64 0, .int .i64 0, .int .i64 0, .slice none 0 0] 26) = W1 := ⟨_, rfl⟩
  rw [hW1] at hbx hbr hb0 hs0
  have HF := Lib.hid (hF.below hb0)
  clear hF hk ih hsz
  go_enter Try.func10, Try.ntmps10
  go_upto_region 1 with fail
  try rw [hW1]
  clear hW1
  obtain ⟨B, hB⟩ : ∃ B, w.heap.size = B := ⟨_, rfl⟩
  have HBN := Lib.hid hB
  rw [hB] at hbx hbr hs0 ⊢
  clear hB
  have c3 : W1.cell? ⟨B, 3, none⟩ = some (.slice a n cap) := by simp [World.cell?, hbx]
  have HBX := Lib.hid hbx
  have HBR := Lib.hid hbr
  have HB0 := Lib.hid hb0
  have HS0 := Lib.hid hs0
  clear hbx hbr hb0 hs0
  go_wp2_with fail
  go_loopw [3, 9] (fun vv i wr => ∃ (q : Nat) (cs : List N4), i = .int .i64 q ∧ q ≤ n ∧ Row4 wr W1.heap.size vv cs ∧ TwL W1.heap.size wr.heap.size wr vv.ownBlock cs (gs.take q) ∧ Below W1.heap.size W1 wr) (fun _ i _ => n - (RowKit.intOf i).toNat)
  case atStart => exact ⟨0, [], rfl, Nat.zero_le _, Row4.nil _ _, TwL.nil _ _ _, Below.refl _ _⟩
  case round =>
    obtain ⟨q, cs, rfl, hq, hr, ht, hbr⟩ := hrel
    by_cases hqn : q < n
    · have hqn' : (q : Int) < n := by omega
      obtain ⟨b, o, op2, v2, x2, bs, a2, n2, cap2, rfl, hb, hel, d0, d1, d2, d3, hF2⟩ := (HF.out.below hbr).elem q hqn
      have hsm := mem_small (op := op) (v := v) (x := x) hel
      have hNX := take_next hel
      have hbd := szL_take_le gs (q + 1)
      rw [hNX, szL_app] at hbd
      have hg2 : Below wr.heap.size wr (wr.alloc (.cells #[.int .i64 op2, .int .i64 v2, .int .i64 x2, .slice a2 n2 cap2] 26)) := (Below.refl _ _).alloc (Nat.le_refl _) _
      have hC := IH.out op2 v2 x2 bs a2 n2 cap2 _ (by have := HK.out; omega) (hF2.below hg2) (by have := HSZ.out; simp only [szL] at hbd; omega)
      have hlc : cs.length < 1099511627776 := by
        have h1 := ht.len
        have h2 := fm_len (gs.take q)
        have := HSZ.out
        omega
      have HNX := Lib.hid hNX
      have HR := Lib.hid (hr.stays hg2)
      have HT := Lib.hid (ht.below hg2)
      have HBR2 := Lib.hid (hbr.trans (hg2.mono hbr.size))
      have hszA : W1.heap.size ≤ (wr.alloc (.cells #[.int .i64 op2, .int .i64 v2, .int .i64 x2, .slice a2 n2 cap2] 26)).heap.size := by rw [World.size_alloc]; have := hbr.size; omega
      clear hel hsm hNX hbd hg2 hF2 hr ht hbr
      go_wp2_with fail
      obtain ⟨wA, hwA⟩ : ∃ wA, wr.alloc (.cells #[.int .i64 op2, .int .i64 v2, .int .i64 x2, .slice a2 n2 cap2] 26) = wA := ⟨_, rfl⟩
      have HWA : Hid (wr.heap.size ≤ wA.heap.size) := Lib.hid (by rw [← hwA, World.size_alloc]; omega)
      rw [hwA] at hC HR HT HBR2 hszA ⊢
      clear hwA d0 d1 d2 d3
      refine hC.mono ?_
      rintro e w3 ⟨a3, cap3, rfl, hFR, hb3⟩
      have hr3 := HR.out.stays hb3
      have ht3 := HT.out.below hb3
      have hbw3 := HBR2.out.trans (hb3.mono hszA)
      have hsz3 := hbw3.size
      have HTF := Lib.hid hFR
      have HOW := Lib.hid (fun j hj => (HR.out.lt j hj).2)
      have HT3 := Lib.hid (ht3.snoc HTF.out op2 v2 x2 HWA.out hszA (fun j hj => .inl (HOW.out j hj)))
      have HB3 := Lib.hid hbw3
      have HR3 := Lib.hid hr3
      clear hC hFR hb3 ht3 hbw3 hszA
      go_wp2_with (at_builtin; refine append4_at w3 rfl _ _ rfl W1.heap.size u3 cs rfl hr3 (op2, v2, x2, (a3, n2, cap3)) rfl hlc hsz3 ?_; intro v4 w4 hrow4 hgrow4 hown4)
      have hb4 : Below W1.heap.size W1 w4 := HB3.out.grown hgrow4 hsz3 (fun j hj => (HR3.out.lt j hj).1)
      have ht4 := HT3.out.grown hgrow4 hown4
      rw [← HNX.out] at ht4
      have ht4 := ht4.raise
      clear hgrow4 hown4 hr3
      go_wp2_with fail
      go_roundw
      case rel => exact ⟨q + 1, _, by go_num, by omega, hrow4, ht4, hb4⟩
      case measure => simp [RowKit.intOf]; omega
    · obtain rfl : q = n := by omega
      rw [List.take_of_length_le (by rw [HL.out]; exact Nat.le_refl _)] at ht
      obtain ⟨a', cap', hv, hFR⟩ := fitR_of_row hr ht
      rw [HL.out] at hv hFR
      subst hv
      have hx := (hbr.block B (by have := HS0.out; omega)).trans HBX.out
      have hr2 := (hbr.block (B + 1) (by have := HS0.out; omega)).trans HBR.out
      have e0 : wr.cell? ⟨B, 0, none⟩ = some (.int .i64 op) := by simp [World.cell?, hx]
      have e1 : wr.cell? ⟨B, 1, none⟩ = some (.int .i64 v) := by simp [World.cell?, hx]
      have e2 : wr.cell? ⟨B, 2, none⟩ = some (.int .i64 x) := by simp [World.cell?, hx]
      have e3 : wr.cell? ⟨B, 3, none⟩ = some (.slice a q cap) := by simp [World.cell?, hx]
      have z3 : wr.frozen? ⟨B, 3, none⟩ = false := by simp [World.frozen?, hx]
      have r0 : wr.cell? ⟨B + 1, 0, none⟩ = some (.int .i64 0) := by simp [World.cell?, hr2]
      have r1 : wr.cell? ⟨B + 1, 1, none⟩ = some (.int .i64 0) := by simp [World.cell?, hr2]
      have r2 : wr.cell? ⟨B + 1, 2, none⟩ = some (.int .i64 0) := by simp [World.cell?, hr2]
      have r3 : wr.cell? ⟨B + 1, 3, none⟩ = some (.slice none 0 0) := by simp [World.cell?, hr2]
      have y0 : wr.frozen? ⟨B + 1, 0, none⟩ = false := by simp [World.frozen?, hr2]
      have y1 : wr.frozen? ⟨B + 1, 1, none⟩ = false := by simp [World.frozen?, hr2]
      have y2 : wr.frozen? ⟨B + 1, 2, none⟩ = false := by simp [World.frozen?, hr2]
      have y3 : wr.frozen? ⟨B + 1, 3, none⟩ = false := by simp [World.frozen?, hr2]
      have HX := Lib.hid hx
      have HR2 := Lib.hid hr2
      have HFR := Lib.hid hFR
      have HBR2 := Lib.hid hbr
      clear hx hr2 hFR hbr hr ht
      go_wp2_with fail
      obtain ⟨W8, hW8⟩ : ∃ W8, Hid (W8 = ((((wr.setCell ⟨B, 3, none⟩ (.slice a' q cap')).setCell ⟨B + 1, 0, none⟩ (.int .i64 op)).setCell ⟨B + 1, 1, none⟩ (.int .i64 v)).setCell ⟨B + 1, 2, none⟩ (.int .i64 x)).setCell ⟨B + 1, 3, none⟩ (.slice a' q cap')) := ⟨_, Lib.hid rfl⟩
      rw [← hW8.out]
      have g7 : wr.grownBy (wr.setCell ⟨B, 3, none⟩ (.slice a' q cap')) (some B) := grownBy_setAt _ _ _ _
      have hr7 : (wr.setCell ⟨B, 3, none⟩ (.slice a' q cap')).heap[B + 1]? = some (.cells #[.int .i64 0, .int .i64 0, .int .i64 0, .slice none 0 0] 26) := (g7.block (B + 1) (Array.getElem?_eq_some_iff.1 HR2.out).1 (fun e => by have := Option.some.inj e; omega)).trans HR2.out
      have h8 : W8.heap[B + 1]? = some (.cells #[.int .i64 op, .int .i64 v, .int .i64 x, .slice a' q cap'] 26) := by
        rw [hW8.out]
        exact Go.Joins.block_setCell (Go.Joins.block_setCell (Go.Joins.block_setCell (Go.Joins.block_setCell hr7 (i := 0) (.int .i64 op)) (i := 1) (.int .i64 v)) (i := 2) (.int .i64 x)) (i := 3) (.slice a' q cap')
      have g8 : (wr.setCell ⟨B, 3, none⟩ (.slice a' q cap')).grownBy W8 (some (B + 1)) := by
        rw [hW8.out]
        exact World.grownBy.trans (World.grownBy.trans (World.grownBy.trans (grownBy_setAt _ _ _ _) (grownBy_setAt _ _ _ _)) (grownBy_setAt _ _ _ _)) (grownBy_setAt _ _ _ _)
      have j0 : W8.cell? ⟨B + 1, 0, none⟩ = some (.int .i64 op) := by simp [World.cell?, h8]
      have j1 : W8.cell? ⟨B + 1, 1, none⟩ = some (.int .i64 v) := by simp [World.cell?, h8]
      have j2 : W8.cell? ⟨B + 1, 2, none⟩ = some (.int .i64 x) := by simp [World.cell?, h8]
      have j3 : W8.cell? ⟨B + 1, 3, none⟩ = some (.slice a' q cap') := by simp [World.cell?, h8]
      have hs := HS0.out
      have hn := HBN.out
      have hk7 : Keeps W1.heap.size wr.heap.size wr W8 :=
        (Keeps.of_grown g7 (Nat.le_refl _) (fun j e => by have := Option.some.inj e; omega)).trans (Keeps.of_grown g8 g7.size (fun j e => by have := Option.some.inj e; omega))
      have hsz8 : wr.heap.size ≤ W8.heap.size := hk7.1
      refine bodyPost_ret (v := .agg #[.int .i64 op, .int .i64 v, .int .i64 x, .slice a' q cap']) ?_ rfl ?_
      · simp [results, Try.f10, go_sem, j0, j1, j2, j3]
      · have hB1 : Below w.heap.size w wr := HB0.out.trans (HBR2.out.mono HB0.out.size)
        refine ⟨a', cap', rfl, (HFR.out.keeps hk7).mono (by omega) hsz8 (Nat.le_refl _), ?_⟩
        have hB2 := hB1.grown g7 hB1.size (fun j e => by have := Option.some.inj e; omega)
        exact hB2.grown g8 hB2.size (fun j e => by have := Option.some.inj e; omega)
end Go.Proofs.Ytmdanfeilgeoaaa
