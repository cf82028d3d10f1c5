/- kleene.simple of the formula that the laws' first examples simplify; gimletlaw14.fixed. -/
import Derived.Test.YtmdanfeilgeoaaaKSort
import Derived.Test.YtmdanfeilgeoaaaKCheck
import Derived.Lib.SmallJoins
namespace Gim
open Go Go.RowKit Go.Sort Go.Proofs Go.Lib
theorem setCell_self {w : World} {b o : Nat} {cs : Array Value} {t : TypeId} {fr : Nat × Nat} {v : Value} (h : w.heap[b]? = some (.cells cs t fr)) (hv : cs[o]? = some v) : w.setCell ⟨b, o, none⟩ v = w := by
  have hb := (Array.getElem?_eq_some_iff.1 h).1
  have hh : w.heap.modify b (fun | .cells c elem frozen => .cells (if (none : Option Value).isSome then c else c.setIfInBounds o v) elem frozen | o => o) = w.heap := by
    apply Array.ext_getElem?
    intro i
    rw [Array.getElem?_modify]
    by_cases hi : b = i
    · subst hi
      rw [if_pos rfl, h]
      have hs : cs.setIfInBounds o v = cs := by
        apply Array.ext_getElem?
        intro j
        rw [Array.getElem?_setIfInBounds]
        by_cases hj : o = j
        · subst hj
          rw [if_pos rfl, hv]
          split
          · rfl
          · rename_i hn
            exact absurd (Array.getElem?_eq_some_iff.1 hv).1 hn
        · rw [if_neg hj]
      simp [hs]
    · rw [if_neg hi]
  show { w with heap := _ } = w
  have : (World.setCell w ⟨b, o, none⟩ v).heap = w.heap := hh
  cases w
  simp only [World.setCell] at this ⊢
  simp only [this]
/-- block b holds one formula -/
def Bx (t : TypeId) (w : World) (b : Nat) (x : Int × Int × Int) : Prop := w.heap[b]? = some (.cells #[.int .i64 x.1, .int .i64 x.2.1, .int .i64 x.2.2, .slice none 0 0] t)
theorem Bx.lt {t : TypeId} {w : World} {b : Nat} {x : Int × Int × Int} (h : Bx t w b x) : b < w.heap.size := (Array.getElem?_eq_some_iff.1 h).1
theorem Bx.below {t : TypeId} {w w' : World} {b : Nat} {x : Int × Int × Int} (h : Bx t w b x) (hb : Below w.heap.size w w') : Bx t w' b x := (hb.block _ h.lt).trans h
theorem Bx.cells {t : TypeId} {w : World} {b : Nat} {x : Int × Int × Int} (h : Bx t w b x) : w.cell? ⟨b, 0, none⟩ = some (.int .i64 x.1) ∧ w.cell? ⟨b, 1, none⟩ = some (.int .i64 x.2.1) ∧ w.cell? ⟨b, 2, none⟩ = some (.int .i64 x.2.2) ∧ w.cell? ⟨b, 3, none⟩ = some (.slice none 0 0) := by
  have h' : w.heap[b]? = some (.cells #[.int .i64 x.1, .int .i64 x.2.1, .int .i64 x.2.2, .slice none 0 0] t) := h
  simp [World.cell?, h']
theorem Bx.new (t : TypeId) (w : World) (x : Int × Int × Int) : Bx t (w.alloc (.cells #[.int .i64 x.1, .int .i64 x.2.1, .int .i64 x.2.2, .slice none 0 0] t)) w.heap.size x := heap_alloc_new w _
def nums3 : List Int := [1, 0, 1]
abbrev leaf4 (x : Int) : N4 := (1, 0, x, (none, 0, 0))
theorem nums3_cell (t : TypeId) (w : World) (b q : Nat) (hq : q < 3) (h : w.heap[b]? = some (.cells #[.int .i64 1, .int .i64 0, .int .i64 1, .slice none 0 0, .int .i64 1, .int .i64 0, .int .i64 0, .slice none 0 0, .int .i64 1, .int .i64 0, .int .i64 1, .slice none 0 0] t)) :
    w.cell? ⟨b, q * 4, none⟩ = some (.int .i64 1) ∧ w.cell? ⟨b, q * 4 + 1, none⟩ = some (.int .i64 0) ∧ w.cell? ⟨b, q * 4 + 2, none⟩ = some (.int .i64 (gt nums3 q)) ∧ w.cell? ⟨b, q * 4 + 3, none⟩ = some (.slice none 0 0) := by
  match q, hq with
  | 0, _ => simp [World.cell?, h, gt, nums3]
  | 1, _ => simp [World.cell?, h, gt, nums3]
  | 2, _ => simp [World.cell?, h, gt, nums3]
end Gim
namespace Go.Proofs.Ytmdanfeilgeoaaa
open Go.RowKit Gim Go.Sort Go.Lib
theorem Row4.grown {w w' : World} {B R : Nat} {v : Value} {cs : List N4} (h : Row4 w B v cs) (hg : w.grownBy w' (some R)) (hne : ∀ g, v.ownBlock = some g → g ≠ R) : Row4 w' B v cs := by
  refine ⟨h.1, ?_⟩
  rcases h.2 with h2 | ⟨g, cap, cur, a, b, c, rest⟩
  · exact .inl h2
  · exact .inr ⟨g, cap, cur, a, b, (hg.block g (Array.getElem?_eq_some_iff.1 c).1 (fun e => hne g (by rw [a]; rfl) (Option.some.inj e))).trans c, rest⟩
theorem holdsV_grown {w w' : World} {g r : Nat} {d : Array (Int × Int × Int)} (h : HoldsK encV 4 w g 0 d) (hg : g < w.heap.size) (hb : w.grownBy w' (some r)) (hne : g ≠ r) : HoldsK encV 4 w' g 0 d := fun j hj => by
  have h1 := h j hj
  have h2 := hb.block g hg (fun e => hne (Option.some.inj e))
  simp only [World.cell?, World.frozen?, h2] at h1 ⊢
  exact h1
theorem Row4.holds3 {w : World} {B g cap : Nat} (h : Row4 w B (.slice (some ⟨g, 0, none⟩) 3 cap) ((nums3.take 3).map leaf4)) (hf : ∀ o, w.frozen? ⟨g, o, none⟩ = false) : HoldsK encV 4 w g 0 #[(1, 0, 1), (1, 0, 0), (1, 0, 1)] := by
  have hk : ∀ i c, ((nums3.take 3).map leaf4)[i]? = some c → ∀ k u, k < 4 → (cell4 c)[k]? = some u → w.cell? ⟨g, i * 4 + k, none⟩ = some u := fun i c hi k u hk hu => by
    have h0 := World.ownsRow.cells (g := g) h rfl (i * 4 + k) u ((cells4_get hi k hk).trans hu)
    rw [Addr.add_lit, Nat.zero_add] at h0
    exact h0
  refine holdsV_of fun i hi k hk4 => ⟨?_, hf _⟩
  have hi3 : i < 3 := by simpa using hi
  match i, hi3, k, hk4 with
  | 0, _, 0, _ => exact hk 0 (1, 0, 1, none, 0, 0) rfl 0 _ (by omega) rfl
  | 0, _, 1, _ => exact hk 0 (1, 0, 1, none, 0, 0) rfl 1 _ (by omega) rfl
  | 0, _, 2, _ => exact hk 0 (1, 0, 1, none, 0, 0) rfl 2 _ (by omega) rfl
  | 0, _, 3, _ => exact hk 0 (1, 0, 1, none, 0, 0) rfl 3 _ (by omega) rfl
  | 1, _, 0, _ => exact hk 1 (1, 0, 0, none, 0, 0) rfl 0 _ (by omega) rfl
  | 1, _, 1, _ => exact hk 1 (1, 0, 0, none, 0, 0) rfl 1 _ (by omega) rfl
  | 1, _, 2, _ => exact hk 1 (1, 0, 0, none, 0, 0) rfl 2 _ (by omega) rfl
  | 1, _, 3, _ => exact hk 1 (1, 0, 0, none, 0, 0) rfl 3 _ (by omega) rfl
  | 2, _, 0, _ => exact hk 2 (1, 0, 1, none, 0, 0) rfl 0 _ (by omega) rfl
  | 2, _, 1, _ => exact hk 2 (1, 0, 1, none, 0, 0) rfl 1 _ (by omega) rfl
  | 2, _, 2, _ => exact hk 2 (1, 0, 1, none, 0, 0) rfl 2 _ (by omega) rfl
  | 2, _, 3, _ => exact hk 2 (1, 0, 1, none, 0, 0) rfl 3 _ (by omega) rfl
theorem contains_calls (g cap B7 : Nat) (w : World) (h : HoldsK encV 4 w g 0 #[(1, 0, 0), (1, 0, 1)]) (hg : g < w.heap.size) (h7 : Bx 26 w B7 (0, 2, 0)) :
    Calls Try.prog 50 #[.slice (some ⟨g, 0, none⟩) 2 cap, .func (.func 51) #[] #[.pointer (some ⟨B7, 0, none⟩)]] w fun e w' => e = .returned (.bool false) ∧ Below w.heap.size w w' := by
  have hP : PredBelow Try.prog 51 #[.pointer (some ⟨B7, 0, none⟩)] (fun x => .agg (encV x).toArray) (fun x => decide (ordV x (0, 2, 0) = 0)) w := fun W x hb =>
    (isAll_calls B7 x (0, 2, 0) W (Nat.lt_of_lt_of_le h7.lt hb.size) (h7.below hb)).mono fun _ _ ⟨he, hg⟩ => ⟨he, hb.trans (hg.below.mono hb.size)⟩
  have hK := AnyQ.slices_ContainsFunc laysContF 4 Try.isAgg26 Try.sizeOf26 encV (fun _ => rfl) (fun x => decide (ordV x (0, 2, 0) = 0)) 51 #[.pointer (some ⟨B7, 0, none⟩)] (enters_of Try.func51 (by kernel_rfl) rfl) g 0 2 cap [(1, 0, 0), (1, 0, 1)] w hP (by simp) (by omega) hg
    (fun j hj i v hi => by
      have hj2 : j < 2 := by simpa using hj
      have hi4 : i < 4 := by
        have := (List.getElem?_eq_some_iff.1 hi).1
        simpa [encV] using this
      have hh := h (j * 4 + i) (by rw [size_flatK]; simp; omega)
      rw [get_flatK _ _ _ _ (by simp; omega), show (j * 4 + i) / 4 = j by omega, show (j * 4 + i) % 4 = i by omega] at hh
      have he : (encV (#[(1, 0, 0), (1, 0, 1)] : Array (Int × Int × Int))[j]!)[i]! = v := by
        have hx : (#[(1, 0, 0), (1, 0, 1)] : Array (Int × Int × Int))[j]! = ([(1, 0, 0), (1, 0, 1)] : List (Int × Int × Int))[j]! := by
          match j, hj2 with
          | 0, _ => rfl
          | 1, _ => rfl
        rw [hx, List.getElem!_eq_getElem?_getD, hi]
        rfl
      rw [Nat.zero_add, ← he]
      rw [Nat.zero_add] at hh
      exact hh.1)
  exact hK
set_option maxRecDepth 100000 in
set_option maxHeartbeats 8000000 in
theorem simple_fix (b : Nat) (w : World) (hb : w.heap[b]? = some (.cells #[.int .i64 1, .int .i64 0, .int .i64 1, .slice none 0 0, .int .i64 1, .int .i64 0, .int .i64 0, .slice none 0 0, .int .i64 1, .int .i64 0, .int .i64 1, .slice none 0 0] 26)) :
    Calls Try.prog 31 #[.agg #[.int .i64 3, .int .i64 0, .int .i64 0, .slice (some ⟨b, 0, none⟩) 3 3], .slice none 0 0] w fun e w' => ∃ g cap, e = .returned (.agg #[.int .i64 3, .int .i64 0, .int .i64 0, .slice (some ⟨g, 0, none⟩) 2 cap]) ∧ HoldsK encV 4 w' g 0 #[(1, 0, 0), (1, 0, 1)] ∧ g < w'.heap.size ∧ w.heap.size ≤ g ∧ 2 ≤ cap ∧ cap ≤ maxLen ∧ Below w.heap.size w w' := by
  have HB := Lib.hid hb
  clear hb
  obtain ⟨S0, hS0⟩ : ∃ S0, w.heap.size = S0 := ⟨_, rfl⟩
  have hb0 : Below w.heap.size w ((w.alloc (.cells #[.int .i64 3, .int .i64 0, .int .i64 0, .slice (some ⟨b, 0, none⟩) 3 3] 26)).alloc (.cells #[.int .i64 0, .int .i64 0, .int .i64 0, .slice none 0 0] 26)) := ((Below.refl _ _).alloc (Nat.le_refl _) _).alloc (by simp) _
  have hs0 : ((w.alloc (.cells #[.int .i64 3, .int .i64 0, .int .i64 0, .slice (some ⟨b, 0, none⟩) 3 3] 26)).alloc (.cells #[.int .i64 0, .int .i64 0, .int .i64 0, .slice none 0 0] 26)).heap.size = S0 + 2 := by simp [hS0]
  have hx0 : ((w.alloc (.cells #[.int .i64 3, .int .i64 0, .int .i64 0, .slice (some ⟨b, 0, none⟩) 3 3] 26)).alloc (.cells #[.int .i64 0, .int .i64 0, .int .i64 0, .slice none 0 0] 26)).heap[S0]? = some (.cells #[.int .i64 3, .int .i64 0, .int .i64 0, .slice (some ⟨b, 0, none⟩) 3 3] 26) := by rw [← hS0]; exact (heap_alloc_old _ _ (by simp)).trans (heap_alloc_new _ _)
  have hr0 : ((w.alloc (.cells #[.int .i64 3, .int .i64 0, .int .i64 0, .slice (some ⟨b, 0, none⟩) 3 3] 26)).alloc (.cells #[.int .i64 0, .int .i64 0, .int .i64 0, .slice none 0 0] 26)).heap[S0 + 1]? = some (.cells #[.int .i64 0, .int .i64 0, .int .i64 0, .slice none 0 0] 26) := by
    have := heap_alloc_new (w.alloc (.cells #[.int .i64 3, .int .i64 0, .int .i64 0, .slice (some ⟨b, 0, none⟩) 3 3] 26)) (.cells #[.int .i64 0, .int .i64 0, .int .i64 0, .slice none 0 0] 26)
    rw [World.size_alloc, hS0] at this
    exact this
  go_enter Try.func31, Try.ntmps31
  go_upto_region 1 with fail
  obtain ⟨w0, hw0⟩ : ∃ w0, (w.alloc (.cells #[.int .i64 3, .int .i64 0, .int .i64 0, .slice (some ⟨b, 0, none⟩) 3 3] 26)).alloc (.cells #[.int .i64 0, .int .i64 0, .int .i64 0, .slice none 0 0] 26) = w0 := ⟨_, rfl⟩
  rw [hw0] at hb0 hs0 hx0 hr0 ⊢
  try rw [hS0]
  clear hw0
  have cx0 : w0.cell? ⟨S0, 0, none⟩ = some (.int .i64 3) := by simp [World.cell?, hx0]
  have cx3 : w0.cell? ⟨S0, 3, none⟩ = some (.slice (some ⟨b, 0, none⟩) 3 3) := by simp [World.cell?, hx0]
  have HX0 := Lib.hid hx0
  have HR0 := Lib.hid hr0
  have HB0 := Lib.hid hb0
  have HS00 := Lib.hid hS0
  have HS0 := Lib.hid hs0
  clear hx0 hr0 hb0 hs0 hS0
  go_wp2_with fail
  refine (constant_calls 0 w0).mono ?_
  rintro e w1 ⟨rfl, g1⟩
  have n6 := Bx.new 26 w1 (0, 0, 0)
  have b6 : Below w0.heap.size w0 (w1.alloc (.cells #[.int .i64 0, .int .i64 0, .int .i64 0, .slice none 0 0] 26)) := (g1.alloc _).below
  have hs6 := g1.below.size
  go_upto_region 17 with fail
  obtain ⟨B6, hB6⟩ : ∃ B6, w1.heap.size = B6 := ⟨_, rfl⟩
  obtain ⟨w2, hw2⟩ : ∃ w2, w1.alloc (.cells #[.int .i64 0, .int .i64 0, .int .i64 0, .slice none 0 0] 26) = w2 := ⟨_, rfl⟩
  rw [hw2] at n6 b6 ⊢
  rw [hB6] at n6 hs6 ⊢
  clear hw2 hB6 g1
  go_wp2_with fail
  refine (constant_calls 2 w2).mono ?_
  rintro e w3 ⟨rfl, g3⟩
  have n7 := Bx.new 26 w3 (0, 2, 0)
  have b7 : Below w2.heap.size w2 (w3.alloc (.cells #[.int .i64 0, .int .i64 2, .int .i64 0, .slice none 0 0] 26)) := (g3.alloc _).below
  have hs7 := g3.below.size
  go_upto_region 18 with fail
  obtain ⟨B7, hB7⟩ : ∃ B7, w3.heap.size = B7 := ⟨_, rfl⟩
  obtain ⟨w4, hw4⟩ : ∃ w4, w3.alloc (.cells #[.int .i64 0, .int .i64 2, .int .i64 0, .slice none 0 0] 26) = w4 := ⟨_, rfl⟩
  rw [hw4] at n7 b7 ⊢
  rw [hB7] at n7 hs7 ⊢
  clear hw4 hB7 g3
  have n6' := n6.below b7
  have b04 : Below w0.heap.size w0 w4 := b6.trans (b7.mono b6.size)
  have hx4 := (b04.block S0 (by have := HS0.out; omega)).trans HX0.out
  have hr4 := (b04.block (S0 + 1) (by have := HS0.out; omega)).trans HR0.out
  have HX4 := Lib.hid hx4
  have HR4 := Lib.hid hr4
  have HN6 := Lib.hid n6'
  have HN7 := Lib.hid n7
  have HB4 := Lib.hid (HB0.out.trans (b04.mono HB0.out.size))
  have HBW := Lib.hid ((HB4.out.block b (Array.getElem?_eq_some_iff.1 HB.out).1).trans HB.out)
  have d0 : w4.cell? ⟨S0, 0, none⟩ = some (.int .i64 3) := by simp [World.cell?, hx4]
  have d3 : w4.cell? ⟨S0, 3, none⟩ = some (.slice (some ⟨b, 0, none⟩) 3 3) := by simp [World.cell?, hx4]
  have HSW4 := Lib.hid (show S0 < w4.heap.size by have := b04.size; have := HS0.out; omega)
  clear n6 n6' n7 b6 b7 b04 hx4 hr4 cx0 cx3 hs6 hs7
  go_wp2_with fail
  go_loopw [8, 77] (fun v i wr => ∃ q : Nat, i = .int .i64 q ∧ q ≤ 3 ∧ Row4 wr w4.heap.size v ((nums3.take q).map leaf4) ∧ Below w4.heap.size w4 wr) (fun _ i _ => 3 - (RowKit.intOf i).toNat)
  case atStart => exact ⟨0, rfl, Nat.zero_le _, Row4.nil _ _, Below.refl _ _⟩
  case round =>
    obtain ⟨q, rfl, hq, hrow, hbr⟩ := hrel
    by_cases hq3 : q < 3
    · have hq3' : (q : Int) < 3 := by omega
      obtain ⟨c0, c1, c2, c3⟩ := nums3_cell 26 wr b q hq3 ((hbr.block b (Array.getElem?_eq_some_iff.1 HBW.out).1).trans HBW.out)
      obtain ⟨x, hx⟩ : ∃ x, gt nums3 q = x := ⟨_, rfl⟩
      rw [hx] at c2
      have hx0 : 0 ≤ x := by
        rw [← hx]
        match q, hq3 with
        | 0, _ => decide
        | 1, _ => decide
        | 2, _ => decide
      have HN := Lib.hid (show (nums3.take (q + 1)).map leaf4 = (nums3.take q).map leaf4 ++ [leaf4 x] by rw [take_snoc (by exact hq3), List.map_append, hx]; rfl)
      have hlq : ((nums3.take q).map leaf4).length < 1099511627776 := by simp; omega
      clear hx
      have nR := Bx.new 26 wr (1, 0, x)
      have gR : Grows wr (wr.alloc (.cells #[.int .i64 1, .int .i64 0, .int .i64 x, .slice none 0 0] 26)) := (Grows.refl wr).alloc _
      have hRlt : wr.heap.size < (wr.alloc (.cells #[.int .i64 1, .int .i64 0, .int .i64 x, .slice none 0 0] 26)).heap.size := by simp
      go_upto_region 24 with fail
      obtain ⟨R, hR⟩ : ∃ R, wr.heap.size = R := ⟨_, rfl⟩
      obtain ⟨w5, hw5⟩ : ∃ w5, wr.alloc (.cells #[.int .i64 1, .int .i64 0, .int .i64 x, .slice none 0 0] 26) = w5 := ⟨_, rfl⟩
      rw [hw5] at nR gR hRlt ⊢
      rw [hR] at nR hRlt ⊢
      have HBr := Lib.hid hbr
      have hRow := Lib.hid hrow
      have HRW := Lib.hid hR
      clear hw5 hR hbr hrow c0 c1 c2 c3
      obtain ⟨e0, e1, e2, e3⟩ := nR.cells
      go_wp2_with fail
      refine (simple_var x hx0 w5).mono ?_
      rintro e w6 ⟨rfl, g6⟩
      have nR6 := nR.below g6.below
      have g56 : Grows wr w6 := gR.trans g6
      have hb6 : Below w4.heap.size w4 w6 := HBr.out.trans (g56.below.mono HBr.out.size)
      have s0 : w6.setCell ⟨R, 0, none⟩ (.int .i64 1) = w6 := setCell_self nR6 rfl
      have s1 : w6.setCell ⟨R, 1, none⟩ (.int .i64 0) = w6 := setCell_self nR6 rfl
      have s2 : w6.setCell ⟨R, 2, none⟩ (.int .i64 x) = w6 := setCell_self nR6 rfl
      have s3 : w6.setCell ⟨R, 3, none⟩ (.slice none 0 0) = w6 := setCell_self nR6 rfl
      have fz : w6.frozen? ⟨R, 0, none⟩ = false ∧ w6.frozen? ⟨R, 1, none⟩ = false ∧ w6.frozen? ⟨R, 2, none⟩ = false ∧ w6.frozen? ⟨R, 3, none⟩ = false := by
        have h' : w6.heap[R]? = some (.cells #[.int .i64 1, .int .i64 0, .int .i64 x, .slice none 0 0] 26) := nR6
        simp [World.frozen?, h']
      obtain ⟨z0, z1, z2, z3⟩ := fz
      clear e0 e1 e2 e3 nR gR g6
      obtain ⟨e0, e1, e2, e3⟩ := nR6.cells
      obtain ⟨f0, f1, f2, f3⟩ := (HN6.out.below (hb6.mono (Nat.le_refl _))).cells
      have k0 : w6.cell? ⟨S0, 0, none⟩ = some (.int .i64 3) := (hb6.cell (p := ⟨S0, 0, none⟩) HSW4.out).trans d0
      have hC := order_calls (1, 0, x) (0, 0, 0) w6
      rw [show ordV (1, 0, x) (0, 0, 0) = 1 from rfl] at hC
      have NR6 := Lib.hid nR6
      have G56 := Lib.hid g56
      have HB6 := Lib.hid hb6
      clear nR6 g56 hb6
      go_wp2_with fail
      refine hC.mono ?_
      rintro e w7 ⟨rfl, g7⟩
      have nR7 := NR6.out.below g7.below
      have g57 : Grows wr w7 := G56.out.trans g7
      have hb7 : Below w4.heap.size w4 w7 := HBr.out.trans (g57.below.mono HBr.out.size)
      have hrow7 := hRow.out.stays g57.below
      have hsz7 := hb7.size
      clear e0 e1 e2 e3 f0 f1 f2 f3 k0 s0 s1 s2 s3 z0 z1 z2 z3 hC g7
      obtain ⟨e0, e1, e2, e3⟩ := nR7.cells
      go_wp2_with (at_builtin; refine append4 w7 rfl _ _ rfl w4.heap.size u8 ((nums3.take q).map leaf4) rfl hrow7 (1, 0, x, (none, 0, 0)) rfl hlq hsz7 ?_; intro v' w8 hrow8 hgrow8)
      rw [← HN.out] at hrow8
      have hb8 : Below w4.heap.size w4 w8 := hb7.grown hgrow8 hsz7 (fun j hj => (hrow7.lt j hj).1)
      clear hgrow8
      go_wp2_with fail
      go_roundw
      case rel => exact ⟨q + 1, by go_num, by omega, hrow8, hb8⟩
      case measure => simp [RowKit.intOf]; omega
    · obtain rfl : q = 3 := by omega
      have hrow3 : Row4 wr w4.heap.size u8 ((nums3.take 3).map leaf4) := hrow
      rcases hrow.2 with ⟨_, h0⟩ | ⟨g, cap, cur, rfl, hgN, hgg, hn, hc, hs, ht⟩
      · exact absurd h0 (by decide)
      have hn3 : 3 ≤ cap := hn
      have hglt := (Array.getElem?_eq_some_iff.1 hgg).1
      have hH : HoldsK encV 4 wr g 0 #[(1, 0, 1), (1, 0, 0), (1, 0, 1)] := Row4.holds3 (B := w4.heap.size) hrow3 (fun o => by simp [World.frozen?, hgg])
      have hS : Calls Try.prog 47 #[.slice (some ⟨g, 0, none⟩) 3 cap, .func (.func 46) #[] #[]] wr fun e w' => e = .returned (.tuple #[]) ∧ wr.grownBy w' (some g) ∧ HoldsK encV 4 w' g 0 #[(1, 0, 0), (1, 0, 1), (1, 0, 1)] := by
        refine Calls.mono (sort_calls g cap #[(1, 0, 1), (1, 0, 0), (1, 0, 1)] wr hH hglt (by simp)) ?_
        rintro e w' ⟨h1, h2, h3⟩
        refine ⟨h1, h2, ?_⟩
        have e3 : ((#[(1, 0, 1), (1, 0, 0), (1, 0, 1)] : Array (Int × Int × Int)).toList.mergeSort fun x y => !ltOf ordV y x).toArray = #[(1, 0, 0), (1, 0, 1), (1, 0, 1)] := congrArg List.toArray sorted3
        rw [e3] at h3
        exact h3
      have HBr := Lib.hid hbr
      have hgS : S0 + 1 < g := by have := HN7.out.lt; have := HS0.out; have := HR4.out; have h := (Array.getElem?_eq_some_iff.1 this).1; omega
      have HGS := Lib.hid hgS
      have HGN := Lib.hid hgN
      clear hrow hrow3 hgg hs ht hH hn hbr hgS hgN
      have hlen : (List.map leaf4 (List.take 3 nums3)).length = 3 := rfl
      try rw [hlen]
      go_wp2_with fail
      refine hS.mono ?_
      rintro e w5 ⟨rfl, gb5, H5⟩
      have hg5 : g < w5.heap.size := Nat.lt_of_lt_of_le hglt gb5.size
      have hC := compact3 g cap w5 H5 hg5 hn3 hc
      have GB5 := Lib.hid gb5
      clear hS H5 gb5
      go_wp2_with fail
      refine hC.mono ?_
      rintro e w6 ⟨rfl, gb6, H6⟩
      have hg6 : g < w6.heap.size := Nat.lt_of_lt_of_le hg5 gb6.size
      have gb46 := grownBy_trans GB5.out gb6
      have hbk : ∀ j o, j < w4.heap.size → w4.heap[j]? = some o → w6.heap[j]? = some o := fun j o hj ho =>
        (gb46.block j (Nat.lt_of_lt_of_le hj HBr.out.size) (fun e => by have := Option.some.inj e; have := HGN.out; omega)).trans ((HBr.out.block j hj).trans ho)
      have n7 : Bx 26 w6 B7 (0, 2, 0) := hbk _ _ HN7.out.lt HN7.out
      have hK := contains_calls g cap B7 w6 H6 hg6 n7
      have HX6 := Lib.hid (hbk _ _ (Array.getElem?_eq_some_iff.1 HX4.out).1 HX4.out)
      have HR6 := Lib.hid (hbk _ _ (Array.getElem?_eq_some_iff.1 HR4.out).1 HR4.out)
      have HH6 := Lib.hid H6
      have GB46 := Lib.hid gb46
      clear hC H6 gb46 gb6 n7 hbk
      go_wp2_with fail
      refine hK.mono ?_
      rintro e w7 ⟨rfl, b7⟩
      have hx7 := (b7.block _ (Array.getElem?_eq_some_iff.1 HX6.out).1).trans HX6.out
      have hr7 := (b7.block _ (Array.getElem?_eq_some_iff.1 HR6.out).1).trans HR6.out
      have k0 : w7.cell? ⟨S0, 0, none⟩ = some (.int .i64 3) := by simp [World.cell?, hx7]
      have r0 : w7.cell? ⟨S0 + 1, 0, none⟩ = some (.int .i64 0) := by simp [World.cell?, hr7]
      have r1 : w7.cell? ⟨S0 + 1, 1, none⟩ = some (.int .i64 0) := by simp [World.cell?, hr7]
      have r2 : w7.cell? ⟨S0 + 1, 2, none⟩ = some (.int .i64 0) := by simp [World.cell?, hr7]
      have r3 : w7.cell? ⟨S0 + 1, 3, none⟩ = some (.slice none 0 0) := by simp [World.cell?, hr7]
      have z0 : w7.frozen? ⟨S0 + 1, 0, none⟩ = false := by simp [World.frozen?, hr7]
      have z1 : w7.frozen? ⟨S0 + 1, 1, none⟩ = false := by simp [World.frozen?, hr7]
      have z2 : w7.frozen? ⟨S0 + 1, 2, none⟩ = false := by simp [World.frozen?, hr7]
      have z3 : w7.frozen? ⟨S0 + 1, 3, none⟩ = false := by simp [World.frozen?, hr7]
      have HR7 := Lib.hid hr7
      have HH7 := Lib.hid (holdsV_below HH6.out hg6 b7)
      have hg7 : g < w7.heap.size := Nat.lt_of_lt_of_le hg6 b7.size
      have HBW7 := Lib.hid (((HB4.out.trans (HBr.out.mono HB4.out.size)).grown GB46.out (Nat.le_trans HB4.out.size HBr.out.size) (fun j e => by have := Option.some.inj e; have := HGN.out; have := HB4.out.size; omega)).trans (b7.mono (Nat.le_trans (Nat.le_trans HB4.out.size HBr.out.size) GB46.out.size)))
      clear hx7 hr7 b7 hK
      go_wp2_with fail
      obtain ⟨W8, hW8⟩ : ∃ W8, Hid (W8 = (((w7.setCell ⟨S0 + 1, 0, none⟩ (.int .i64 3)).setCell ⟨S0 + 1, 1, none⟩ (.int .i64 0)).setCell ⟨S0 + 1, 2, none⟩ (.int .i64 0)).setCell ⟨S0 + 1, 3, none⟩ (.slice (some ⟨g, 0, none⟩) 2 cap)) := ⟨_, Lib.hid rfl⟩
      rw [← hW8.out]
      have h8 : W8.heap[S0 + 1]? = some (.cells #[.int .i64 3, .int .i64 0, .int .i64 0, .slice (some ⟨g, 0, none⟩) 2 cap] 26) := by
        rw [hW8.out]
        exact Go.Joins.block_setCell (Go.Joins.block_setCell (Go.Joins.block_setCell (Go.Joins.block_setCell HR7.out (i := 0) (.int .i64 3)) (i := 1) (.int .i64 0)) (i := 2) (.int .i64 0)) (i := 3) (.slice (some ⟨g, 0, none⟩) 2 cap)
      have g8 : w7.grownBy W8 (some (S0 + 1)) := by
        rw [hW8.out]
        exact grownBy_trans (grownBy_trans (grownBy_trans (grownBy_set1 _ _ _ _) (grownBy_set1 _ _ _ _)) (grownBy_set1 _ _ _ _)) (grownBy_set1 _ _ _ _)
      have j0 : W8.cell? ⟨S0 + 1, 0, none⟩ = some (.int .i64 3) := by simp [World.cell?, h8]
      have j1 : W8.cell? ⟨S0 + 1, 1, none⟩ = some (.int .i64 0) := by simp [World.cell?, h8]
      have j2 : W8.cell? ⟨S0 + 1, 2, none⟩ = some (.int .i64 0) := by simp [World.cell?, h8]
      have j3 : W8.cell? ⟨S0 + 1, 3, none⟩ = some (.slice (some ⟨g, 0, none⟩) 2 cap) := by simp [World.cell?, h8]
      refine bodyPost_ret (v := .agg #[.int .i64 3, .int .i64 0, .int .i64 0, .slice (some ⟨g, 0, none⟩) 2 cap]) ?_ rfl ?_
      · simp [results, Try.f31, go_sem, j0, j1, j2, j3]
      · have hne : g ≠ S0 + 1 := by have := HGS.out; omega
        exact ⟨g, cap, rfl, holdsV_grown HH7.out hg7 g8 hne, Nat.lt_of_lt_of_le hg7 g8.size, by have := HGS.out; have := HS00.out; omega, by omega, hc, HBW7.out.grown g8 HBW7.out.size (fun j e => by have := Option.some.inj e; have := HS00.out; omega)⟩
theorem checkNil_calls (op v x : Int) (gs : List Fm) (a : Option Addr) (n cap : Nat) (w : World) (hF : FitS w gs a n cap) :
    Calls Try.prog 29 #[.agg #[.int .i64 op, .int .i64 v, .int .i64 x, .slice a n cap], .slice none 0 0] w fun e w' => e = .returned (.int .i64 (chkE (.mk op v x gs))) ∧ Grows w w' := by
  have hg : Grows w (w.alloc (.cells #[.int .i64 op, .int .i64 v, .int .i64 x, .slice a n cap] 26)) := (Grows.refl _).alloc _
  have hC := check_calls _ op v x gs a n cap _ (Nat.le_refl _) (hF.below hg.below)
  have HG := Lib.hid hg
  clear hF hg
  go_enter Try.func29, Try.ntmps29
  go_wp2_with fail
  refine wp_loop_rounds 1 ?_
  rw [rounds_succ]
  go_wp2_with fail
  refine hC.mono ?_
  rintro e w1 ⟨rfl, g1⟩
  have HG1 := Lib.hid (HG.out.trans g1)
  clear hC g1
  go_wp2_with fail
  go_ret
  exact ⟨rfl, HG1.out⟩
set_option maxHeartbeats 2000000 in
theorem simplify_fix (b : Nat) (w : World) (hb : w.heap[b]? = some (.cells #[.int .i64 1, .int .i64 0, .int .i64 1, .slice none 0 0, .int .i64 1, .int .i64 0, .int .i64 0, .slice none 0 0, .int .i64 1, .int .i64 0, .int .i64 1, .slice none 0 0] 26)) :
    Calls Try.prog 13 #[.agg #[.int .i64 3, .int .i64 0, .int .i64 0, .slice (some ⟨b, 0, none⟩) 3 3], .slice none 0 0] w fun e w' => ∃ g cap, e = .returned (.tuple #[.agg #[.int .i64 3, .int .i64 0, .int .i64 0, .slice (some ⟨g, 0, none⟩) 2 cap], .int .i64 0]) ∧ HoldsK encV 4 w' g 0 #[(1, 0, 0), (1, 0, 1)] ∧ g < w'.heap.size ∧ 2 ≤ cap ∧ cap ≤ maxLen ∧ Below w.heap.size w w' := by
  have hfit : ∀ W : World, W.heap[b]? = some (.cells #[.int .i64 1, .int .i64 0, .int .i64 1, .slice none 0 0, .int .i64 1, .int .i64 0, .int .i64 0, .slice none 0 0, .int .i64 1, .int .i64 0, .int .i64 1, .slice none 0 0] 26) → FitS W [.mk 1 0 1 [], .mk 1 0 0 [], .mk 1 0 1 []] (some ⟨b, 0, none⟩) 3 3 := fun W h =>
    ⟨rfl, Nat.le_refl _, by decide, fun j _ => ⟨b, 0, rfl, by
      have hlt := (Array.getElem?_eq_some_iff.1 h).1
      have hc : ∀ q, q < 3 → _ := fun q hq => nums3_cell 26 W b q hq h
      simp only [FitL, FitA]
      obtain ⟨a0, a1, a2, a3⟩ := hc 0 (by omega)
      obtain ⟨b0, b1, b2, b3⟩ := hc 1 (by omega)
      obtain ⟨c0, c1, c2, c3⟩ := hc 2 (by omega)
      exact ⟨⟨hlt, a0, a1, a2, none, 0, 0, a3, rfl, Nat.le_refl _, Nat.zero_le _, fun j hj => absurd hj (Nat.not_lt_zero _)⟩, ⟨hlt, b0, b1, b2, none, 0, 0, b3, rfl, Nat.le_refl _, Nat.zero_le _, fun j hj => absurd hj (Nat.not_lt_zero _)⟩, ⟨hlt, c0, c1, c2, none, 0, 0, c3, rfl, Nat.le_refl _, Nat.zero_le _, fun j hj => absurd hj (Nat.not_lt_zero _)⟩, trivial⟩⟩⟩
  have hF := Lib.hid hfit
  have HB := Lib.hid hb
  clear hfit hb
  have hC := fun W (h : Below w.heap.size w W) => checkNil_calls 3 0 0 _ _ _ _ W (hF.out W ((h.block b (Array.getElem?_eq_some_iff.1 HB.out).1).trans HB.out))
  have hS := fun W (h : Below w.heap.size w W) => simple_fix b W ((h.block b (Array.getElem?_eq_some_iff.1 HB.out).1).trans HB.out)
  obtain ⟨S0, hS0⟩ : ∃ S0, w.heap.size = S0 := ⟨_, rfl⟩
  have hb0 : Below w.heap.size w ((w.alloc (.cells #[.int .i64 3, .int .i64 0, .int .i64 0, .slice (some ⟨b, 0, none⟩) 3 3] 26)).alloc (.cells #[.int .i64 0, .int .i64 0, .int .i64 0, .slice none 0 0] 26)) := ((Below.refl _ _).alloc (Nat.le_refl _) _).alloc (by simp) _
  have hs0 : ((w.alloc (.cells #[.int .i64 3, .int .i64 0, .int .i64 0, .slice (some ⟨b, 0, none⟩) 3 3] 26)).alloc (.cells #[.int .i64 0, .int .i64 0, .int .i64 0, .slice none 0 0] 26)).heap.size = S0 + 2 := by simp [hS0]
  have hx0 : ((w.alloc (.cells #[.int .i64 3, .int .i64 0, .int .i64 0, .slice (some ⟨b, 0, none⟩) 3 3] 26)).alloc (.cells #[.int .i64 0, .int .i64 0, .int .i64 0, .slice none 0 0] 26)).heap[S0]? = some (.cells #[.int .i64 3, .int .i64 0, .int .i64 0, .slice (some ⟨b, 0, none⟩) 3 3] 26) := by rw [← hS0]; exact (heap_alloc_old _ _ (by simp)).trans (heap_alloc_new _ _)
  have hr0 : ((w.alloc (.cells #[.int .i64 3, .int .i64 0, .int .i64 0, .slice (some ⟨b, 0, none⟩) 3 3] 26)).alloc (.cells #[.int .i64 0, .int .i64 0, .int .i64 0, .slice none 0 0] 26)).heap[S0 + 1]? = some (.cells #[.int .i64 0, .int .i64 0, .int .i64 0, .slice none 0 0] 26) := by
    have := heap_alloc_new (w.alloc (.cells #[.int .i64 3, .int .i64 0, .int .i64 0, .slice (some ⟨b, 0, none⟩) 3 3] 26)) (.cells #[.int .i64 0, .int .i64 0, .int .i64 0, .slice none 0 0] 26)
    rw [World.size_alloc, hS0] at this
    exact this
  go_enter Try.func13, Try.ntmps13
  go_upto_region 1 with fail
  obtain ⟨w0, hw0⟩ : ∃ w0, (w.alloc (.cells #[.int .i64 3, .int .i64 0, .int .i64 0, .slice (some ⟨b, 0, none⟩) 3 3] 26)).alloc (.cells #[.int .i64 0, .int .i64 0, .int .i64 0, .slice none 0 0] 26) = w0 := ⟨_, rfl⟩
  rw [hw0] at hb0 hs0 hx0 hr0 ⊢
  try rw [hS0]
  clear hw0
  have c0 : w0.cell? ⟨S0, 0, none⟩ = some (.int .i64 3) := by simp [World.cell?, hx0]
  have c1 : w0.cell? ⟨S0, 1, none⟩ = some (.int .i64 0) := by simp [World.cell?, hx0]
  have c2 : w0.cell? ⟨S0, 2, none⟩ = some (.int .i64 0) := by simp [World.cell?, hx0]
  have c3 : w0.cell? ⟨S0, 3, none⟩ = some (.slice (some ⟨b, 0, none⟩) 3 3) := by simp [World.cell?, hx0]
  have hC0 := hC w0 hb0
  rw [show chkE (.mk 3 0 0 [.mk 1 0 1 [], .mk 1 0 0 [], .mk 1 0 1 []]) = 0 by decide] at hC0
  have HX0 := Lib.hid hx0
  have HR0 := Lib.hid hr0
  have HB0 := Lib.hid hb0
  have HS00 := Lib.hid hS0
  have HS0 := Lib.hid hs0
  have HSS := Lib.hid hS
  clear hx0 hr0 hb0 hs0 hS0 hC hS hF
  go_wp2_with fail
  refine hC0.mono ?_
  rintro e w1 ⟨rfl, g1⟩
  have hx1 := (g1.below.block _ (by have := HS0.out; omega)).trans HX0.out
  have hr1 := (g1.below.block _ (by have := HS0.out; omega)).trans HR0.out
  clear c0 c1 c2 c3 hC0
  have c0 : w1.cell? ⟨S0, 0, none⟩ = some (.int .i64 3) := by simp [World.cell?, hx1]
  have c1 : w1.cell? ⟨S0, 1, none⟩ = some (.int .i64 0) := by simp [World.cell?, hx1]
  have c2 : w1.cell? ⟨S0, 2, none⟩ = some (.int .i64 0) := by simp [World.cell?, hx1]
  have c3 : w1.cell? ⟨S0, 3, none⟩ = some (.slice (some ⟨b, 0, none⟩) 3 3) := by simp [World.cell?, hx1]
  have hb1 := HB0.out.trans (g1.below.mono HB0.out.size)
  have hS1 := HSS.out w1 hb1
  have hsz1 : S0 + 1 < w1.heap.size := by have := g1.below.size; have := HS0.out; omega
  have HSZ1 := Lib.hid hsz1
  have HR1 := Lib.hid hr1
  have HB1 := Lib.hid hb1
  clear hx1 hr1 hb1 g1 hsz1
  go_wp2_with fail
  refine hS1.mono ?_
  rintro e w2 ⟨g, cap, rfl, hH, hg, hgge, hcap, hcm, b2⟩
  have hr2 := (b2.block _ HSZ1.out).trans HR1.out
  have z0 : w2.frozen? ⟨S0 + 1, 0, none⟩ = false := by simp [World.frozen?, hr2]
  have z1 : w2.frozen? ⟨S0 + 1, 1, none⟩ = false := by simp [World.frozen?, hr2]
  have z2 : w2.frozen? ⟨S0 + 1, 2, none⟩ = false := by simp [World.frozen?, hr2]
  have z3 : w2.frozen? ⟨S0 + 1, 3, none⟩ = false := by simp [World.frozen?, hr2]
  have r0 : w2.cell? ⟨S0 + 1, 0, none⟩ = some (.int .i64 0) := by simp [World.cell?, hr2]
  have r1 : w2.cell? ⟨S0 + 1, 1, none⟩ = some (.int .i64 0) := by simp [World.cell?, hr2]
  have r2 : w2.cell? ⟨S0 + 1, 2, none⟩ = some (.int .i64 0) := by simp [World.cell?, hr2]
  have r3 : w2.cell? ⟨S0 + 1, 3, none⟩ = some (.slice none 0 0) := by simp [World.cell?, hr2]
  have HR2 := Lib.hid hr2
  have HH := Lib.hid hH
  have HB2 := Lib.hid (HB1.out.trans (b2.mono HB1.out.size))
  have HNE := Lib.hid (show g ≠ S0 + 1 by have := HSZ1.out; omega)
  have HCAP := Lib.hid hcap
  clear hr2 hH b2 hS1 hgge hcap
  go_wp2_with fail
  obtain ⟨W8, hW8⟩ : ∃ W8, Hid (W8 = (((w2.setCell ⟨S0 + 1, 0, none⟩ (.int .i64 3)).setCell ⟨S0 + 1, 1, none⟩ (.int .i64 0)).setCell ⟨S0 + 1, 2, none⟩ (.int .i64 0)).setCell ⟨S0 + 1, 3, none⟩ (.slice (some ⟨g, 0, none⟩) 2 cap)) := ⟨_, Lib.hid rfl⟩
  rw [← hW8.out]
  have h8 : W8.heap[S0 + 1]? = some (.cells #[.int .i64 3, .int .i64 0, .int .i64 0, .slice (some ⟨g, 0, none⟩) 2 cap] 26) := by
    rw [hW8.out]
    exact Go.Joins.block_setCell (Go.Joins.block_setCell (Go.Joins.block_setCell (Go.Joins.block_setCell HR2.out (i := 0) (.int .i64 3)) (i := 1) (.int .i64 0)) (i := 2) (.int .i64 0)) (i := 3) (.slice (some ⟨g, 0, none⟩) 2 cap)
  have g8 : w2.grownBy W8 (some (S0 + 1)) := by
    rw [hW8.out]
    exact grownBy_trans (grownBy_trans (grownBy_trans (grownBy_set1 _ _ _ _) (grownBy_set1 _ _ _ _)) (grownBy_set1 _ _ _ _)) (grownBy_set1 _ _ _ _)
  have j0 : W8.cell? ⟨S0 + 1, 0, none⟩ = some (.int .i64 3) := by simp [World.cell?, h8]
  have j1 : W8.cell? ⟨S0 + 1, 1, none⟩ = some (.int .i64 0) := by simp [World.cell?, h8]
  have j2 : W8.cell? ⟨S0 + 1, 2, none⟩ = some (.int .i64 0) := by simp [World.cell?, h8]
  have j3 : W8.cell? ⟨S0 + 1, 3, none⟩ = some (.slice (some ⟨g, 0, none⟩) 2 cap) := by simp [World.cell?, h8]
  refine bodyPost_ret (v := .tuple #[.agg #[.int .i64 3, .int .i64 0, .int .i64 0, .slice (some ⟨g, 0, none⟩) 2 cap], .int .i64 0]) ?_ rfl ?_
  · simp [results, Try.f13, go_sem, j0, j1, j2, j3]
  · exact ⟨g, cap, rfl, holdsV_grown HH.out hg g8 HNE.out, Nat.lt_of_lt_of_le hg g8.size, HCAP.out, hcm, HB2.out.grown g8 HB2.out.size (fun j e => by have := Option.some.inj e; have := HS00.out; omega)⟩
theorem rd_two (w : World) (x y : Int) : Rd (w.alloc (.cells #[.int .i64 x, .int .i64 y] 23)) .i64 (some ⟨w.heap.size, 0, none⟩) 2 2 [x, y] :=
  ⟨rfl, Nat.le_refl _, by decide, fun _ _ => ⟨w.heap.size, 0, rfl, by simp, fun i hi => by
    have h := heap_alloc_new w (.cells #[.int .i64 x, .int .i64 y] 23)
    match i, hi with
    | 0, _ => show World.cell? _ ⟨_, 0, none⟩ = some (.int .i64 x); unfold World.cell?; rw [h]; rfl
    | 1, _ => show World.cell? _ ⟨_, 1, none⟩ = some (.int .i64 y); unfold World.cell?; rw [h]; rfl⟩⟩
set_option maxHeartbeats 2000000 in
theorem fixed_calls (w : World) : Calls Try.prog 9 #[] w fun e w' => e = .returned (.bool true) ∧ Below w.heap.size w w' := by
  have hb0 : Below w.heap.size w ((w.alloc (.cells #[.int .i64 1, .int .i64 0, .int .i64 1, .slice none 0 0, .int .i64 1, .int .i64 0, .int .i64 0, .slice none 0 0, .int .i64 1, .int .i64 0, .int .i64 1, .slice none 0 0] 26)).alloc (.cells #[.int .i64 3, .int .i64 0, .int .i64 0, .slice (some ⟨w.heap.size, 0, none⟩) 3 3] 26)) := ((Below.refl _ _).alloc (Nat.le_refl _) _).alloc (by simp) _
  have hx0 : ((w.alloc (.cells #[.int .i64 1, .int .i64 0, .int .i64 1, .slice none 0 0, .int .i64 1, .int .i64 0, .int .i64 0, .slice none 0 0, .int .i64 1, .int .i64 0, .int .i64 1, .slice none 0 0] 26)).alloc (.cells #[.int .i64 3, .int .i64 0, .int .i64 0, .slice (some ⟨w.heap.size, 0, none⟩) 3 3] 26)).heap[w.heap.size]? = some (.cells #[.int .i64 1, .int .i64 0, .int .i64 1, .slice none 0 0, .int .i64 1, .int .i64 0, .int .i64 0, .slice none 0 0, .int .i64 1, .int .i64 0, .int .i64 1, .slice none 0 0] 26) := (heap_alloc_old _ _ (by simp)).trans (heap_alloc_new _ _)
  have hS := simplify_fix w.heap.size _ hx0
  have HB0 := Lib.hid hb0
  clear hb0 hx0
  go_enter Try.func9, Try.ntmps9
  go_wp2_with fail
  refine hS.mono ?_
  rintro e w2 ⟨g, cap, rfl, hH, hg, hcap, hcm, b2⟩
  have hB2 := HB0.out.trans (b2.mono HB0.out.size)
  have hb3 : Below w2.heap.size w2 (w2.alloc (.cells #[.int .i64 3, .int .i64 0, .int .i64 0, .slice (some ⟨g, 0, none⟩) 2 cap] 26)) := (Below.refl _ _).alloc (Nat.le_refl _) _
  have hH3 := holdsV_below hH hg hb3
  have hB3 := hB2.trans (hb3.mono hB2.size)
  have hn3 := heap_alloc_new w2 (.cells #[.int .i64 3, .int .i64 0, .int .i64 0, .slice (some ⟨g, 0, none⟩) 2 cap] 26)
  go_upto_region 3 with fail
  obtain ⟨R, hR⟩ : ∃ R, w2.heap.size = R := ⟨_, rfl⟩
  obtain ⟨w3, hw3⟩ : ∃ w3, w2.alloc (.cells #[.int .i64 3, .int .i64 0, .int .i64 0, .slice (some ⟨g, 0, none⟩) 2 cap] 26) = w3 := ⟨_, rfl⟩
  rw [hw3] at hH3 hB3 hn3 ⊢
  rw [hR] at hn3 ⊢
  clear hw3 hR hb3 hB2 b2 hH hS
  obtain ⟨_, _, a2, _, _⟩ := holdsV_at hH3 0 (by simp)
  obtain ⟨_, _, b2, _, _⟩ := holdsV_at hH3 1 (by simp)
  have e0 : w3.cell? ⟨g, 2, none⟩ = some (.int .i64 0) := a2
  have e1 : w3.cell? ⟨g, 6, none⟩ = some (.int .i64 1) := b2
  have j3 : w3.cell? ⟨R, 3, none⟩ = some (.slice (some ⟨g, 0, none⟩) 2 cap) := by simp [World.cell?, hn3]
  have hA := and_calls _ _ _ _ _ (rd_two w3 2 1)
  rw [show andF [2, 1] = 1 by decide] at hA
  have hN := fun W => not_calls 0 W
  rw [show (2 : Int) - seenB 0 = 2 by decide] at hN
  have HB3 := Lib.hid hB3
  clear a2 b2 hB3 hH3 hn3
  go_wp2_with fail
  refine hA.mono ?_
  rintro e wz ⟨rfl, rfl⟩
  go_wp2_with fail
  refine (hN _).mono ?_
  rintro e wz ⟨rfl, rfl⟩
  go_wp2_with fail
  go_ret
  exact ⟨rfl, HB3.out.alloc HB3.out.size _⟩
end Go.Proofs.Ytmdanfeilgeoaaa
