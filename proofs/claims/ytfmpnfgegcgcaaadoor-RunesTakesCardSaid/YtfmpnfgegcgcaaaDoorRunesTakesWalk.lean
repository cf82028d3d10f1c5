/- The walk of gimletlaw01.RunesTakes. -/
import Derived.Test.YtfmpnfgegcgcaaaDoorTakesWalk
import Derived.Test.YtfmpnfgegcgcaaaDoorAwakeA
namespace Go.Proofs.YtfmpnfgegcgcaaaDoor
open Go.RowKit Gim
set_option maxHeartbeats 1000000 in
theorem new2_calls (w : World) : Calls Tryd.prog 33 #[] w fun e w' => e = .returned (.pointer (some ⟨w.heap.size, 0, none⟩)) ∧ w'.heap[w.heap.size]? = some (.cells #[.slice none 0 0, .bool false] 110) ∧ Below w.heap.size w w' := by
  go_enter Tryd.func33, Tryd.ntmps33
  go_wp2
  go_ret
  exact ⟨rfl, heap_alloc_new _ _, (Below.refl _ _).alloc (Nat.le_refl _) _⟩
theorem St.own {w : World} {B D M : Nat} {o1 o2 : Option Nat} (h : St w B D M o1 o2) : ∀ g, (o1 = some g ∨ o2 = some g) → B ≤ g ∧ g < w.heap.size := fun g hg => by
  rcases h with ⟨xs, v1, v2, a, b, e1, e2, _, _, _⟩ | ⟨n, a, b, e1, e2⟩
  · rcases hg with hg | hg
    · exact a.row.lt g (e1 ▸ hg)
    · exact b.row.lt g (e2 ▸ hg)
  · rcases hg with hg | hg
    · rw [e1] at hg; cases hg
    · rw [e2] at hg; cases hg
/-- two Decoders and the document's, that know nothing of each other -/
structure Four (w0 w : World) (B D1 D2 M1 M2 : Nat) (p1 p2 q1 q2 : Option Nat) : Prop where
  one : St w B D1 M1 p1 p2
  two : St w B D2 M2 q1 q2
  ap : ∀ g, (p1 = some g ∨ p2 = some g) → q1 ≠ some g ∧ q2 ≠ some g
  lt : w0.heap.size ≤ D1 ∧ D1 < D2 ∧ D2 < M1 ∧ M1 < M2 ∧ M2 < B ∧ B ≤ w.heap.size
  below : Below w0.heap.size w0 w
theorem Four.first {w0 w w' : World} {B D1 D2 M1 M2 : Nat} {p1 p2 q1 q2 : Option Nat} {e : Ending} (h : Four w0 w B D1 D2 M1 M2 p1 p2 q1 q2) (t : TakesP w B D1 M1 p1 e w') : e = .returned (.bool true) ∧ ∃ r1 r2, Four w0 w' B D1 D2 M1 M2 r1 r2 q1 q2 := by
  obtain ⟨he, hF, r1, r2, hs, h1, h2⟩ := t
  have hl := h.lt
  have o1 := h.one.own
  have o2 := h.two.own
  refine ⟨he, r1, r2, hs, h.two.fr hF (fun k => ?_) (fun k => ?_) (fun g hg k => ?_) (fun g hg k => ?_), fun g hg => ?_, ?_, h.below.trans (hF.below h.below.size (fun j k => ?_))⟩
  · rcases k with k | k | k
    · omega
    · omega
    · have := o1 _ (.inl k); omega
  · rcases k with k | k | k
    · omega
    · omega
    · have := o1 _ (.inl k); omega
  · have hq := o2 g (.inl hg)
    rcases k with k | k | k
    · omega
    · omega
    · exact (h.ap g (.inl k)).1 hg
  · have hq := o2 g (.inr hg)
    rcases k with k | k | k
    · omega
    · omega
    · exact (h.ap g (.inl k)).2 hg
  · rcases hg with hg | hg
    · rcases h1 g hg with k | k
      · exact h.ap g (.inl k)
      · exact ⟨fun hq => by have := o2 g (.inl hq); omega, fun hq => by have := o2 g (.inr hq); omega⟩
    · have k := h2 g hg
      exact ⟨fun hq => by have := o2 g (.inl hq); omega, fun hq => by have := o2 g (.inr hq); omega⟩
  · have := hF.size
    omega
  · rcases k with k | k | k
    · omega
    · omega
    · have := o1 _ (.inl k); omega
theorem Four.second {w0 w w' : World} {B D1 D2 M1 M2 : Nat} {p1 p2 q1 q2 : Option Nat} {e : Ending} (h : Four w0 w B D1 D2 M1 M2 p1 p2 q1 q2) (t : TakesP w B D2 M2 q1 e w') : e = .returned (.bool true) ∧ ∃ r1 r2, Four w0 w' B D1 D2 M1 M2 p1 p2 r1 r2 := by
  obtain ⟨he, hF, r1, r2, hs, h1, h2⟩ := t
  have hl := h.lt
  have o1 := h.one.own
  have o2 := h.two.own
  refine ⟨he, r1, r2, h.one.fr hF (fun k => ?_) (fun k => ?_) (fun g hg k => ?_) (fun g hg k => ?_), hs, fun g hg => ?_, ?_, h.below.trans (hF.below h.below.size (fun j k => ?_))⟩
  · rcases k with k | k | k
    · omega
    · omega
    · have := o2 _ (.inl k); omega
  · rcases k with k | k | k
    · omega
    · omega
    · have := o2 _ (.inl k); omega
  · have hq := o1 g (.inl hg)
    rcases k with k | k | k
    · omega
    · omega
    · exact (h.ap g (.inl hg)).1 k
  · have hq := o1 g (.inr hg)
    rcases k with k | k | k
    · omega
    · omega
    · exact (h.ap g (.inr hg)).1 k
  · have hb := o1 g hg
    refine ⟨fun hq => ?_, fun hq => ?_⟩
    · rcases h1 g hq with k | k
      · exact (h.ap g hg).1 k
      · omega
    · have := h2 g hq; omega
  · have := hF.size
    omega
  · rcases k with k | k | k
    · omega
    · omega
    · have := o2 _ (.inl k); omega
set_option maxRecDepth 100000 in
set_option maxHeartbeats 8000000 in
theorem runesTakes_walk (ao : Option Addr) (n cap : Nat) (xs : List Int) (ao2 : Option Addr) (n2 cap2 : Nat) (ys : List Int) (w : World)
    (h : Rd w .u8 ao n cap xs) (_ : ao = none → n = 0 ∧ cap = 0) (hwf : ∀ x ∈ xs, (Lit.int .u8 x).wf = true) (hn : n ≤ 140737488351232)
    (h2 : Rd w .u8 ao2 n2 cap2 ys) (_ : ao2 = none → n2 = 0 ∧ cap2 = 0) (hwf2 : ∀ x ∈ ys, (Lit.int .u8 x).wf = true) (hn2 : n2 ≤ 140737488351232) (hT : U8 w) :
    Calls Tryd.prog 7 #[.slice ao n cap, .slice ao2 n2 cap2] w fun e w' => e = .returned (.bool true) ∧ Below w.heap.size w w' := by
  have hb : Rb w ao n cap xs := ⟨h, gt_all h.len (fun x hx => wf_u8 (hwf x hx))⟩
  have hb2 : Rb w ao2 n2 cap2 ys := ⟨h2, gt_all h2.len (fun x hx => wf_u8 (hwf2 x hx))⟩
  clear h h2 hwf hwf2
  go_enter Tryd.func7, Tryd.ntmps7
  go_wp2_with fail
  refine (awake_calls _ hT).mono ?_
  rintro e w1 ⟨rfl, k1⟩
  go_wp2_with fail
  refine (new2_calls w1).mono ?_
  rintro e w2 ⟨rfl, d1, k2⟩
  go_wp2_with fail
  refine (new2_calls w2).mono ?_
  rintro e w3 ⟨rfl, d2, k3⟩
  have s1 := k1.size
  have s2 := (Array.getElem?_eq_some_iff.1 d1).1
  have s3 := (Array.getElem?_eq_some_iff.1 d2).1
  have d1 := (k3.block w1.heap.size (by omega)).trans d1
  have m1 := heap_alloc_new w3 (.cells #[.slice none 0 0, .bool false] 59)
  obtain ⟨w4, hw4⟩ : ∃ w4, w4 = w3.alloc (.cells #[.slice none 0 0, .bool false] 59) := ⟨_, rfl⟩
  have s4 : w4.heap.size = w3.heap.size + 1 := by rw [hw4]; simp
  have k4 : Below w3.heap.size w3 w4 := by rw [hw4]; exact (Below.refl _ _).alloc (Nat.le_refl _) _
  have m2 := heap_alloc_new w4 (.cells #[.slice none 0 0, .bool false] 59)
  obtain ⟨w5, hw5⟩ : ∃ w5, w5 = w4.alloc (.cells #[.slice none 0 0, .bool false] 59) := ⟨_, rfl⟩
  have s5 : w5.heap.size = w4.heap.size + 1 := by rw [hw5]; simp
  have k5 : Below w4.heap.size w4 w5 := by rw [hw5]; exact (Below.refl _ _).alloc (Nat.le_refl _) _
  rw [← hw4] at m1
  rw [← hw5] at m2
  have m1 := (k5.block w3.heap.size (by omega)).trans m1
  have d1 := (k5.block w1.heap.size (by omega)).trans ((k4.block w1.heap.size (by omega)).trans d1)
  have d2 := (k5.block w2.heap.size (by omega)).trans ((k4.block w2.heap.size (by omega)).trans d2)
  have H4 : Four w w5 w5.heap.size w1.heap.size w2.heap.size w3.heap.size w4.heap.size none none none none :=
    ⟨.live [] _ _ ⟨d1, World.ownsRow_nil _ _ _ _, by omega, Nat.le_refl _⟩ ⟨m1, World.ownsRow_nil _ _ _ _, by omega, Nat.le_refl _⟩ rfl rfl (fun g hg => by cases hg) (.inl rfl) (fun x hx => by cases hx),
     .live [] _ _ ⟨d2, World.ownsRow_nil _ _ _ _, by omega, Nat.le_refl _⟩ ⟨m2, World.ownsRow_nil _ _ _ _, by omega, Nat.le_refl _⟩ rfl rfl (fun g hg => by cases hg) (.inl rfl) (fun x hx => by cases hx),
     fun g hg => (by rcases hg with hg | hg <;> cases hg), by omega, (((k1.trans (k2.mono (by omega))).trans (k3.mono (by omega))).trans (k4.mono (by omega))).trans (k5.mono (by omega))⟩
  obtain ⟨B, hB⟩ : ∃ B, B = w5.heap.size := ⟨_, rfl⟩
  rw [← hB] at H4
  obtain ⟨D1, e1⟩ : ∃ D, D = w1.heap.size := ⟨_, rfl⟩
  obtain ⟨D2, e2⟩ : ∃ D, D = w2.heap.size := ⟨_, rfl⟩
  obtain ⟨M1, e3⟩ : ∃ D, D = w3.heap.size := ⟨_, rfl⟩
  obtain ⟨M2, e4⟩ : ∃ D, D = w3.heap.size + 1 := ⟨_, rfl⟩
  rw [s4, ← e4, ← e1, ← e2, ← e3] at H4
  have E2 := Lib.hid e2
  have E3 := Lib.hid e3
  have E4 := Lib.hid e4
  have E1 := Lib.hid e1
  have HW4 := Lib.hid hw4
  have HW5 := Lib.hid hw5
  clear d1 d2 m1 m2 s1 s2 s3 s4 s5 hw4 hw5 k1 k2 k3 k4 k5 hB e1 e2 e3 e4
  have HB := Lib.hid (fun i (hi : i < n) => hb.at_ (Nat.lt_of_le_of_lt (Nat.zero_le i) hi))
  have HB2 := Lib.hid (fun i (hi : i < n2) => hb2.at_ (Nat.lt_of_le_of_lt (Nat.zero_le i) hi))
  clear hb hb2
  go_wp2
  rw [← HW4.out, ← HW5.out, ← E4.out, ← E3.out, ← E2.out, ← E1.out]
  have hDw := H4.lt.1
  clear HW4 HW5 E4 E3 E2 E1
  go_loopw [9] (fun y wr => ∃ (i : Nat) (p1 p2 q1 q2 : Option Nat), y = .int .i64 i ∧ i ≤ max n n2 ∧ Four w wr B D1 D2 M1 M2 p1 p2 q1 q2) (fun y _ => max n n2 - (RowKit.intOf y).toNat)
  case atStart => exact ⟨0, none, none, none, none, rfl, by omega, H4⟩
  case round =>
    obtain ⟨i, p1, p2, q1, q2, rfl, hin, h4⟩ := hrel
    have hl4 := h4.lt
    by_cases hi : i < n
    · obtain ⟨b, o, rfl, hbz, hcell⟩ := HB.out i hi
      have hx := (hcell i hi).1
      have hcx := (hcell i hi).2 wr h4.below
      obtain ⟨x, ex⟩ : ∃ x, x = bn xs i := ⟨_, rfl⟩
      rw [← ex] at hx hcx
      clear ex hcell
      have cT := takes_calls w wr B D1 M1 p1 p2 x h4.one (by omega) hT h4.below hDw (by omega) (by omega)
      go_wp2_with fail
      refine cT.mono ?_
      rintro e w6 hP
      obtain ⟨rfl, r1, r2, h46⟩ := h4.first hP
      clear cT hP hcx h4
      by_cases hi2 : i < n2
      · obtain ⟨b2, o2, rfl, hbz2, hcell2⟩ := HB2.out i hi2
        have hx2 := (hcell2 i hi2).1
        have hcx2 := (hcell2 i hi2).2 w6 h46.below
        obtain ⟨x2, ex2⟩ : ∃ x, x = bn ys i := ⟨_, rfl⟩
        rw [← ex2] at hx2 hcx2
        clear ex2 hcell2
        have cT := takes_calls w w6 B D2 M2 q1 q2 x2 h46.two (by omega) hT h46.below (by omega) (by omega) (by omega)
        go_wp2_with fail
        refine cT.mono ?_
        rintro e w7 hP
        obtain ⟨rfl, r3, r4, h47⟩ := h46.second hP
        clear cT hP hcx2 h46
        go_wp2
        go_roundw
        case rel => exact ⟨i + 1, r1, r2, r3, r4, by go_num, by omega, h47⟩
        case measure => simp [RowKit.intOf]; omega
      · go_wp2
        go_roundw
        case rel => exact ⟨i + 1, r1, r2, q1, q2, by go_num, by omega, h46⟩
        case measure => simp [RowKit.intOf]; omega
    · by_cases hi2 : i < n2
      · obtain ⟨b2, o2, rfl, hbz2, hcell2⟩ := HB2.out i hi2
        have hx2 := (hcell2 i hi2).1
        have hcx2 := (hcell2 i hi2).2 wr h4.below
        obtain ⟨x2, ex2⟩ : ∃ x, x = bn ys i := ⟨_, rfl⟩
        rw [← ex2] at hx2 hcx2
        clear ex2 hcell2
        have cT := takes_calls w wr B D2 M2 q1 q2 x2 h4.two (by omega) hT h4.below (by omega) (by omega) (by omega)
        go_wp2_with fail
        refine cT.mono ?_
        rintro e w7 hP
        obtain ⟨rfl, r3, r4, h47⟩ := h4.second hP
        clear cT hP hcx2 h4
        go_wp2
        go_roundw
        case rel => exact ⟨i + 1, p1, p2, r3, r4, by go_num, by omega, h47⟩
        case measure => simp [RowKit.intOf]; omega
      · have hbel := h4.below
        clear h4
        have HCP := Lib.hid (fun m => nil_pend_calls (wr.drewN m))
        go_wp2_with fail
        refine (nil_take_calls wr 65).mono ?_
        rintro e w6 ⟨rfl, rfl⟩
        go_wp2
        go_ret
        exact ⟨rfl, hbel⟩
end Go.Proofs.YtfmpnfgegcgcaaaDoor
