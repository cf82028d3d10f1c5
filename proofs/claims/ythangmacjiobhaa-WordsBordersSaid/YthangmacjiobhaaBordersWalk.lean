/- The walk of gimletlaw03.WordsBorders. -/
import Derived.Test.YthangmacjiobhaaAwake
import Derived.ArgAppend
namespace Gim
open Go Go.RowKit
theorem Row.setOther {w : World} {B : Nat} {e : TypeId} {k : IntKind} {g n cap : Nat} {xs : List Int} (h : Row w B e k (.slice (some ⟨g, 0, none⟩) n cap) xs) {a : Addr} (ha : a.block ≠ g) (u : Value) :
    Row (w.setCell a u) B e k (.slice (some ⟨g, 0, none⟩) n cap) xs := by
  refine ⟨h.1, ?_⟩
  rcases h.2 with ⟨h', _⟩ | ⟨g', cap', cur, h', h2, h3, h4⟩
  · simp at h'
  · simp only [Value.slice.injEq, Option.some.injEq, Addr.mk.injEq, and_true] at h'
    obtain ⟨rfl, rfl, rfl⟩ := h'
    exact .inr ⟨g, cap, cur, rfl, h2, by rw [Below.heap_setCell _ _ _ _ (Ne.symm ha)]; exact h3, h4⟩
theorem Row.below {w w' : World} {B B' : Nat} {e : TypeId} {k : IntKind} {g n cap : Nat} {xs : List Int} (h : Row w B e k (.slice (some ⟨g, 0, none⟩) n cap) xs) (hb : Below B' w w') (hg : g < B') :
    Row w' B e k (.slice (some ⟨g, 0, none⟩) n cap) xs := by
  refine ⟨h.1, ?_⟩
  rcases h.2 with ⟨h', _⟩ | ⟨g', cap', cur, h', h2, h3, h4⟩
  · simp at h'
  · simp only [Value.slice.injEq, Option.some.injEq, Addr.mk.injEq, and_true] at h'
    obtain ⟨rfl, rfl, rfl⟩ := h'
    exact .inr ⟨g, cap, cur, rfl, h2, by rw [hb.block g hg]; exact h3, h4⟩
theorem two_new (w : World) (a b : Value) (t : TypeId) : ∀ j u, [a, b][j]? = some u → (w.alloc (.cells #[a, b] t)).cell? ((⟨w.heap.size, 0, none⟩ : Addr).add j) = some u := cell_two_new w a b t
theorem own_row2 {w : World} {B : Nat} {e : TypeId} {k : IntKind} {v : Value} {n : Nat} {ws : List Int} {a b : Int} (h : w.ownsRow B e 1 v (n + 2) (ws.map (Value.int k) ++ [.int k a, .int k b])) (hn : ws.length = n) :
    ∃ g cap, v = .slice (some ⟨g, 0, none⟩) (n + 2) cap ∧ Row w B e k (.slice (some ⟨g, 0, none⟩) (n + 2) cap) (ws ++ [a, b]) := by
  rcases h.2 with ⟨_, h0⟩ | ⟨g, cap, cur, rfl, h2⟩
  · omega
  · refine ⟨g, cap, rfl, ?_⟩
    unfold Row
    rw [show (ws ++ [a, b]).length = n + 2 by simp [hn], List.map_append]
    exact h
theorem own_ne {g n cap : Nat} : (Value.slice (some ⟨g, 0, none⟩) n cap).ownBlock ≠ none := by simp [Value.ownBlock]
theorem gt_app {ws : List Int} {n : Nat} {a b : Int} (h : ws.length = n) : gt (ws ++ [a, b]) n = a := by subst h; simp [gt]
end Gim
namespace Go.Proofs.Ythangmacjiobhaa
open Go.RowKit Gim

set_option maxHeartbeats 1000000 in
theorem wordsBordersWalk (s : ByteArray) (w : World) (_ : s.size ≤ maxLen) :
    Calls Try.prog 3 #[.string s] w fun e w' => e = .returned (.bool true) ∧ Below w.heap.size w w' := by
  by_cases hlt : 4000 < s.size
  · have hlt' : (4000 : Int) < (s.size : Int) := by omega
    go_enter Try.func3, Try.ntmps3
    go_wp2_with fail
    refine (awake _).mono ?_
    rintro e w1 ⟨rfl, h1⟩
    go_wp2_with fail
    go_ret
    exact ⟨rfl, h1⟩
  · have hs' : s.size ≤ 1099511627776 := by omega
    have hlt' : ¬ (4000 : Int) < (s.size : Int) := by omega
    have hls := rs_length s
    obtain ⟨i0, hi, hz0, hz1, hz2⟩ := info_parts info_int
    obtain ⟨bs, hbs⟩ : ∃ bs, Hid (bs = brs (rs s)) := ⟨_, rfl⟩
    obtain ⟨n, hn⟩ : ∃ n, Hid (n = bs.length) := ⟨_, rfl⟩
    have hn4 : n ≤ 4000 := by rw [hn.out, hbs.out, brs_length]; omega
    go_enter Try.func3, Try.ntmps3
    go_wp2_with fail
    refine (awake _).mono ?_
    rintro e w1 ⟨rfl, h1⟩
    go_wp2_with fail
    refine (border _ _ hs').mono ?_
    rintro e w2 ⟨ga, rfl, ra, b2⟩
    rw [← hbs.out, ← hn.out] at ra ⊢
    have ga_lt := (ra.lt ga rfl).2
    have ga_ge := (ra.lt ga rfl).1
    go_wp2_with fail
    refine (refBorder _ _ hs').mono ?_
    rintro e w3 ⟨gw, rfl, rw3, b3⟩
    rw [← hbs.out, ← hn.out] at rw3 ⊢
    have gw_lt := (rw3.lt gw rfl).2
    have gw_ge := (rw3.lt gw rfl).1
    have ra3 := ra.below b3 ga_lt
    go_wp2_with fail
    refine (border _ _ hs').mono ?_
    rintro e w4 ⟨gb, rfl, rb, b4⟩
    rw [← hbs.out, ← hn.out] at rb ⊢
    have gb_lt := (rb.lt gb rfl).2
    have gb_ge := (rb.lt gb rfl).1
    have ra4 := ra3.below b4 (by omega)
    have rw4 := rw3.below b4 gw_lt
    have h2 := h1.trans (b2.mono h1.size)
    have h3 := h2.trans (b3.mono h2.size)
    have h4 := h3.trans (b4.mono h3.size)
    have s1 := h1.size
    have s2 := h2.size
    have s3 := h3.size
    clear b2 b3 b4 h1 h2 h3 ra ra3 rw3
    have rdA : Rd w4 .i64 (some ⟨ga, 0, none⟩) n n bs := ra4.rdAt
    have rdW : Rd w4 .i64 (some ⟨gw, 0, none⟩) n n bs := rw4.rdAt
    have rdB : Rd w4 .i64 (some ⟨gb, 0, none⟩) n n bs := rb.rdAt
    go_wp2_with fail
    refine (same _ _ _ _ _ _ _ _ _ rdA rdW (by omega)).mono ?_
    rintro e w5 ⟨rfl, d5⟩
    rw [beq_self_eq_true]
    go_wp2_with fail
    refine (same _ _ _ _ _ _ _ _ _ (rdB.below (d5.below _)) (rdW.below (d5.below _)) (by omega)).mono ?_
    rintro e w6 ⟨rfl, d6⟩
    rw [beq_self_eq_true]
    have d46 := d5.trans d6
    have ra6 : Row w6 w1.heap.size 3 .i64 (.slice (some ⟨ga, 0, none⟩) n n) bs := ra4.below (d46.below (ga + 1)) (by omega)
    have rw6 : Row w6 w2.heap.size 3 .i64 (.slice (some ⟨gw, 0, none⟩) n n) bs := rw4.below (d46.below (gw + 1)) (by omega)
    have rb6 : Row w6 w3.heap.size 3 .i64 (.slice (some ⟨gb, 0, none⟩) n n) bs := rb.below (d46.below (gb + 1)) (by omega)
    have h6 : Below w.heap.size w w6 := h4.trans ((d46.below w4.heap.size).mono h4.size)
    clear rdA rdW rdB ra4 rw4 rb d5 d6 d46 h4
    go_wp2_with fail
    go_loopw [6] (fun v wr => ∃ (k : Nat) (ws : List Int), v = .int .i64 k ∧ k ≤ n ∧ Row wr w1.heap.size 3 .i64 (.slice (some ⟨ga, 0, none⟩) n n) ws ∧ Row wr w2.heap.size 3 .i64 (.slice (some ⟨gw, 0, none⟩) n n) bs ∧ Row wr w3.heap.size 3 .i64 (.slice (some ⟨gb, 0, none⟩) n n) bs ∧ Below w.heap.size w wr) (fun v _ => n - (intOf v).toNat)
    case atStart => exact ⟨0, bs, rfl, by omega, ra6, rw6, rb6, h6⟩
    case round =>
      clear ra6 rw6 rb6 h6
      obtain ⟨k, ws, rfl, hk, ra, rwt, rb, hb⟩ := hrel
      by_cases hkn : k < n
      · have hkn' : (k : Int) < (n : Int) := by omega
        have hfr := ra.free k
        have hold := ra.cell (j := k) (by rw [ra.length]; exact hkn)
        have ra2 := ra.set' k (-7)
        have rw2 := rwt.setOther (a := ⟨ga, k, none⟩) (by show ga ≠ gw; omega) (.int .i64 (-7))
        have rb2 := rb.setOther (a := ⟨ga, k, none⟩) (by show ga ≠ gb; omega) (.int .i64 (-7))
        have hb2 := hb.setCell (p := ⟨ga, k, none⟩) (by show w.heap.size ≤ ga; omega) (.int .i64 (-7))
        go_wp2
        go_roundw
        case rel => exact ⟨k + 1, _, by go_num, by omega, ra2, rw2, rb2, hb2⟩
        case measure => simp [intOf]; omega
      · have hkn' : ¬ (k : Int) < (n : Int) := by omega
        have sz := hb.size
        have gbl := (rb.lt gb rfl).2
        have hwl := Lib.hid ra.length
        have hbl := Lib.hid rb.length
        go_wp2_with (first
          | (at_builtin; refine wpList_append_grows _ rfl (.tmp 39) (.tmp 40) 23 rfl 3 i0 (.int .i64 0) 1 8 Try.underlying23 hi hz0 hz1 hz2 rfl (by decide) (some ⟨ga, 0, none⟩) n n (ws.map (Value.int .i64)) rfl (by intro h; cases h) (by simp [hwl.out]) (fun b hb j u hj => by cases hb; exact (World.ownsRow.alloc ra _).cells rfl j u hj) ⟨wr.heap.size, 0, none⟩ 2 2 [.int .i64 1, .int .i64 2] rfl rfl (two_new _ _ _ _) (fun x hx => by simp at hx; rcases hx with rfl | rfl <;> rfl) (by omega) (by unfold maxLen; omega) (by omega) ?_; intro v7 w7 own7 grow7
             obtain ⟨gc, cc, rfl, rc7⟩ := own_row2 own7 hwl.out
             have rw7 := World.ownsRow.kept (World.ownsRow.alloc rwt _) grow7 (.inr own_ne)
             have rb7 := World.ownsRow.kept (World.ownsRow.alloc rb _) grow7 (.inr own_ne)
             have h7 := (hb.alloc sz _).grown grow7 (by simp; omega) (fun k hk => by cases hk)
             have sz7 := h7.size
             clear own7 grow7)
          | (at_builtin; refine wpList_append_grows _ rfl (.tmp 42) (.tmp 43) 23 rfl 3 i0 (.int .i64 0) 1 8 Try.underlying23 hi hz0 hz1 hz2 rfl (by decide) (some ⟨gb, 0, none⟩) n n (bs.map (Value.int .i64)) rfl (by intro h; cases h) (by simp [hbl.out]) (fun b hb j u hj => by cases hb; exact (World.ownsRow.alloc rb7 _).cells rfl j u hj) ⟨w7.heap.size, 0, none⟩ 2 2 [.int .i64 3, .int .i64 4] rfl rfl (two_new _ _ _ _) (fun x hx => by simp at hx; rcases hx with rfl | rfl <;> rfl) (by omega) (by unfold maxLen; omega) (by omega) ?_; intro v8 w8 own8 grow8
             obtain ⟨gd, cd, rfl, rd8⟩ := own_row2 own8 hbl.out
             have rc8 := World.ownsRow.kept (World.ownsRow.alloc rc7 _) grow8 (.inr own_ne)
             have rw8 := World.ownsRow.kept (World.ownsRow.alloc rw7 _) grow8 (.inr own_ne)
             have rb8 := World.ownsRow.kept (World.ownsRow.alloc rb7 _) grow8 (.inr own_ne)
             have h8 := (h7.alloc sz7 _).grown grow8 (by simp; omega) (fun k hk => by cases hk)
             clear own8 grow8 rc7 rw7 rb7 h7))
        have rdB := Row.rdAt rb8
        have rdW := Row.rdAt rw8
        have hcc := Row.cell rc8 (j := n) (by simp [hwl.out])
        have hcd := Row.cell rd8 (j := n) (by simp [hbl.out])
        rw [gt_app hwl.out] at hcc
        rw [gt_app hbl.out] at hcd
        have gcl := (Row.lt rc8 gc rfl).2
        have gdl := (Row.lt rd8 gd rfl).2
        clear rc8 rd8 rb8 rw8 hwl hbl
        refine (same _ _ _ _ _ _ _ _ _ rdB rdW (by omega)).mono ?_
        rintro e w9 ⟨rfl, d9⟩
        rw [beq_self_eq_true]
        have hcc9 := ((d9.below w8.heap.size).cell (p := ⟨gc, n, none⟩) gcl).trans hcc
        have hcd9 := ((d9.below w8.heap.size).cell (p := ⟨gd, n, none⟩) gdl).trans hcd
        have hn2 : (n : Int) < ((n + 2 : Nat) : Int) := by omega
        have h9 := h8.trans ((d9.below w8.heap.size).mono h8.size)
        have rdW9 := rdW.below (d9.below _)
        clear hcc hcd rdB rdW d9 h8
        go_wp2_with fail
        refine (border _ _ hs').mono ?_
        rintro e w10 ⟨gz, rfl, rz, b10⟩
        rw [← hbs.out, ← hn.out] at rz ⊢
        have rdZ := rz.rdAt
        have h10 := h9.trans (b10.mono h9.size)
        go_wp2_with fail
        refine (same _ _ _ _ _ _ _ _ _ rdZ (rdW9.below b10) (by omega)).mono ?_
        rintro e w11 ⟨rfl, d11⟩
        rw [beq_self_eq_true]
        go_wp2_with fail
        go_ret
        exact ⟨rfl, h10.trans ((d11.below w10.heap.size).mono h10.size)⟩
end Go.Proofs.Ythangmacjiobhaa
