/- The walk of gimletref01.Chars. -/
import Derived.Test.YtpkdbfnnbbkkiaaDoorRefLaw3
import Derived.Test.YtpkdbfnnbbkkiaaDoorValueWalk
import Derived.Test.YtpkdbfnnbbkkiaaDoorMendWalk
import Derived.Test.YtpkdbfnnbbkkiaaDoorRefTakeWalk
namespace Gim
open Go Go.RowKit
/-- characters in memory: place, character, width -/
def cells3 (cs : List (Int × Int × Int)) : List Value := cs.flatMap fun c => [.int .i64 c.1, .int .i64 c.2.1, .int .i64 c.2.2]
theorem cells3_length : ∀ cs, (cells3 cs).length = cs.length * 3
  | [] => rfl
  | c :: cs => by have := cells3_length cs; simp only [cells3, List.flatMap_cons, List.length_append, List.length_cons, List.length_nil] at this ⊢; omega
theorem cells3_get : ∀ {cs : List (Int × Int × Int)} {i : Nat} {c : Int × Int × Int}, cs[i]? = some c → (cells3 cs)[3 * i]? = some (.int .i64 c.1) ∧ (cells3 cs)[3 * i + 1]? = some (.int .i64 c.2.1) ∧ (cells3 cs)[3 * i + 2]? = some (.int .i64 c.2.2)
  | [], i, c, h => by simp at h
  | d :: cs, 0, c, h => by
    simp only [List.getElem?_cons_zero, Option.some.injEq] at h
    subst h
    exact ⟨rfl, rfl, rfl⟩
  | d :: cs, i + 1, c, h => by
    rw [List.getElem?_cons_succ] at h
    have hr := cells3_get h
    have e : cells3 (d :: cs) = [.int .i64 d.1, .int .i64 d.2.1, .int .i64 d.2.2] ++ cells3 cs := rfl
    rw [e, show 3 * (i + 1) = 3 * i + 3 from by omega, show 3 * i + 3 + 1 = 3 * i + 1 + 3 from by omega, show 3 * i + 3 + 2 = 3 * i + 2 + 3 from by omega]
    exact hr
def Row3 (w : World) (B : Nat) (e : TypeId) (v : Value) (cs : List (Int × Int × Int)) : Prop := w.ownsRow B e 3 v cs.length (cells3 cs)
theorem Row3.stays {w w1 : World} {B : Nat} {e : TypeId} {v : Value} {cs : List (Int × Int × Int)} (h : Row3 w B e v cs) (hb : Below w.heap.size w w1) : Row3 w1 B e v cs := by
  refine ⟨h.1, ?_⟩
  rcases h.2 with h2 | ⟨g, cap, cur, a, b, c, rest⟩
  · exact .inl h2
  · exact .inr ⟨g, cap, cur, a, b, (hb.block g (Array.getElem?_eq_some_iff.1 c).1).trans c, rest⟩
theorem three_new (w : World) (a b c : Value) (t : TypeId) : ∀ j u, [a, b, c][j]? = some u → (w.alloc (.cells #[a, b, c] t)).cell? ((⟨w.heap.size, 0, none⟩ : Addr).add j) = some u := by
  intro j u hj
  have hn := heap_alloc_new w (.cells #[a, b, c] t)
  have hlt : j < 3 := (List.getElem?_eq_some_iff.1 hj).1
  rw [Addr.add_lit]
  unfold World.cell?
  rw [hn]
  rcases (show j = 0 ∨ j = 1 ∨ j = 2 by omega) with rfl | rfl | rfl
  all_goals
    simp at hj
    subst hj
    rfl
/-- 'append(out, Ch{..})' -/
theorem append3 {P : Program} (w : World) {ops : Array Oper} {rest : List Oper} {o : Oper} {a : Act} {Q : Exit → Act → World → Prop} (hg : o.guard = none) (s x : Operand) (t : TypeId)
    (ho : o.op = .call { callee := .builtin .append, args := #[s, x], argTypes := #[t, t] }) (B : Nat) (e : TypeId)
    (hinfo : (P.info? e).map (fun i => (i.zero, i.size, i.bytes)) = some (some (.agg #[.int .i64 0, .int .i64 0, .int .i64 0]), 3, 24)) (ht : P.underlying t = some (.slice e))
    (v : Value) (cs : List (Int × Int × Int)) (hs : a.eval s = v) (hrow : Row3 w B e v cs) (c1 c2 c3 : Int) (hx : a.eval x = .slice (some ⟨w.heap.size, 0, none⟩) 1 1)
    (hlen : cs.length < 1099511627776) (hB : B ≤ w.heap.size)
    (hK : ∀ v' w', Row3 w' B e v' (cs ++ [(c1, c2, c3)]) → w.grownBy w' v.ownBlock → wpList P ops Q rest (a.put o.dst v') w') :
    wpList P ops Q (o :: rest) a (w.alloc (.cells #[.int .i64 c1, .int .i64 c2, .int .i64 c3] e)) := by
  cases hi : P.info? e with
  | none => rw [hi] at hinfo; simp at hinfo
  | some i0 =>
    rw [hi] at hinfo
    simp only [Option.map_some, Option.some.injEq, Prod.mk.injEq] at hinfo
    obtain ⟨hz0, hz1, hz2⟩ := hinfo
    refine wpList_append_own _ hg s x t ho B e i0 _ 3 24 ht hi hz0 hz1 hz2 rfl (by decide) v cs.length (cells3 cs) hs (World.ownsRow.alloc hrow _) ⟨w.heap.size, 0, none⟩ 1 1 [.int .i64 c1, .int .i64 c2, .int .i64 c3] hx rfl (three_new _ _ _ _ _)
      (fun x hx => by simp at hx; rcases hx with rfl | rfl | rfl <;> rfl) (by unfold maxLen; omega) (by omega) (by simp; omega) ?_
    intro v' w' h1 h2 _
    refine hK v' w' ?_ ?_
    · unfold Row3
      rw [List.length_append, show cells3 (cs ++ [(c1, c2, c3)]) = cells3 cs ++ [.int .i64 c1, .int .i64 c2, .int .i64 c3] from by simp [cells3]]
      exact h1
    · have h3 := World.grownBy_alloc w (.cells #[.int .i64 c1, .int .i64 c2, .int .i64 c3] e) v.ownBlock
      exact ⟨h2.os.trans h3.os, h2.tape.trans h3.tape, h2.output.trans h3.output, Nat.le_trans h3.size h2.size,
        fun j hj hne => (h2.block j (Nat.lt_of_lt_of_le hj h3.size) hne).trans (h3.block j hj hne)⟩
end Gim
namespace Go.Proofs.YtpkdbfnnbbkkiaaDoor
open Go.RowKit Gim
theorem info_ch : (Tryd.prog.info? 107).map (fun i => (i.zero, i.size, i.bytes)) = some (some (.agg #[.int .i64 0, .int .i64 0, .int .i64 0]), 3, 24) := by kernel_rfl
/-- b[p:p+m] -/
theorem Rb.mid {w : World} {b o n cap : Nat} {xs : List Int} (h : Rb w (some ⟨b, o, none⟩) n cap xs) {p m : Nat} (hm : p + m ≤ n) (h0 : p < cap) : Rb w (some ⟨b, o + p, none⟩) m (cap - p) ((xs.drop p).take m) := by
  have rbd := h.drop (m := p) (by omega)
  rw [if_neg (by omega)] at rbd
  replace rbd : Rb w (some ⟨b, o + p, none⟩) (n - p) (cap - p) (xs.drop p) := by simpa [Addr.add_lit] using rbd
  exact rbd.take (by omega)
def GivesCh (w : World) (cs : List (Int × Int × Int)) (e : Ending) (w' : World) : Prop := ∃ v, e = .returned v ∧ Row3 w' w.heap.size 107 v cs ∧ Below w.heap.size w w'
set_option maxRecDepth 100000 in
set_option maxHeartbeats 4000000 in
theorem chars_calls (w : World) (ao : Option Addr) (n cap : Nat) (xs : List Int) (h : Rb w ao n cap xs) (hxs : ∀ x ∈ xs, 0 ≤ x ∧ x ≤ 255) (hn : n ≤ 1099511627770) :
    Calls Tryd.prog 52 #[.slice ao n cap] w (GivesCh w (chB xs)) := by
  have HL := Lib.hid h.rd.len
  have hcl := h.rd.cap_le
  have hle := h.rd.le
  have HXS := Lib.hid hxs
  go_enter Tryd.func52, Tryd.ntmps52
  go_wp2
  go_loopw [3, 4] (fun v u wr => ∃ (p : Nat) (done : List (Int × Int × Int)), u = .int .i64 p ∧ Row3 wr w.heap.size 107 v done ∧ p ≤ n ∧ done.length ≤ p ∧ Below w.heap.size w wr ∧ Hid (done ++ chAt xs p = chB xs)) (fun _ u wr => n - (intOf u).toNat)
  case atStart => exact ⟨0, [], rfl, World.ownsRow_nil _ _ _ _, by omega, by simp, Below.refl _ _, Lib.hid (by rw [List.nil_append]; rfl)⟩
  case round =>
    obtain ⟨p, done, rfl, hrow, hps, hdl, hb, H⟩ := hrel
    have hBr : w.heap.size ≤ wr.heap.size := hb.size
    by_cases hp : p < n
    · have hst := Gim.step HXS.out (p := p) (by rw [HL.out]; exact hp)
      have hN := H.out
      rw [chAt_next (by rw [HL.out]; exact hp)] at hN
      have rbr := h.below hb
      obtain ⟨b, o, rfl, _, _⟩ := rbr.at_ (by omega)
      have cF := front_calls wr _ _ _ _ rbr p (by omega)
      rcases hst with ⟨m, hF, h1, h4, hl, hf, hv, hd, hV, hok⟩ | ⟨k, m, hF, hk, hkn, hf, hd, hpc⟩ | ⟨k, m, hF, hk, hkn, hf, hv, hd, hpc⟩
      · rw [HL.out] at hl
        have rbm := rbr.mid (p := p) (m := m) hl (by omega)
        have cV := value_calls wr _ _ _ _ rbm h1 h4
        rw [hF] at cF
        rw [← hV] at cV
        rw [hd] at hN
        obtain ⟨r, hr⟩ : ∃ r : Int, r = ((decB (xs.drop p)).1 : Int) := ⟨_, rfl⟩
        rw [← hr] at hN cV
        have HN := Lib.hid (show (done ++ [((p : Int), r, (m : Int))]) ++ chAt xs (p + m) = chB xs by rw [List.append_assoc]; exact hN)
        clear hF hf hv hd hV hok hr hN H
        go_wp2_with fail
        refine cF.mono ?_
        rintro e w1 ⟨rfl, rfl⟩
        clear cF
        go_wp2_with fail
        refine cV.mono ?_
        rintro e w2 ⟨rfl, rfl⟩
        clear cV
        go_wp2_with (at_builtin; refine append3 _ rfl _ _ 104 rfl w.heap.size 107 info_ch Tryd.underlying104 _ done rfl hrow _ _ _ rfl (by omega) hBr ?_; intro v' w3 hown' hgrow3)
        go_roundw
        case rel => exact ⟨p + m, _, by go_num, hown', by omega, by simp; omega, hb.grown hgrow3 hBr (fun j hj => (World.ownsRow.lt hrow j hj).1), HN⟩
        case measure => simp [RowKit.intOf]; omega
      · rw [HL.out] at hk
        rw [hF] at cF
        rw [hd] at hN
        have HN := Lib.hid (show (done ++ [((p : Int), (65533 : Int), (1 : Int))]) ++ chAt xs (p + 1) = chB xs by rw [List.append_assoc]; exact hN)
        clear hF hf hd hpc hN H
        have hkd : ((k : Int) == (m : Int)) = false := by simp; omega
        go_wp2_with fail
        refine cF.mono ?_
        rintro e w1 ⟨rfl, rfl⟩
        clear cF
        go_wp2_with (at_builtin; refine append3 _ rfl _ _ 104 rfl w.heap.size 107 info_ch Tryd.underlying104 _ done rfl hrow _ _ _ rfl (by omega) hBr ?_; intro v' w3 hown' hgrow3)
        go_roundw
        case rel => exact ⟨p + 1, _, by go_num, hown', by omega, by simp; omega, hb.grown hgrow3 hBr (fun j hj => (World.ownsRow.lt hrow j hj).1), HN⟩
        case measure => simp [RowKit.intOf]; omega
      · rw [HL.out] at hk
        rw [hF] at cF
        rw [hd] at hN
        have HN := Lib.hid (show (done ++ [((p : Int), (65533 : Int), (1 : Int))]) ++ chAt xs (p + 1) = chB xs by rw [List.append_assoc]; exact hN)
        clear hF hf hv hd hpc hN H
        have hcase : m = 0 ∨ 0 < m ∧ k ≠ m := by omega
        rcases hcase with rfl | ⟨hm, hkm⟩
        · go_wp2_with fail
          refine cF.mono ?_
          rintro e w1 ⟨rfl, rfl⟩
          clear cF
          go_wp2_with (at_builtin; refine append3 _ rfl _ _ 104 rfl w.heap.size 107 info_ch Tryd.underlying104 _ done rfl hrow _ _ _ rfl (by omega) hBr ?_; intro v' w3 hown' hgrow3)
          go_roundw
          case rel => exact ⟨p + 1, _, by go_num, hown', by omega, by simp; omega, hb.grown hgrow3 hBr (fun j hj => (World.ownsRow.lt hrow j hj).1), HN⟩
          case measure => simp [RowKit.intOf]; omega
        · have hkd : ((k : Int) == (m : Int)) = false := by simp; omega
          go_wp2_with fail
          refine cF.mono ?_
          rintro e w1 ⟨rfl, rfl⟩
          clear cF
          go_wp2_with (at_builtin; refine append3 _ rfl _ _ 104 rfl w.heap.size 107 info_ch Tryd.underlying104 _ done rfl hrow _ _ _ rfl (by omega) hBr ?_; intro v' w3 hown' hgrow3)
          go_roundw
          case rel => exact ⟨p + 1, _, by go_num, hown', by omega, by simp; omega, hb.grown hgrow3 hBr (fun j hj => (World.ownsRow.lt hrow j hj).1), HN⟩
          case measure => simp [RowKit.intOf]; omega
    · have he : done = chB xs := by
        have := H.out
        rw [chAt_end (by rw [HL.out]; omega), List.append_nil] at this
        exact this
      have HE := Lib.hid he
      clear H he
      go_wp2
      go_ret
      exact ⟨_, rfl, HE.out ▸ hrow, hb⟩
end Go.Proofs.YtpkdbfnnbbkkiaaDoor
