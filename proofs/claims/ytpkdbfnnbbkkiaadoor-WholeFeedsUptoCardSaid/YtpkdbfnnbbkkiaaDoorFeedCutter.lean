/- Slices of slices of bytes that the call owns; the walk of gimlettop.pieces. -/
import Derived.Test.YtpkdbfnnbbkkiaaDoorFeedRead
import Derived.Test.YtpkdbfnnbbkkiaaDoorHanded
import Derived.Deep.OwnRows
namespace Gim
open Go Go.RowKit
/-- a block of truth values -/
def BB (w : World) (t : TypeId) (g n : Nat) : Prop := ∃ cur, w.heap[g]? = some (.cells cur t) ∧ ∀ j, j < n → ∃ b, cur[j]? = some (.bool b)
theorem BB.get {w : World} {t : TypeId} {g n : Nat} (h : BB w t g n) {j : Nat} (hj : j < n) : ∃ b, w.cell? ⟨g, j, none⟩ = some (.bool b) := by
  obtain ⟨cur, hc, hb⟩ := h
  obtain ⟨b, hb⟩ := hb j hj
  exact ⟨b, by unfold World.cell?; rw [hc]; exact hb⟩
theorem BB.fz {w : World} {t : TypeId} {g n : Nat} (h : BB w t g n) (j : Nat) : w.frozen? ⟨g, j, none⟩ = false := by
  obtain ⟨cur, hc, _⟩ := h
  simp [World.frozen?, hc]
theorem BB.set {w : World} {t : TypeId} {g n : Nat} (h : BB w t g n) (j : Nat) (b : Bool) : BB (w.setCell ⟨g, j, none⟩ (.bool b)) t g n := by
  obtain ⟨cur, hc, hb⟩ := h
  refine ⟨_, Go.Joins.block_setCell hc (i := j) (.bool b), fun i hi => ?_⟩
  obtain ⟨b', hb'⟩ := hb i hi
  by_cases e : j = i
  · subst e
    have hlt := (Array.getElem?_eq_some_iff.1 hb').1
    exact ⟨b, by simp [hlt]⟩
  · exact ⟨b', by simp [e, hb']⟩
theorem BB.fr {q : Nat → Prop} {w w' : World} {t : TypeId} {g n : Nat} (h : BB w t g n) (hf : Fr q w w') (hq : ¬ q g) : BB w' t g n := by
  obtain ⟨cur, hc, hb⟩ := h
  exact ⟨cur, (hf.block g (Array.getElem?_eq_some_iff.1 hc).1 hq).trans hc, hb⟩
theorem BB.new (w : World) (t : TypeId) (n : Nat) : BB (w.alloc (.cells (madeCells #[.bool false] n) t)) t w.heap.size n :=
  ⟨_, heap_alloc_new _ _, fun j hj => ⟨false, by simp [madeCells, hj, Nat.mod_one]⟩⟩
theorem take_flat {b : List Int} {p k : Nat} {L : List (List Int)} (h : L.flatten = b.take p) : (L ++ [(b.drop p).take k]).flatten = b.take (p + k) := by
  rw [List.flatten_append, h, List.take_add]
  simp
end Gim
namespace Go.Proofs.YtpkdbfnnbbkkiaaDoor
open Go.RowKit Gim
theorem info_bytes : (Tryd.prog.info? 22).map (fun i => (i.zero, i.size, i.bytes)) = some (some (.slice none 0 0), 1, 24) := by kernel_rfl
/-- 'append(out, x)' of one slice of bytes -/
theorem appendS (w : World) {ops : Array Oper} {rest : List Oper} {o : Oper} {a : Act} {Q : Exit → Act → World → Prop} (hg : o.guard = none) (s x : Operand)
    (ho : o.op = .call { callee := .builtin .append, args := #[s, x], argTypes := #[30, 30] }) (B : Nat)
    (v : Value) (cs : List Value) (hs : a.eval s = v) (hrow : w.ownsRow B 22 1 v cs.length cs) (c : Value) (hc1 : c.oneCell' = true) (hx : a.eval x = .slice (some ⟨w.heap.size, 0, none⟩) 1 1)
    (hlen : cs.length < 1099511627776) (hB : B ≤ w.heap.size)
    (hK : ∀ v' w', w'.ownsRow B 22 1 v' (cs ++ [c]).length (cs ++ [c]) → w.grownBy w' v.ownBlock → wpList Tryd.prog ops Q rest (a.put o.dst v') w') :
    wpList Tryd.prog ops Q (o :: rest) a (w.alloc (.cells #[c] 22)) := by
  obtain ⟨i0, hi, hz0, hz1, hz2⟩ := info_parts info_bytes
  refine wpList_append_own _ hg s x 30 ho B 22 i0 _ 1 24 Tryd.underlying30 hi hz0 hz1 hz2 rfl (by decide) v cs.length cs hs (World.ownsRow.alloc hrow _) ⟨w.heap.size, 0, none⟩ 1 1 [c] hx rfl (one_new _ _ _)
      (fun x hx => by simp at hx; subst hx; exact hc1) (by unfold maxLen; omega) (by omega) (by simp; omega) ?_
  intro v' w' h1 h2 _
  refine hK v' w' ?_ ?_
  · rw [List.length_append]
    exact h1
  · have h3 := World.grownBy_alloc w (.cells #[c] 22) v.ownBlock
    exact ⟨h2.os.trans h3.os, h2.tape.trans h3.tape, h2.output.trans h3.output, Nat.le_trans h3.size h2.size,
      fun j hj hne => (h2.block j (Nat.lt_of_lt_of_le hj h3.size) hne).trans (h3.block j hj hne)⟩
/-- slices of bytes of own, in a slice of own -/
def PS (w : World) (B : Nat) (v : Value) (L : List (List Int)) : Prop :=
  ∃ vs : List Value, w.ownsRow B 22 1 v vs.length vs ∧ vs.length = L.length ∧ ∀ i (h1 : i < vs.length) (h2 : i < L.length), Row w B 5 .u8 vs[i] L[i] ∧ ∀ x ∈ L[i], 0 ≤ x ∧ x ≤ 255
theorem own_ty {w : World} {B : Nat} {e : TypeId} {z : Nat} {v : Value} {n : Nat} {cs : List Value} (h : w.ownsRow B e z v n cs) : ∀ g, v.ownBlock = some g → B ≤ g ∧ ∃ cur fr, w.heap[g]? = some (.cells cur e fr) := by
  intro g hg
  rcases h.2 with ⟨rfl, _⟩ | ⟨g', cap, cur, a, b, c, rest⟩
  · simp [Value.ownBlock] at hg
  · subst a
    simp only [Value.ownBlock, Option.some.injEq] at hg
    subst hg
    exact ⟨b, cur, _, c⟩
theorem own_fr {q : Nat → Prop} {w w1 : World} {B : Nat} {e : TypeId} {z : Nat} {v : Value} {n : Nat} {cs : List Value} (h : w.ownsRow B e z v n cs) (hf : Fr q w w1) (hq : ∀ g, v.ownBlock = some g → ¬ q g) : w1.ownsRow B e z v n cs := by
  refine ⟨h.1, ?_⟩
  rcases h.2 with h2 | ⟨g, cap, cur, a, b, c, rest⟩
  · exact .inl h2
  · exact .inr ⟨g, cap, cur, a, b, (hf.block g (Array.getElem?_eq_some_iff.1 c).1 (hq g (by rw [a]; rfl))).trans c, rest⟩
theorem PS.nil (w : World) (B : Nat) : PS w B (.slice none 0 0) [] := ⟨[], World.ownsRow_nil _ _ _ _, rfl, fun i h => by cases h⟩
theorem PS.stays {w w1 : World} {B : Nat} {v : Value} {L : List (List Int)} (h : PS w B v L) (hb : Below w.heap.size w w1) : PS w1 B v L := by
  obtain ⟨vs, h1, h2, h3⟩ := h
  exact ⟨vs, own_fr h1 (Fr.of (p := fun _ => False) hb) (fun _ _ x => x), h2, fun i a b => ⟨(h3 i a b).1.stays hb, (h3 i a b).2⟩⟩
theorem PS.rd {w : World} {B : Nat} {v : Value} {L : List (List Int)} (h : PS w B v L) : ∃ ao cap, v = .slice ao L.length cap ∧ RdS w ao L.length cap L := by
  obtain ⟨vs, h1, h2, h3⟩ := h
  rcases h1.2 with ⟨rfl, h0⟩ | ⟨g, cap, cur, rfl, hb, hg, hn, hc, hs, ht⟩
  · have hL : L = [] := List.eq_nil_of_length_eq_zero (by omega)
    subst hL
    exact ⟨none, 0, rfl, ⟨rfl, Nat.le_refl _, by unfold maxLen; omega, fun j hj => by cases hj⟩⟩
  · refine ⟨some ⟨g, 0, none⟩, cap, by rw [h2], ⟨rfl, by omega, hc, fun _ _ => ⟨g, 0, rfl, (Array.getElem?_eq_some_iff.1 hg).1, fun i hi => ?_⟩⟩⟩
    have hi2 : i < vs.length := by omega
    obtain ⟨r1, r2⟩ := h3 i hi2 hi
    obtain ⟨a, c, e1, rd, hno⟩ := Row.rd2 r1
    have hcell := World.ownsRow.cells (g := g) h1 rfl i _ (List.getElem?_eq_getElem hi2)
    rw [Addr.add_lit, e1] at hcell
    refine ⟨a, _, c, hcell, ?_, r2, hno⟩
    exact rd
/-- what pieces hands back -/
def CutP (w : World) (b : List Int) (E : Ending) (w' : World) : Prop :=
  ∃ ao cap L, E = .returned (.slice ao L.length cap) ∧ RdS w' ao L.length cap L ∧ L.flatten = b ∧ L.length ≤ b.length ∧ Below w.heap.size w w'
set_option maxRecDepth 100000 in
set_option maxHeartbeats 4000000 in
theorem cutter_calls (w : World) (ao : Option Addr) (n cap : Nat) (b : List Int) (h : Rd w .u8 ao n cap b) (hby : ∀ x ∈ b, 0 ≤ x ∧ x ≤ 255) (hn : n ≤ 274877906944) (ao2 : Option Addr) (n2 cap2 : Nat) (cs : List Int) (h2 : Rd w .i64 ao2 n2 cap2 cs) (hn2 : n2 ≤ 274877906944) :
    Calls Tryd.prog 9 #[.slice ao n cap, .slice ao2 n2 cap2] w (CutP w b) := by
  have HL := Lib.hid h.len
  have hcl := h.cap_le
  have hle := h.le
  have hcl2 := h2.cap_le
  have hle2 := h2.le
  unfold CutP
  have hmk := run_make_row' (P := Tryd.prog) 67 4 (.bool false) 1 Tryd.underlying67 (by kernel_rfl) rfl .i64 .i64 (n + 1) (by omega) (by omega) w
  rw [show ((n + 1 : Nat) : Int) = (n : Int) + 1 from by omega] at hmk
  go_enter Tryd.func9, Tryd.ntmps9
  go_wp2_with fail
  clear hmk
  have bb0 := BB.new w 4 (n + 1)
  have b0 : Below w.heap.size w (w.alloc (.cells (madeCells #[.bool false] (n + 1)) 4)) := (Below.refl _ _).alloc (Nat.le_refl _) _
  have hI : w.heap.size < (w.alloc (.cells (madeCells #[.bool false] (n + 1)) 4)).heap.size := by simp
  obtain ⟨I, hII⟩ : ∃ I, Hid (I = w.heap.size) := ⟨_, rfl⟩
  rw [← hII.out] at bb0 hI ⊢
  generalize w.alloc (.cells (madeCells #[.bool false] (n + 1)) 4) = w1 at bb0 b0 hI ⊢
  go_wp2_with fail
  go_loopw [17] (fun v17 wr => ∃ i : Nat, v17 = .int .i64 i ∧ i ≤ n2 ∧ BB wr 4 I (n + 1) ∧ Below w.heap.size w wr) (fun u17 _ => n2 - (intOf u17).toNat)
  case atStart => exact ⟨0, rfl, Nat.zero_le _, bb0, b0⟩
  case round =>
    obtain ⟨i, rfl, hi, hbb, hb⟩ := hrel
    by_cases hin : i < n2
    · have hin' : (i : Int) < n2 := by omega
      obtain ⟨g2, o2, rfl, hg, hc⟩ := (h2.below hb).cell i hin
      have hci := hc i hin
      obtain ⟨z, hz⟩ : ∃ z, Hid (z = gt cs i) := ⟨_, rfl⟩
      rw [← hz.out] at hci
      clear hc
      by_cases h0 : 0 < z
      · by_cases h1 : z < n
        · obtain ⟨k, rfl⟩ : ∃ k : Nat, z = k := ⟨z.toNat, by omega⟩
          have hk : k < n := by omega
          have hk1 : k < n + 1 := by omega
          have hk2 : (k : Int) < n + 1 := by omega
          have hfz := hbb.fz k
          obtain ⟨bz, hbz⟩ := hbb.get hk1
          have HB := Lib.hid (hbb.set k true)
          have HS := Lib.hid (hb.setCell (p := ⟨I, k, none⟩) (by show w.heap.size ≤ I; have := hII.out; omega) (.bool true))
          go_wp2_with fail
          go_roundw
          case rel => exact ⟨i + 1, by go_num, hin, HB.out, HS.out⟩
          case measure => simp [RowKit.intOf]; omega
        · have h1' : ¬ z < (n : Int) := by omega
          go_wp2_with fail
          go_roundw
          case rel => exact ⟨i + 1, by go_num, hin, hbb, hb⟩
          case measure => simp [RowKit.intOf]; omega
      · go_wp2_with fail
        go_roundw
        case rel => exact ⟨i + 1, by go_num, hin, hbb, hb⟩
        case measure => simp [RowKit.intOf]; omega
    · have hin' : ¬ (i : Int) < n2 := by omega
      go_wp2_with fail
      go_loopw [8, 9, 10] (fun v8 v9 v10 wx => ∃ (L : List (List Int)) (p i : Nat) (v : Value), v = v8 ∧ v9 = .int .i64 p ∧ v10 = .int .i64 i ∧ p < i ∧ i ≤ n + 1 ∧ (i = n + 1 → p = n) ∧ PS wx w.heap.size v L ∧ Hid (L.flatten = b.take p) ∧ L.length ≤ p ∧ BB wx 4 I (n + 1) ∧ Below w.heap.size w wx) (fun _ _ u10 _ => n + 1 - (intOf u10).toNat)
      case atStart => exact ⟨[], 0, 1, _, rfl, rfl, rfl, by omega, by omega, by omega, PS.nil _ _, Lib.hid rfl, Nat.le_refl _, hbb, hb⟩
      case round =>
        obtain ⟨L, p, i, vo, rfl, rfl, rfl, hpi, hin1, hpn, hps, HF, hLp, hbb, hb⟩ := hrel
        by_cases hin : i ≤ n
        · have hin2 : (i : Int) ≤ n := by omega
          obtain ⟨g, o, rfl, _, _⟩ := (h.below hb).cell p (by omega)
          obtain ⟨bz, hbz⟩ := hbb.get (j := i) (by omega)
          have hb1 := hb.size
          by_cases hie : i = n
          · have hib : ((i : Int) == (n : Int)) = true := by simp [hie]
            have hin3 : i ≤ n ∧ n ≤ i := ⟨by omega, by omega⟩
            clear hie
            have rdm := Rd.mid (h.below hb) (p := p) (m := i - p) (by omega) (by omega)
            have hub : ∀ x ∈ (b.drop p).take (i - p), 0 ≤ x ∧ x ≤ 255 := fun x hx => hby x (List.mem_of_mem_drop (List.mem_of_mem_take hx))
            have hpl : ((b.drop p).take (i - p)).length = i - p := by have := HL.out; rw [List.length_take, List.length_drop]; omega
            have hff := take_flat (k := i - p) HF.out
            rw [show p + (i - p) = i by omega] at hff
            obtain ⟨ps, hps2⟩ : ∃ ps, Hid (ps = (b.drop p).take (i - p)) := ⟨_, rfl⟩
            rw [← hps2.out] at hub hpl rdm hff
            have HFF := Lib.hid hff
            have HUB := Lib.hid hub
            obtain ⟨vs, hvs, hvl, hrows⟩ := hps
            have HROWS := Lib.hid hrows
            clear hff hub hrows
            have ba := (Below.refl wr.heap.size wr).alloc (Nat.le_refl _) (.cells #[] 5)
            have rda := rdm.below ba
            have rowa := row_empty wr 5 .u8 wr.heap.size (Nat.le_refl _)
            have hlt1 : vs.length < 1099511627776 := by omega
            have hbwr : Below w.heap.size w wr := hb
            have hip : (i : Int) - p = ((i - p : Nat) : Int) := by omega
            have hpi2 : (p : Int) ≤ i := by omega
            go_wp2_with (first
              | (at_builtin; refine append_rd _ rfl _ _ rfl wr.heap.size _ [] rfl rowa _ _ _ ps rfl rda (fun h => (by cases h)) (by simp; omega) (by simp) ?_; intro v3 w3 hrow3 hgrow3; obtain ⟨a3, c3, rfl, rd3, hn3⟩ := Row.rd2 hrow3
                 have hb3 : Below wr.heap.size wr w3 := ba.grown hgrow3 (by simp) (fun j hj => (rowa.lt j hj).1)
                 have hvs3 := own_fr hvs (Fr.of (p := fun _ => False) hb3) (fun _ _ x => x)
                 have hB3 : w.heap.size ≤ w3.heap.size := Nat.le_trans hb1 hb3.size
                 rw [List.nil_append] at hrow3 rd3 hn3
                 clear hgrow3 ba rowa rda rdm)
              | (at_builtin; refine appendS w3 rfl _ _ rfl w.heap.size vo vs rfl hvs3 _ rfl rfl hlt1 hB3 ?_; intro v5 w5 hrow5 hgrow5))
            have hfr5 := Fr.grown (p := fun j => Value.ownBlock vo = some j) (Fr.refl _ _) hgrow5 (fun g hg => .inl hg)
            have hty := own_ty hvs3
            have hbb3 := hbb.fr (Fr.of (p := fun _ => False) hb3) (fun x => x)
            have hbb5 := hbb3.fr hfr5 (fun e => by
              obtain ⟨_, cur, fr, hc⟩ := hty _ e
              obtain ⟨cur2, hc2, _⟩ := hbb3
              rw [hc2] at hc
              injection hc with hc
              injection hc with _ h2
              exact absurd h2 (by decide))
            have hb5 : Below w.heap.size w w5 := (hbwr.trans (hb3.mono hb1)).trans (hfr5.below hB3 (fun j e => (hty _ e).1))
            have hne : ∀ (v : Value) (xs : List Int), Row w3 w.heap.size 5 .u8 v xs → ∀ g, v.ownBlock = some g → ¬ Value.ownBlock vo = some g := by
              intro v xs hr g hg e
              obtain ⟨_, cur, fr, hc⟩ := hty _ e
              obtain ⟨_, cur2, fr2, hc2⟩ := own_ty hr g hg
              rw [hc2] at hc
              injection hc with hc
              injection hc with _ h2
              exact absurd h2 (by decide)
            have hps5 : PS w5 w.heap.size v5 (L ++ [ps]) := by
              refine ⟨_, hrow5, by rw [List.length_append, List.length_append, hvl]; rfl, fun j h1 h2 => ?_⟩
              by_cases hj : j < vs.length
              · rw [List.getElem_append_left hj, List.getElem_append_left (by omega)]
                obtain ⟨r1, r2⟩ := HROWS.out j hj (by omega)
                have r3 := r1.stays hb3
                exact ⟨r3.fr hfr5 (hne _ _ r3), r2⟩
              · rw [List.length_append, List.length_singleton] at h1
                obtain rfl : j = vs.length := by omega
                rw [List.getElem_append_right (Nat.le_refl _), List.getElem_append_right (by omega)]
                simp only [hvl, Nat.sub_self, List.getElem_singleton]
                have r3 : Row w3 w.heap.size 5 .u8 _ ps := Row.mono hrow3 hb1
                exact ⟨by rw [← hpl]; exact r3.fr hfr5 (hne _ _ r3), HUB.out⟩
            clear hrow5 hgrow5 hfr5 hbb3 hvs3 hne hty
            go_roundw
            case rel => exact ⟨L ++ [ps], i, i + 1, _, rfl, by first | rfl | go_num, by go_num, by omega, by omega, by omega, hps5, HFF, by rw [List.length_append, List.length_singleton]; omega, hbb5, hb5⟩
            case measure => simp [RowKit.intOf]; omega
          · have hib : ((i : Int) == (n : Int)) = false := beq_eq_false_iff_ne.2 (by omega)
            have hil : (i : Int) < n + 1 := by omega
            cases bz
            · go_wp2_with fail
              go_roundw
              case rel => exact ⟨L, p, i + 1, _, rfl, by first | rfl | go_num, by go_num, by omega, by omega, by omega, hps, HF, hLp, hbb, hb⟩
              case measure => simp [RowKit.intOf]; omega
            · skip
              have rdm := Rd.mid (h.below hb) (p := p) (m := i - p) (by omega) (by omega)
              have hub : ∀ x ∈ (b.drop p).take (i - p), 0 ≤ x ∧ x ≤ 255 := fun x hx => hby x (List.mem_of_mem_drop (List.mem_of_mem_take hx))
              have hpl : ((b.drop p).take (i - p)).length = i - p := by have := HL.out; rw [List.length_take, List.length_drop]; omega
              have hff := take_flat (k := i - p) HF.out
              rw [show p + (i - p) = i by omega] at hff
              obtain ⟨ps, hps2⟩ : ∃ ps, Hid (ps = (b.drop p).take (i - p)) := ⟨_, rfl⟩
              rw [← hps2.out] at hub hpl rdm hff
              have HFF := Lib.hid hff
              have HUB := Lib.hid hub
              obtain ⟨vs, hvs, hvl, hrows⟩ := hps
              have HROWS := Lib.hid hrows
              clear hff hub hrows
              have ba := (Below.refl wr.heap.size wr).alloc (Nat.le_refl _) (.cells #[] 5)
              have rda := rdm.below ba
              have rowa := row_empty wr 5 .u8 wr.heap.size (Nat.le_refl _)
              have hlt1 : vs.length < 1099511627776 := by omega
              have hbwr : Below w.heap.size w wr := hb
              have hip : (i : Int) - p = ((i - p : Nat) : Int) := by omega
              have hpi2 : (p : Int) ≤ i := by omega
              go_wp2_with (first
                | (at_builtin; refine append_rd _ rfl _ _ rfl wr.heap.size _ [] rfl rowa _ _ _ ps rfl rda (fun h => (by cases h)) (by simp; omega) (by simp) ?_; intro v3 w3 hrow3 hgrow3; obtain ⟨a3, c3, rfl, rd3, hn3⟩ := Row.rd2 hrow3
                   have hb3 : Below wr.heap.size wr w3 := ba.grown hgrow3 (by simp) (fun j hj => (rowa.lt j hj).1)
                   have hvs3 := own_fr hvs (Fr.of (p := fun _ => False) hb3) (fun _ _ x => x)
                   have hB3 : w.heap.size ≤ w3.heap.size := Nat.le_trans hb1 hb3.size
                   rw [List.nil_append] at hrow3 rd3 hn3
                   clear hgrow3 ba rowa rda rdm)
                | (at_builtin; refine appendS w3 rfl _ _ rfl w.heap.size vo vs rfl hvs3 _ rfl rfl hlt1 hB3 ?_; intro v5 w5 hrow5 hgrow5))
              have hfr5 := Fr.grown (p := fun j => Value.ownBlock vo = some j) (Fr.refl _ _) hgrow5 (fun g hg => .inl hg)
              have hty := own_ty hvs3
              have hbb3 := hbb.fr (Fr.of (p := fun _ => False) hb3) (fun x => x)
              have hbb5 := hbb3.fr hfr5 (fun e => by
                obtain ⟨_, cur, fr, hc⟩ := hty _ e
                obtain ⟨cur2, hc2, _⟩ := hbb3
                rw [hc2] at hc
                injection hc with hc
                injection hc with _ h2
                exact absurd h2 (by decide))
              have hb5 : Below w.heap.size w w5 := (hbwr.trans (hb3.mono hb1)).trans (hfr5.below hB3 (fun j e => (hty _ e).1))
              have hne : ∀ (v : Value) (xs : List Int), Row w3 w.heap.size 5 .u8 v xs → ∀ g, v.ownBlock = some g → ¬ Value.ownBlock vo = some g := by
                intro v xs hr g hg e
                obtain ⟨_, cur, fr, hc⟩ := hty _ e
                obtain ⟨_, cur2, fr2, hc2⟩ := own_ty hr g hg
                rw [hc2] at hc
                injection hc with hc
                injection hc with _ h2
                exact absurd h2 (by decide)
              have hps5 : PS w5 w.heap.size v5 (L ++ [ps]) := by
                refine ⟨_, hrow5, by rw [List.length_append, List.length_append, hvl]; rfl, fun j h1 h2 => ?_⟩
                by_cases hj : j < vs.length
                · rw [List.getElem_append_left hj, List.getElem_append_left (by omega)]
                  obtain ⟨r1, r2⟩ := HROWS.out j hj (by omega)
                  have r3 := r1.stays hb3
                  exact ⟨r3.fr hfr5 (hne _ _ r3), r2⟩
                · rw [List.length_append, List.length_singleton] at h1
                  obtain rfl : j = vs.length := by omega
                  rw [List.getElem_append_right (Nat.le_refl _), List.getElem_append_right (by omega)]
                  simp only [hvl, Nat.sub_self, List.getElem_singleton]
                  have r3 : Row w3 w.heap.size 5 .u8 _ ps := Row.mono hrow3 hb1
                  exact ⟨by rw [← hpl]; exact r3.fr hfr5 (hne _ _ r3), HUB.out⟩
              clear hrow5 hgrow5 hfr5 hbb3 hvs3 hne hty
              go_roundw
              case rel => exact ⟨L ++ [ps], i, i + 1, _, rfl, by first | rfl | go_num, by go_num, by omega, by omega, by omega, hps5, HFF, by rw [List.length_append, List.length_singleton]; omega, hbb5, hb5⟩
              case measure => simp [RowKit.intOf]; omega
        · have hin2 : ¬ (i : Int) ≤ n := by omega
          obtain ⟨ao9, cap9, rfl, hrd⟩ := hps.rd
          have hpe := hpn (by omega)
          have hfl : L.flatten = b := by rw [HF.out, hpe, ← HL.out, List.take_length]
          have HFL := Lib.hid hfl
          have hll : L.length ≤ b.length := by rw [HL.out]; omega
          clear hpe hfl
          go_wp2_with fail
          go_ret
          exact ⟨ao9, cap9, L, rfl, hrd, HFL.out, hll, hb⟩
end Go.Proofs.YtpkdbfnnbbkkiaaDoor
