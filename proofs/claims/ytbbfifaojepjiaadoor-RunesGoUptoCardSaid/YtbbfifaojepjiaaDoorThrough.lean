/- The walk of gimletlaw01.through: a range over runes.All within a range over it. -/
import Derived.Test.YtbbfifaojepjiaaDoorAllWalk
import Derived.Test.YtbbfifaojepjiaaDoorTakesLaw
import Derived.Sort.CutIn
namespace Gim
open Go Go.RowKit
theorem prefix_snoc {α : Type} {pre L : List α} {x : α} (h : pre <+: L) : pre ++ [x] <+: L ↔ L[pre.length]? = some x := by
  obtain ⟨t, rfl⟩ := h
  rw [List.prefix_append_right_inj]
  simp only [List.getElem?_append_right (Nat.le_refl _), Nat.sub_self]
  cases t with
  | nil => simp
  | cons a t => simp [List.cons_prefix_cons, eq_comm]
theorem prF_lt (s : ByteArray) : ∀ (f p : Nat), ∀ y ∈ prF s f p, y.1 < s.size
  | 0, _, y, h => by simp [prF] at h
  | f + 1, p, y, h => by
    rw [prF] at h
    split at h
    · rename_i hp
      rcases List.mem_cons.1 h with rfl | h
      · exact hp
      · exact prF_lt s f _ y h
    · simp at h
theorem prAt_lt {s : ByteArray} {p : Nat} {y : Nat × Int} (h : y ∈ prAt s p) : y.1 < s.size := prF_lt s _ p y h
theorem lt_six {k : Nat} (h : k ≤ 6) (h2 : ¬ k = 6) : ¬ (6 : Int) < (k : Int) + 1 ∧ k + 1 ≤ 6 := by omega
theorem ownFrom_walks {β : Type} {B : Nat} {w₀ : World} (hB : w₀.heap.size ≤ B) : OwnFrom B (fun (_ : β) W => KeepsWalks w₀ W) := by
  intro s X Y row hs hg hr
  refine ⟨Nat.le_trans hs.1 hg.size, fun r o h hw => ?_⟩
  have h1 := hs.2 r o h hw
  refine (hg.block r (Array.getElem?_eq_some_iff.1 h1).1 (fun e => ?_)).trans h1
  have := (hr r e.symm).1
  have := (Array.getElem?_eq_some_iff.1 h).1
  omega
end Gim
namespace Go.Proofs.YtbbfifaojepjiaaDoor
open Go.RowKit Go.Shelf Gim
attribute [local go_sem] Oper.semAt_some
set_option pp.deepTerms true in
set_option maxRecDepth 100000 in
set_option maxHeartbeats 8000000 in
theorem through_calls (w : World) (Bs : Nat) (s : ByteArray) (hs : s.size ≤ 1125899906842624) (hBs : Bs < w.heap.size) (hcs : w.cell? ⟨Bs, 0, none⟩ = some (.string s)) (L : List (Nat × Int)) (hL : L = prAt s 0)
    (ap : Option Addr) (n cp : Nat) (rdp : Rd w .i64 ap n cp (L.map fun x => (x.1 : Int))) (al : Option Addr) (cl : Nat) (rdl : Rd w .i32 al n cl (L.map fun x => x.2)) (most : Nat) (hm : most ≤ n) :
    Calls Tryd.prog 18 #[.func (.func 28) #[] #[.pointer (some ⟨Bs, 0, none⟩)], .slice ap n cp, .slice al n cl, .int .i64 most] w fun e w' => e = .returned (.bool true) ∧ Below w.heap.size w w' := by
  have hln : L.length = n := by have := rdp.len; simpa using this
  refine (callsIn_wide (n := 8)).1 (callsIn_of_wp_marks Tryd.func18 rfl trivial ?_ rfl)
  simp only [Tryd.ntmps18, List.size_toArray, List.length_cons, List.length_nil, Nat.reduceAdd, Nat.reduceSub, Array.replicate_succ, Array.replicate_zero, List.push_toArray, List.append_toArray, List.nil_append, List.cons_append]
  gi_wp2
  have bF := (((((Boxed.new w 37 (.func (.func 28) #[] #[.pointer (some ⟨Bs, 0, none⟩)])).alloc (.cells #[(.slice ap n cp)] 35)).alloc (.cells #[(.slice al n cl)] 36)).alloc (.cells #[(.int .i64 most)] 3)).alloc (.cells #[(.int .i64 0)] 3)).alloc (.cells #[(.bool true)] 4)
  have bP := ((((Boxed.new (w.alloc (.cells #[(.func (.func 28) #[] #[.pointer (some ⟨Bs, 0, none⟩)])] 37)) 35 (.slice ap n cp)).alloc (.cells #[(.slice al n cl)] 36)).alloc (.cells #[(.int .i64 most)] 3)).alloc (.cells #[(.int .i64 0)] 3)).alloc (.cells #[(.bool true)] 4)
  have bC := (((Boxed.new ((w.alloc (.cells #[(.func (.func 28) #[] #[.pointer (some ⟨Bs, 0, none⟩)])] 37)).alloc (.cells #[(.slice ap n cp)] 35)) 36 (.slice al n cl)).alloc (.cells #[(.int .i64 most)] 3)).alloc (.cells #[(.int .i64 0)] 3)).alloc (.cells #[(.bool true)] 4)
  have bM := ((Boxed.new (((w.alloc (.cells #[(.func (.func 28) #[] #[.pointer (some ⟨Bs, 0, none⟩)])] 37)).alloc (.cells #[(.slice ap n cp)] 35)).alloc (.cells #[(.slice al n cl)] 36)) 3 (.int .i64 most)).alloc (.cells #[(.int .i64 0)] 3)).alloc (.cells #[(.bool true)] 4)
  have bN := (Boxed.new ((((w.alloc (.cells #[(.func (.func 28) #[] #[.pointer (some ⟨Bs, 0, none⟩)])] 37)).alloc (.cells #[(.slice ap n cp)] 35)).alloc (.cells #[(.slice al n cl)] 36)).alloc (.cells #[(.int .i64 most)] 3)) 3 (.int .i64 0)).alloc (.cells #[(.bool true)] 4)
  have bO := Boxed.new (((((w.alloc (.cells #[(.func (.func 28) #[] #[.pointer (some ⟨Bs, 0, none⟩)])] 37)).alloc (.cells #[(.slice ap n cp)] 35)).alloc (.cells #[(.slice al n cl)] 36)).alloc (.cells #[(.int .i64 most)] 3)).alloc (.cells #[(.int .i64 0)] 3)) 4 (.bool true)
  simp only [World.size_alloc] at bP bC bM bN bO
  have hB0 : Below w.heap.size w _ := ((((((Below.refl _ w).alloc (by first | exact Nat.le_refl _ | (simp; omega) | simp) (.cells #[(.func (.func 28) #[] #[.pointer (some ⟨Bs, 0, none⟩)])] 37)).alloc (by first | exact Nat.le_refl _ | (simp; omega) | simp) (.cells #[(.slice ap n cp)] 35)).alloc (by first | exact Nat.le_refl _ | (simp; omega) | simp) (.cells #[(.slice al n cl)] 36)).alloc (by first | exact Nat.le_refl _ | (simp; omega) | simp) (.cells #[(.int .i64 most)] 3)).alloc (by first | exact Nat.le_refl _ | (simp; omega) | simp) (.cells #[(.int .i64 0)] 3)).alloc (by first | exact Nat.le_refl _ | (simp; omega) | simp) (.cells #[(.bool true)] 4)
  have hsz : ((((((w.alloc (.cells #[(.func (.func 28) #[] #[.pointer (some ⟨Bs, 0, none⟩)])] 37)).alloc (.cells #[(.slice ap n cp)] 35)).alloc (.cells #[(.slice al n cl)] 36)).alloc (.cells #[(.int .i64 most)] 3)).alloc (.cells #[(.int .i64 0)] 3)).alloc (.cells #[(.bool true)] 4)).heap.size = w.heap.size + 6 := by simp
  obtain ⟨W0, hW0⟩ : ∃ W0, ((((((w.alloc (.cells #[(.func (.func 28) #[] #[.pointer (some ⟨Bs, 0, none⟩)])] 37)).alloc (.cells #[(.slice ap n cp)] 35)).alloc (.cells #[(.slice al n cl)] 36)).alloc (.cells #[(.int .i64 most)] 3)).alloc (.cells #[(.int .i64 0)] 3)).alloc (.cells #[(.bool true)] 4)) = W0 := ⟨_, rfl⟩
  rw [hW0] at bF bP bC bM bN bO hB0 hsz ⊢
  clear hW0
  have rdp0 := rdp.below hB0
  have rdl0 := rdl.below hB0
  have hc0 := (hB0.cell (p := ⟨Bs, 0, none⟩) hBs).trans hcs
  apply wpIn_rangeFunc_ownH (encs := encP) (Kp := KeepsWalks) rfl (by omega) (gf := 28) (lb := #[.pointer (some ⟨Bs, 0, none⟩)]) rfl trivial (enters_of Tryd.func28 (by kernel_rfl) rfl)
    (all_stops Fence.wide 7 trivial rfl (by omega) Bs s hs W0 (by omega) hc0) walksK_t walksK_b (Below.refl _ _) (fun _ => rfl)
    (fun pre W => ((Boxed W (w.heap.size + 1 + 1 + 1 + 1) 3 (.int .i64 (pre.length : Nat)) ∧ ∃ b : Bool, Boxed W (w.heap.size + 1 + 1 + 1 + 1 + 1) 4 (.bool b) ∧ (b = true ↔ pre <+: L)) ∧ pre.length ≤ most) ∧ Below (w.heap.size + 4) W0 W)
    (fun c pre W => c = .exit 0 ∧ (Boxed W (w.heap.size + 1 + 1 + 1 + 1) 3 (.int .i64 most) ∧ ∃ b : Bool, Boxed W (w.heap.size + 1 + 1 + 1 + 1 + 1) 4 (.bool b) ∧ (pre <+: L → b = true)) ∧ Below (w.heap.size + 4) W0 W)
    (OwnFrom.and (OwnFrom.and (OwnFrom.and (Own.from (boxed_own _ _ _) _) (fun s X Y row ⟨b, h1, h2⟩ hg hr => ⟨b, boxed_own (w.heap.size + 1 + 1 + 1 + 1 + 1) _ (fun (_ : Unit) => Value.bool b) () X Y row h1 hg (fun r e => (hr r e).2), h2⟩)) (ownFrom_pure _ _)) (ownFrom_below (by omega) (by omega)))
    (fun c => OwnFrom.and (ownFrom_pure _ _) (OwnFrom.and (OwnFrom.and (Own.from (boxed_own _ _ _) _) (fun s X Y row ⟨b, h1, h2⟩ hg hr => ⟨b, boxed_own (w.heap.size + 1 + 1 + 1 + 1 + 1) _ (fun (_ : Unit) => Value.bool b) () X Y row h1 hg (fun r e => (hr r e).2), h2⟩)) (ownFrom_below (by omega) (by omega))))
    ⟨⟨⟨bN, true, bO, by simp⟩, Nat.zero_le _⟩, Below.refl _ _⟩
    (fun x a' _ => a' = { tmps := #[.func (.func 28) #[] #[.pointer (some ⟨Bs, 0, none⟩)], .slice ap n cp, .slice al n cl, .int .i64 most, .pointer (some ⟨w.heap.size, 0, none⟩), .pointer (some ⟨w.heap.size + 1, 0, none⟩), .pointer (some ⟨w.heap.size + 1 + 1, 0, none⟩), .pointer (some ⟨w.heap.size + 1 + 1 + 1, 0, none⟩), .bool false, .pointer (some ⟨w.heap.size + 1 + 1 + 1 + 1, 0, none⟩), .pointer (some ⟨w.heap.size + 1 + 1 + 1 + 1 + 1, 0, none⟩), .int .i64 ((min x.1 1125899906842624 : Nat) : Int), .int .i32 x.2, undef, undef, undef, .func (.func 28) #[] #[.pointer (some ⟨Bs, 0, none⟩)], .int .i64 ((min x.1 1125899906842624 : Nat) : Int), .int .i32 x.2, undef, undef, undef, undef, undef, undef, undef, undef, undef, undef, undef, undef, undef, undef, undef, undef, undef, undef, undef, undef, undef, undef, undef, undef, undef, undef, undef, undef, undef, undef, undef, undef, undef, undef, undef, undef, undef, undef, undef, undef, undef, undef, undef, undef, undef, undef, undef, undef, undef, undef, undef, undef, undef, undef, undef, undef, undef, undef, undef, undef, undef, undef, undef, undef, undef, undef, undef, undef], defers := [] })
    (fun _ _ _ _ _ _ hs _ _ => hs)
  case hassign =>
    rintro l pre x W K hi hK
    gi_wp2
    exact hK _ _ (KeepsFrom.refl _ _) (KeepsWalks.refl _) hi rfl
  case hbody =>
    rintro l pre ⟨i, r⟩ a' W hl ⟨r0, hr⟩ ⟨⟨⟨hN, b, hO, hb⟩, hle⟩, hB⟩ rfl hlen
    dsimp only
    obtain ⟨j, hj⟩ : ∃ j, Hid (j = min i 1125899906842624) := ⟨_, Lib.hid rfl⟩
    rw [← show j = min i 1125899906842624 from hj]
    obtain ⟨m, hmm⟩ : ∃ m, Hid (m = pre.length) := ⟨_, Lib.hid rfl⟩
    have hmm' : m = pre.length := hmm
    rw [← hmm'] at hN hle
    clear hmm'
    have cN := hN.cell
    have fN := hN.frozen
    have cO := hO.cell
    have fO := hO.frozen
    have cM := (hB.cell (p := ⟨w.heap.size + 1 + 1 + 1, 0, none⟩) (by show w.heap.size + 1 + 1 + 1 < w.heap.size + 4; omega)).trans bM.cell
    have cP := (hB.cell (p := ⟨w.heap.size + 1, 0, none⟩) (by show w.heap.size + 1 < w.heap.size + 4; omega)).trans bP.cell
    have cC := (hB.cell (p := ⟨w.heap.size + 1 + 1, 0, none⟩) (by show w.heap.size + 1 + 1 < w.heap.size + 4; omega)).trans bC.cell
    have cF := (hB.cell (p := ⟨w.heap.size, 0, none⟩) (by show w.heap.size < w.heap.size + 4; omega)).trans bF.cell
    by_cases hmo : most ≤ m
    · obtain rfl : m = most := by omega
      clear cP cC cF cO fO
      gi_wp2
      exact ⟨KeepsFrom.refl _ _, rfl, ⟨hN, b, hO, fun hp => hb.2 ((List.prefix_append _ _).trans hp)⟩, hB⟩
    · have hlt : m < most := by omega
      have hlt' : (m : Int) < most := by omega
      have hmn : m < n := by omega
      have hmn' : (m : Int) < n := by omega
      gi_upto_region 7 with fail
      have hmL : m < L.length := by omega
      obtain ⟨b1, o1, rfl, hb1, hcb⟩ := (rdp.below (hB0.trans (hB.mono (by omega)))).cell m hmn
      obtain ⟨b2, o2, rfl, hb2, hcb2⟩ := (rdl.below (hB0.trans (hB.mono (by omega)))).cell m hmn
      gi_cut [] from 22 (fun wx => ∃ b', wx = W.setCell ⟨w.heap.size + 1 + 1 + 1 + 1 + 1, 0, none⟩ (.bool b') ∧ Hid (b' = true ↔ pre ++ [(i, r)] <+: L))
      case first =>
        have k1 := hcb m hmn
        have k2 := hcb2 m hmn
        have hg1 : gt (L.map fun x => (x.1 : Int)) m = ((L[m]).1 : Int) := by rw [gt_lt (by rw [List.length_map]; exact hmL), List.getElem_map]
        have hg2 : gt (L.map fun x => x.2) m = (L[m]).2 := by rw [gt_lt (by rw [List.length_map]; exact hmL), List.getElem_map]
        rw [hg1] at k1
        rw [hg2] at k2
        have hyl := prAt_lt (s := s) (p := 0) (y := L[m]) (by rw [← hL]; exact List.getElem_mem _)
        have hps : L[m]? = some L[m] := List.getElem?_eq_getElem hmL
        obtain ⟨y, hy0⟩ : ∃ y, y = L[m] := ⟨_, rfl⟩
        rw [← hy0] at k1 k2 hyl hps
        obtain ⟨y1, y2⟩ := y
        simp only [] at k1 k2 hyl
        have hcle := rdp0.le
        have hclm := rdp0.cap_le
        have hlle := rdl0.le
        have hllm := rdl0.cap_le
        clear hcb hcb2 hg1 hg2 hy0 cM cF
        have hpx : pre <+: L → (pre ++ [(i, r)] <+: L ↔ (y1, y2) = (i, r)) := fun hp => by
          rw [prefix_snoc hp, ← show m = pre.length from hmm, hps]
          simp
        cases b
        · have HNO := Lib.hid (show (false = true ↔ pre ++ [(i, r)] <+: L) from ⟨fun h => (by cases h), fun h => hb.2 ((List.prefix_append _ _).trans h)⟩)
          clear hpx hb
          gi_wp2
          gi_meet
          case rel => exact ⟨false, rfl, HNO⟩
        · have hp := hb.1 rfl
          have hpx := hpx hp
          by_cases h1 : y1 = j
          · by_cases h2 : y2 = r
            · have HYES := Lib.hid (show pre ++ [(i, r)] <+: L from hpx.2 (by rw [show y1 = i by have : j = min i 1125899906842624 := hj; omega, h2]))
              subst h1
              subst h2
              clear hpx hb
              gi_wp2
              gi_meet
              case rel => exact ⟨true, rfl, Lib.hid ⟨fun _ => HYES, fun _ => rfl⟩⟩
            · have HNO := Lib.hid (show (false = true ↔ pre ++ [(i, r)] <+: L) from ⟨fun h => (by cases h), fun h => absurd (Prod.mk.inj (hpx.1 h)).2 h2⟩)
              have hb2' : (y2 == r) = false := beq_eq_false_iff_ne.2 h2
              subst h1
              clear hpx hb
              gi_wp2
              gi_meet
              case rel => exact ⟨false, rfl, HNO⟩
          · have HNO := Lib.hid (show (false = true ↔ pre ++ [(i, r)] <+: L) from ⟨fun h => (by cases h), fun h => absurd (Prod.mk.inj (hpx.1 h)).1 (by have : j = min i 1125899906842624 := hj; omega)⟩)
            have hb1' : (((y1 : Nat) : Int) == (j : Int)) = false := beq_eq_false_iff_ne.2 (by omega)
            clear hpx hb
            gi_wp2
            gi_meet
            case rel => exact ⟨false, rfl, HNO⟩
      case rest =>
      obtain ⟨b', rfl, hb'⟩ := hcut
      have fin : ∀ W' : World, Boxed W' (w.heap.size + 1 + 1 + 1 + 1) 3 (.int .i64 (m : Nat)) → (∃ b : Bool, Boxed W' (w.heap.size + 1 + 1 + 1 + 1 + 1) 4 (.bool b) ∧ (b = true ↔ pre ++ [(i, r)] <+: L)) → Below (w.heap.size + 4) W W' → KeepsFrom W0.heap.size W W' → KeepsWalks W W' →
          KeepsFrom W0.heap.size W (W'.setCell ⟨w.heap.size + 1 + 1 + 1 + 1, 0, none⟩ (.int .i64 ((m : Int) + 1))) ∧ KeepsWalks W (W'.setCell ⟨w.heap.size + 1 + 1 + 1 + 1, 0, none⟩ (.int .i64 ((m : Int) + 1))) ∧
          ((Boxed (W'.setCell ⟨w.heap.size + 1 + 1 + 1 + 1, 0, none⟩ (.int .i64 ((m : Int) + 1))) (w.heap.size + 1 + 1 + 1 + 1) 3 (.int .i64 ((pre ++ [(i, r)]).length : Nat)) ∧ ∃ b : Bool, Boxed (W'.setCell ⟨w.heap.size + 1 + 1 + 1 + 1, 0, none⟩ (.int .i64 ((m : Int) + 1))) (w.heap.size + 1 + 1 + 1 + 1 + 1) 4 (.bool b) ∧ (b = true ↔ pre ++ [(i, r)] <+: L)) ∧ (pre ++ [(i, r)]).length ≤ most) ∧ Below (w.heap.size + 4) W0 (W'.setCell ⟨w.heap.size + 1 + 1 + 1 + 1, 0, none⟩ (.int .i64 ((m : Int) + 1))) := by
        rintro W' h1 ⟨b, h2, h3⟩ h4 h5 h6
        have hmm' : m = pre.length := hmm
        have hln' : (pre ++ [(i, r)]).length = m + 1 := by simp [hmm']
        rw [hln']
        exact ⟨h5.trans ((KeepsOthers.setCell _ _ _).from _), h6.trans (KeepsWalks.setCell _ _ _), ⟨⟨h1.set _, b, h2.other (by omega) _, h3⟩, by omega⟩, (hB.trans h4).setCell (p := ⟨w.heap.size + 1 + 1 + 1 + 1, 0, none⟩) (by show w.heap.size + 4 ≤ w.heap.size + 1 + 1 + 1 + 1; omega) _⟩
      have hN1 := hN.other (B' := w.heap.size + 1 + 1 + 1 + 1 + 1) (by omega) (.bool b')
      have hO1 := hO.set (.bool b')
      have hBW := (Below.refl (w.heap.size + 4) W).setCell (p := ⟨w.heap.size + 1 + 1 + 1 + 1 + 1, 0, none⟩) (by show w.heap.size + 4 ≤ w.heap.size + 1 + 1 + 1 + 1 + 1; omega) (.bool b')
      have hKF : KeepsFrom W0.heap.size W (W.setCell ⟨w.heap.size + 1 + 1 + 1 + 1 + 1, 0, none⟩ (.bool b')) := (KeepsOthers.setCell _ _ _).from _
      have hKW : KeepsWalks W (W.setCell ⟨w.heap.size + 1 + 1 + 1 + 1 + 1, 0, none⟩ (.bool b')) := KeepsWalks.setCell _ _ _
      have hrl := hKF.same l _ hl hr rfl
      have hsw : W0.heap.size ≤ W.heap.size := hB.size
      clear cN fN cO fO cM cP cC cF hcb hcb2 hb hN hO hr
      obtain ⟨W1, hW1⟩ : ∃ W1, W.setCell ⟨w.heap.size + 1 + 1 + 1 + 1 + 1, 0, none⟩ (.bool b') = W1 := ⟨_, rfl⟩
      rw [hW1] at hN1 hO1 hBW hKF hKW hrl ⊢
      clear hW1
      have hB1 := hB.trans hBW
      have cN := hN1.cell
      have fN := hN1.frozen
      have cM := (hB1.cell (p := ⟨w.heap.size + 1 + 1 + 1, 0, none⟩) (by show w.heap.size + 1 + 1 + 1 < w.heap.size + 4; omega)).trans bM.cell
      have cP := (hB1.cell (p := ⟨w.heap.size + 1, 0, none⟩) (by show w.heap.size + 1 < w.heap.size + 4; omega)).trans bP.cell
      have cC := (hB1.cell (p := ⟨w.heap.size + 1 + 1, 0, none⟩) (by show w.heap.size + 1 + 1 < w.heap.size + 4; omega)).trans bC.cell
      have cF := (hB1.cell (p := ⟨w.heap.size, 0, none⟩) (by show w.heap.size < w.heap.size + 4; omega)).trans bF.cell
      have hcle := rdp0.le
      have hclm := rdp0.cap_le
      obtain ⟨q, hq⟩ : ∃ q : Nat, Hid (q = most / 2) := ⟨_, Lib.hid rfl⟩
      have hw2 : wrap64 ((most : Int) / 2) = (q : Int) := by have hq2 : q = most / 2 := hq; unfold wrap64; simp only [maxLen] at hclm; omega
      have hqm : q < maxLen := by have : q = most / 2 := hq; omega
      have hm1 : wrap64 ((m : Int) + 1) = (m : Int) + 1 := by unfold wrap64; simp only [maxLen] at hclm; omega
      by_cases hmid : m = q
      · subst hmid
        have hB2 : Below (w.heap.size + 4) W0 (W1.alloc (.cells #[.int .i64 0] 3)) := hB1.alloc (by have := hB1.size; omega) _
        have cF2 := (hB2.cell (p := ⟨w.heap.size, 0, none⟩) (by show w.heap.size < w.heap.size + 4; omega)).trans bF.cell
        gi_wp2
        have bK := Boxed.new W1 3 (.int .i64 0)
        have hs2 : (W1.alloc (.cells #[.int .i64 0] 3)).heap.size = W1.heap.size + 1 := by simp
        have hKF2 : KeepsFrom W0.heap.size W (W1.alloc (.cells #[.int .i64 0] 3)) := hKF.trans ((KeepsOthers.alloc _ _).from _)
        have hKW2 : KeepsWalks W (W1.alloc (.cells #[.int .i64 0] 3)) := hKW.trans (KeepsWalks.alloc _ _)
        have hBW2 : Below (w.heap.size + 4) W (W1.alloc (.cells #[.int .i64 0] 3)) := hBW.alloc (by have := hB1.size; omega) _
        have hN2 := hN1.alloc (.cells #[.int .i64 0] 3)
        have hO2 := hO1.alloc (.cells #[.int .i64 0] 3)
        have hsz1 : W0.heap.size ≤ W1.heap.size := hB1.size
        have hWs := hKF2.size
        have hrl2 := ((KeepsOthers.alloc W1 (.cells #[.int .i64 0] 3)).from W0.heap.size).same l _ hl hrl rfl
        have hc2 := (hB2.cell (p := ⟨Bs, 0, none⟩) (by show Bs < w.heap.size + 4; omega)).trans hc0
        obtain ⟨kB, hkB⟩ : ∃ kB, W1.heap.size = kB := ⟨_, rfl⟩
        obtain ⟨W2, hW2⟩ : ∃ W2, W1.alloc (.cells #[.int .i64 0] 3) = W2 := ⟨_, rfl⟩
        rw [hW2] at bK hs2 hWs hKF2 hKW2 hBW2 hN2 hO2 hrl2 hc2 hB2 cF2 ⊢
        rw [hkB] at bK hs2 hsz1 ⊢
        clear hW2 cN fN cM cP cC cF
        refine wpIn_rangeFunc_ownN (encs := encP) (Kp := KeepsWalks) (l₀ := l) (r₀ := r0) rfl hrl2 (by omega) (gf := 28) (lb := #[.pointer (some ⟨Bs, 0, none⟩)]) rfl trivial (enters_of Tryd.func28 (by kernel_rfl) rfl)
          ((all_stops Fence.wide 5 trivial rfl (by omega) Bs s hs W2 (by omega) hc2).inRound l) walksK_t walksK_b (Below.refl _ _) (fun _ => rfl)
          (fun pre2 W' => (((Boxed W' kB 3 (.int .i64 (pre2.length : Nat)) ∧ ∃ b2 : Bool, Boxed W' (w.heap.size + 1 + 1 + 1 + 1 + 1) 4 (.bool b2) ∧ (b2 = true ↔ pre ++ [(i, r)] <+: L ∧ pre2 <+: L)) ∧ Boxed W' (w.heap.size + 1 + 1 + 1 + 1) 3 (.int .i64 (m : Nat))) ∧ pre2.length ≤ 6) ∧ (Below (w.heap.size + 4) W W' ∧ KeepsFrom W0.heap.size W W' ∧ KeepsWalks W W'))
          (fun c pre2 W' => c = .exit 2 ∧ ((∃ b2 : Bool, Boxed W' (w.heap.size + 1 + 1 + 1 + 1 + 1) 4 (.bool b2) ∧ (b2 = true ↔ pre ++ [(i, r)] <+: L ∧ pre2 <+: L)) ∧ Boxed W' (w.heap.size + 1 + 1 + 1 + 1) 3 (.int .i64 (m : Nat))) ∧ (Below (w.heap.size + 4) W W' ∧ KeepsFrom W0.heap.size W W' ∧ KeepsWalks W W'))
          (OwnFrom.and (OwnFrom.and (OwnFrom.and (OwnFrom.and (Own.from (boxed_own _ _ _) _) (fun s X Y row ⟨b, h1, h2⟩ hg hr => ⟨b, boxed_own (w.heap.size + 1 + 1 + 1 + 1 + 1) _ (fun (_ : Unit) => Value.bool b) () X Y row h1 hg (fun r e => (hr r e).2), h2⟩)) (Own.from (boxed_own _ _ _) _)) (ownFrom_pure _ _)) (OwnFrom.and (ownFrom_below (by omega) (by omega)) (OwnFrom.and (ownFrom_keepsFrom (by omega)) (ownFrom_walks (by omega)))))
          (fun c => OwnFrom.and (ownFrom_pure _ _) (OwnFrom.and (OwnFrom.and (fun s X Y row ⟨b, h1, h2⟩ hg hr => ⟨b, boxed_own (w.heap.size + 1 + 1 + 1 + 1 + 1) _ (fun (_ : Unit) => Value.bool b) () X Y row h1 hg (fun r e => (hr r e).2), h2⟩) (Own.from (boxed_own _ _ _) _)) (OwnFrom.and (ownFrom_below (by omega) (by omega)) (OwnFrom.and (ownFrom_keepsFrom (by omega)) (ownFrom_walks (by omega))))))
          ⟨⟨⟨⟨bK, b', hO2, by rw [show (b' = true ↔ _) from hb']; simp⟩, hN2⟩, by simp⟩, hBW2, hKF2, hKW2⟩
          (fun y a'' _ => a'' = { tmps := #[.func (.func 28) #[] #[.pointer (some ⟨Bs, 0, none⟩)], .slice (some ⟨b1, o1, none⟩) n cp, .slice (some ⟨b2, o2, none⟩) n cl, .int .i64 most, .pointer (some ⟨w.heap.size, 0, none⟩), .pointer (some ⟨w.heap.size + 1, 0, none⟩), .pointer (some ⟨w.heap.size + 1 + 1, 0, none⟩), .pointer (some ⟨w.heap.size + 1 + 1 + 1, 0, none⟩), .bool false, .pointer (some ⟨w.heap.size + 1 + 1 + 1 + 1, 0, none⟩), .pointer (some ⟨w.heap.size + 1 + 1 + 1 + 1 + 1, 0, none⟩), .int .i64 j, .int .i32 r, .pointer (some ⟨kB, 0, none⟩), .int .i64 ((min y.1 1125899906842624 : Nat) : Int), .int .i32 y.2, .func (.func 28) #[] #[.pointer (some ⟨Bs, 0, none⟩)], .int .i64 j, .int .i32 r, .int .i64 m, .int .i64 most, .bool false, u22, u23, u24, u25, u26, u27, u28, u29, u30, u31, u32, u33, u34, u35, u36, u37, u38, u39, u40, u41, u42, u43, u44, .int .i64 m, .int .i64 most, .int .i64 m, .bool true, .func (.func 28) #[] #[.pointer (some ⟨Bs, 0, none⟩)], .int .i64 ((min y.1 1125899906842624 : Nat) : Int), .int .i32 y.2, u52, u53, u54, u55, u56, u57, u58, u59, u60, u61, u62, u63, u64, u65, u66, u67, u68, u69, u70, u71, u72, u73, u74, u75, u76, u77, u78, u79, u80, u81, u82, u83, u84, u85, u86], defers := [] })
          (fun _ _ _ _ _ _ hs _ _ => hs) ?assign2 ?body2 ?done2 ?stop2
        case assign2 =>
          rintro l2 pre2 y W' K hi hK
          gi_wp2
          exact hK _ _ (KeepsFrom.refl _ _) (KeepsWalks.refl _) hi rfl
        case body2 =>
          rintro l2 pre2 ⟨i2, t2⟩ a'' W' hl2 ⟨r2, hr2⟩ ⟨⟨⟨⟨hK2, b2, hO3, hb2⟩, hN3⟩, hl6⟩, hBW3, hKF3, hKW3⟩ rfl hlen2
          generalize hQ : ownPostG _ _ _ _ _ _ = Q
          replace hQ := Lib.hid hQ
          dsimp only
          obtain ⟨jj, hjj⟩ : ∃ jj, Hid (jj = min i2 1125899906842624) := ⟨_, Lib.hid rfl⟩
          rw [← show jj = min i2 1125899906842624 from hjj]
          obtain ⟨k, hkk⟩ : ∃ k, Hid (k = pre2.length) := ⟨_, Lib.hid rfl⟩
          have hkk' : k = pre2.length := hkk
          have hkn : k < n := by rw [hkk', ← hln, hL]; exact hlen2
          have hkL : k < L.length := by omega
          have hkn' : (k : Int) < n := by omega
          have hk6 : k ≤ 6 := by omega
          rw [← hkk'] at hK2
          clear hkk'
          have hB3 := hB.trans hBW3
          have cO := hO3.cell
          have fO := hO3.frozen
          have cK := hK2.cell
          have fK := hK2.frozen
          have cP := (hB3.cell (p := ⟨w.heap.size + 1, 0, none⟩) (by show w.heap.size + 1 < w.heap.size + 4; omega)).trans bP.cell
          have cC := (hB3.cell (p := ⟨w.heap.size + 1 + 1, 0, none⟩) (by show w.heap.size + 1 + 1 < w.heap.size + 4; omega)).trans bC.cell
          obtain ⟨b1', o1', hpe, hb1, hcb⟩ := (rdp.below (hB0.trans (hB3.mono (by omega)))).cell k hkn
          obtain ⟨b2', o2', hpe2, hb2', hcb2⟩ := (rdl.below (hB0.trans (hB3.mono (by omega)))).cell k hkn
          cases hpe
          cases hpe2
          gi_upto_region 13 with fail
          gi_cut [] from 52 (fun wx => ∃ b', wx = W'.setCell ⟨w.heap.size + 1 + 1 + 1 + 1 + 1, 0, none⟩ (.bool b') ∧ Hid (b' = true ↔ pre ++ [(i, r)] <+: L ∧ pre2 ++ [(i2, t2)] <+: L))
          case first =>
            have k1 := hcb k hkn
            have k2 := hcb2 k hkn
            have hg1 : gt (L.map fun x => (x.1 : Int)) k = ((L[k]).1 : Int) := by rw [gt_lt (by rw [List.length_map]; exact hkL), List.getElem_map]
            have hg2 : gt (L.map fun x => x.2) k = (L[k]).2 := by rw [gt_lt (by rw [List.length_map]; exact hkL), List.getElem_map]
            rw [hg1] at k1
            rw [hg2] at k2
            have hyl := prAt_lt (s := s) (p := 0) (y := L[k]) (by rw [← hL]; exact List.getElem_mem _)
            have hps : L[k]? = some L[k] := List.getElem?_eq_getElem hkL
            obtain ⟨y, hy0⟩ : ∃ y, y = L[k] := ⟨_, rfl⟩
            rw [← hy0] at k1 k2 hyl hps
            obtain ⟨y1, y2⟩ := y
            simp only [] at k1 k2 hyl
            have hlle := rdl0.le
            have hllm := rdl0.cap_le
            clear hcb hcb2 hg1 hg2 hy0
            have hpx : pre2 <+: L → (pre2 ++ [(i2, t2)] <+: L ↔ (y1, y2) = (i2, t2)) := fun hp => by
              rw [prefix_snoc hp, ← show k = pre2.length from hkk, hps]
              simp
            cases b2
            · have HNO := Lib.hid (show (false = true ↔ pre ++ [(i, r)] <+: L ∧ pre2 ++ [(i2, t2)] <+: L) from ⟨fun h => (by cases h), fun h => hb2.2 ⟨h.1, (List.prefix_append _ _).trans h.2⟩⟩)
              clear hpx hb2
              gi_wp2
              gi_meet
              case rel => exact ⟨false, rfl, HNO⟩
            · have hp := hb2.1 rfl
              have hpx := hpx hp.2
              by_cases h1 : y1 = jj
              · by_cases h2 : y2 = t2
                · have HYES := Lib.hid (show pre ++ [(i, r)] <+: L ∧ pre2 ++ [(i2, t2)] <+: L from ⟨hp.1, hpx.2 (by rw [show y1 = i2 by have : jj = min i2 1125899906842624 := hjj; omega, h2])⟩)
                  subst h1
                  subst h2
                  clear hpx hb2 hp
                  gi_wp2
                  gi_meet
                  case rel => exact ⟨true, rfl, Lib.hid ⟨fun _ => HYES, fun _ => rfl⟩⟩
                · have HNO := Lib.hid (show (false = true ↔ pre ++ [(i, r)] <+: L ∧ pre2 ++ [(i2, t2)] <+: L) from ⟨fun h => (by cases h), fun h => absurd (Prod.mk.inj (hpx.1 h.2)).2 h2⟩)
                  have hb2x : (y2 == t2) = false := beq_eq_false_iff_ne.2 h2
                  subst h1
                  clear hpx hb2 hp
                  gi_wp2
                  gi_meet
                  case rel => exact ⟨false, rfl, HNO⟩
              · have HNO := Lib.hid (show (false = true ↔ pre ++ [(i, r)] <+: L ∧ pre2 ++ [(i2, t2)] <+: L) from ⟨fun h => (by cases h), fun h => absurd (Prod.mk.inj (hpx.1 h.2)).1 (by have : jj = min i2 1125899906842624 := hjj; omega)⟩)
                have hb1x : (((y1 : Nat) : Int) == (jj : Int)) = false := beq_eq_false_iff_ne.2 (by omega)
                clear hpx hb2 hp
                gi_wp2
                gi_meet
                case rel => exact ⟨false, rfl, HNO⟩
          case rest =>
          obtain ⟨b'', rfl, hb''⟩ := hcut
          have hK4 := hK2.other (B' := w.heap.size + 1 + 1 + 1 + 1 + 1) (by omega) (.bool b'')
          have hN4 := hN3.other (B' := w.heap.size + 1 + 1 + 1 + 1 + 1) (by omega) (.bool b'')
          have hO4 := hO3.set (.bool b'')
          have hBW4 := hBW3.setCell (p := ⟨w.heap.size + 1 + 1 + 1 + 1 + 1, 0, none⟩) (by show w.heap.size + 4 ≤ w.heap.size + 1 + 1 + 1 + 1 + 1; omega) (.bool b'')
          have hKF4 : KeepsFrom W0.heap.size W (W'.setCell ⟨w.heap.size + 1 + 1 + 1 + 1 + 1, 0, none⟩ (.bool b'')) := hKF3.trans ((KeepsOthers.setCell _ _ _).from _)
          have hKW4 : KeepsWalks W (W'.setCell ⟨w.heap.size + 1 + 1 + 1 + 1 + 1, 0, none⟩ (.bool b'')) := hKW3.trans (KeepsWalks.setCell _ _ _)
          have hgo : ∀ (W5 : World), W5 = W'.setCell ⟨w.heap.size + 1 + 1 + 1 + 1 + 1, 0, none⟩ (.bool b'') → KeepsFrom W2.heap.size W' (W5.setCell ⟨kB, 0, none⟩ (.int .i64 ((k : Int) + 1))) ∧ KeepsWalks W' (W5.setCell ⟨kB, 0, none⟩ (.int .i64 ((k : Int) + 1))) := by
            rintro W5 rfl
            exact ⟨((KeepsOthers.setCell _ _ _).from _ : KeepsFrom W2.heap.size W' (W'.setCell ⟨w.heap.size + 1 + 1 + 1 + 1 + 1, 0, none⟩ (.bool b''))).trans ((KeepsOthers.setCell _ _ _).from _), (KeepsWalks.setCell _ _ _).trans (KeepsWalks.setCell _ _ _)⟩
          have hgo := hgo _ rfl
          clear cO fO cK fK cP cC hcb hcb2 hb2 hK2 hN3 hO3
          obtain ⟨W5, hW5⟩ : ∃ W5, W'.setCell ⟨w.heap.size + 1 + 1 + 1 + 1 + 1, 0, none⟩ (.bool b'') = W5 := ⟨_, rfl⟩
          rw [hW5] at hK4 hN4 hO4 hBW4 hKF4 hKW4 hgo ⊢
          clear hW5
          have hkk' : k = pre2.length := hkk
          have hln2 : (pre2 ++ [(i2, t2)]).length = k + 1 := by simp [hkk']
          have I4 : (((Boxed (W5.setCell ⟨kB, 0, none⟩ (.int .i64 ((k : Int) + 1))) kB 3 (.int .i64 ((pre2 ++ [(i2, t2)]).length : Nat)) ∧ ∃ b2 : Bool, Boxed (W5.setCell ⟨kB, 0, none⟩ (.int .i64 ((k : Int) + 1))) (w.heap.size + 1 + 1 + 1 + 1 + 1) 4 (.bool b2) ∧ (b2 = true ↔ pre ++ [(i, r)] <+: L ∧ pre2 ++ [(i2, t2)] <+: L)) ∧ Boxed (W5.setCell ⟨kB, 0, none⟩ (.int .i64 ((k : Int) + 1))) (w.heap.size + 1 + 1 + 1 + 1) 3 (.int .i64 (m : Nat)))) ∧ (Below (w.heap.size + 4) W (W5.setCell ⟨kB, 0, none⟩ (.int .i64 ((k : Int) + 1))) ∧ KeepsFrom W0.heap.size W (W5.setCell ⟨kB, 0, none⟩ (.int .i64 ((k : Int) + 1))) ∧ KeepsWalks W (W5.setCell ⟨kB, 0, none⟩ (.int .i64 ((k : Int) + 1)))) := by
            rw [hln2]
            exact ⟨⟨⟨hK4.set _, b'', hO4.other (by omega) _, hb''⟩, hN4.other (by omega) _⟩, hBW4.setCell (p := ⟨kB, 0, none⟩) (by show w.heap.size + 4 ≤ kB; omega) _, hKF4.trans ((KeepsOthers.setCell _ _ _).from _), hKW4.trans (KeepsWalks.setCell _ _ _)⟩
          have cK := hK4.cell
          have fK := hK4.frozen
          clear hkk'
          have hk1 : wrap64 ((k : Int) + 1) = (k : Int) + 1 := by unfold wrap64; omega
          by_cases hk5 : k = 6
          · subst hk5
            gi_wp2
            have hQ' : _ = Q := hQ
            subst hQ'
            exact ⟨hgo.1, rfl, ⟨I4.1.1.2, I4.1.2⟩, I4.2⟩
          · have hk7 : ¬ (6 : Int) < (k : Int) + 1 := (lt_six hk6 hk5).1
            gi_wp2
            have hQ' : _ = Q := hQ
            subst hQ'
            exact ⟨hgo.1, hgo.2, ⟨⟨I4.1.1, I4.1.2⟩, by rw [hln2]; exact (lt_six hk6 hk5).2⟩, I4.2⟩
        case done2 =>
          rintro ys W' hys ⟨⟨⟨⟨hK2, b2, hO3, hb2⟩, hN3⟩, hl6⟩, hBW3, hKF3, hKW3⟩
          have cN := hN3.cell
          have fN := hN3.frozen
          gi_wp2
          refine fin W' hN3 ⟨b2, hO3, ?_⟩ hBW3 hKF3 hKW3
          rw [hb2, hL, show ys = prAt s 0 from hys]
          simp
        case stop2 =>
          rintro c pre2 W' hp ⟨rfl, ⟨⟨b2, hO3, hb2⟩, hN3⟩, hBW3, hKF3, hKW3⟩
          have cN := hN3.cell
          have fN := hN3.frozen
          gi_wp2
          refine fin W' hN3 ⟨b2, hO3, ?_⟩ hBW3 hKF3 hKW3
          rw [hb2]
          exact ⟨fun h => h.1, fun h => ⟨h, by rw [hL]; exact hp⟩⟩
      · have hmid' : ((m : Int) == (q : Int)) = false := beq_eq_false_iff_ne.2 (fun h => hmid (Int.ofNat_inj.1 h))
        gi_wp2
        
        exact fin W1 hN1 ⟨b', hO1, hb'⟩ hBW hKF hKW
  case hdone =>
    rintro D ys W hD rfl ⟨⟨⟨hN, b, hO, hb⟩, hle⟩, hB⟩ hK
    obtain rfl : b = true := hb.2 (by rw [hL]; exact List.prefix_refl _)
    have hll : (prAt s 0).length = most := by rw [← hL, hln] at hle ⊢; omega
    rw [hll] at hN
    have cN := hN.cell
    have cO := hO.cell
    have cM := (hB.cell (p := ⟨w.heap.size + 1 + 1 + 1, 0, none⟩) (by show w.heap.size + 1 + 1 + 1 < w.heap.size + 4; omega)).trans bM.cell
    have hBw := hB0.trans (hB.mono (by omega))
    clear hN hO hb hle hll
    gi_wp2
    refine ⟨by simp, .inl ⟨_, _, rfl, run_takeDeferred hK, ?_⟩⟩
    exact ⟨_, results_tmp rfl _ _ _, rfl, hBw.trans (belowK_b (w := w) (Nat.le_refl _) W D _ _ (by omega) hK rfl rfl)⟩
  case hstop =>
    rintro D c pre W hD hp ⟨rfl, ⟨hN, b, hO, hb⟩, hB⟩ hK
    obtain rfl : b = true := hb (by rw [hL]; exact hp)
    have cN := hN.cell
    have cO := hO.cell
    have cM := (hB.cell (p := ⟨w.heap.size + 1 + 1 + 1, 0, none⟩) (by show w.heap.size + 1 + 1 + 1 < w.heap.size + 4; omega)).trans bM.cell
    have hBw := hB0.trans (hB.mono (by omega))
    clear hN hO hb
    gi_wp2
    refine ⟨by simp, .inl ⟨_, _, rfl, run_takeDeferred hK, ?_⟩⟩
    exact ⟨_, results_tmp rfl _ _ _, rfl, hBw.trans (belowK_b (w := w) (Nat.le_refl _) W D _ _ (by omega) hK rfl rfl)⟩
end Go.Proofs.YtbbfifaojepjiaaDoor
