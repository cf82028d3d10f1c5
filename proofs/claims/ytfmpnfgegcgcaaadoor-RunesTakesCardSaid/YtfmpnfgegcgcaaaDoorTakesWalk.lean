/- The walk of gimletlaw01.takes: a Decoder and the document's, one byte more. -/
import Derived.Test.YtfmpnfgegcgcaaaDoorRefTakeWalk
import Derived.Test.YtfmpnfgegcgcaaaDoorRefLaw2
namespace Gim
open Go Go.Lib Go.RowKit
theorem frontB_fst {t : List Int} {k n : Nat} (h : frontB t 0 = (k, n)) : k ≤ t.length := by
  by_cases hn : n = 0
  · subst hn
    rw [frontB_zero h]
    omega
  · obtain ⟨_, h1, hs⟩ := frontB_some h hn
    by_cases hk : k = 1
    · omega
    · have := hs.lo
      have := (hs.fit (k - 1) (by omega) (by omega)).1
      omega
theorem decB_lt (xs : List Int) (hb : ∀ j, bn xs j < 256) : (decB xs).1 ≤ 2097151 := by
  have h0 := hb 0
  unfold decB decodeN
  repeat' split
  all_goals simp only []
  all_goals omega
end Gim
namespace Go.Proofs.YtfmpnfgegcgcaaaDoor
open Go.RowKit Gim
theorem DecL.fr {p : Nat → Prop} {w w' : World} {B D : Nat} {v : Value} {xs : List Int} (h : DecL w B D v xs) (hf : Fr p w w') (hD : ¬ p D) (ho : ∀ g, v.ownBlock = some g → ¬ p g) : DecL w' B D v xs :=
  ⟨(hf.block D (Array.getElem?_eq_some_iff.1 h.hD).1 hD).trans h.hD, h.row.fr hf ho, h.lt, Nat.le_trans h.le hf.size⟩
theorem RefL.fr {p : Nat → Prop} {w w' : World} {B M : Nat} {v : Value} {xs : List Int} (h : RefL w B M v xs) (hf : Fr p w w') (hD : ¬ p M) (ho : ∀ g, v.ownBlock = some g → ¬ p g) : RefL w' B M v xs :=
  ⟨(hf.block M (Array.getElem?_eq_some_iff.1 h.hM).1 hD).trans h.hM, h.row.fr hf ho, h.lt, Nat.le_trans h.le hf.size⟩
theorem DecD.fr {p : Nat → Prop} {w w' : World} {D n : Nat} (h : DecD w D n) (hf : Fr p w w') (hD : ¬ p D) : DecD w' D n := by
  obtain ⟨ao, cp, h⟩ := h
  exact ⟨ao, cp, (hf.block D (Array.getElem?_eq_some_iff.1 h).1 hD).trans h⟩
theorem RefD.fr {p : Nat → Prop} {w w' : World} {D n : Nat} (h : RefD w D n) (hf : Fr p w w') (hD : ¬ p D) : RefD w' D n := by
  obtain ⟨ao, cp, h⟩ := h
  exact ⟨ao, cp, (hf.block D (Array.getElem?_eq_some_iff.1 h).1 hD).trans h⟩
/-- a Decoder and the document's that have taken the same -/
inductive St (w : World) (B D M : Nat) (o1 o2 : Option Nat) : Prop
  | live (xs : List Int) (v1 v2 : Value) (h1 : DecL w B D v1 xs) (h2 : RefL w B M v2 xs) (e1 : v1.ownBlock = o1) (e2 : v2.ownBlock = o2) (ap : ∀ g, o1 = some g → o2 ≠ some g) (hw : Waits xs) (hb : ∀ x ∈ xs, 0 ≤ x ∧ x ≤ 255)
  | dead (n : Nat) (h1 : DecD w D n) (h2 : RefD w M n) (e1 : o1 = none) (e2 : o2 = none)
theorem St.fr {p : Nat → Prop} {w w' : World} {B D M : Nat} {o1 o2 : Option Nat} (h : St w B D M o1 o2) (hf : Fr p w w') (hD : ¬ p D) (hM : ¬ p M) (h1 : ∀ g, o1 = some g → ¬ p g) (h2 : ∀ g, o2 = some g → ¬ p g) : St w' B D M o1 o2 := by
  rcases h with ⟨xs, v1, v2, a, b, e1, e2, ap, hw, hb⟩ | ⟨n, a, b, e1, e2⟩
  · exact .live xs v1 v2 (a.fr hf hD (fun g hg => h1 g (e1 ▸ hg))) (b.fr hf hM (fun g hg => h2 g (e2 ▸ hg))) e1 e2 ap hw hb
  · exact .dead n (a.fr hf hD) (b.fr hf hM) e1 e2
theorem St.drewN {w : World} {B D M : Nat} {o1 o2 : Option Nat} (h : St w B D M o1 o2) (n : Nat) : St (w.drewN n) B D M o1 o2 :=
  h.fr (p := fun _ => False) ((Fr.refl _ w).drewN n) id id (fun _ _ => id) (fun _ _ => id)
set_option maxHeartbeats 1000000 in
theorem refTakeD_calls (w : World) (M n : Nat) (x : Int) (h : RefD w M n) : Calls Tryd.prog 67 #[.pointer (some ⟨M, 0, none⟩), .int .u8 x] w fun e w' => e = .returned (.tuple #[.int .i64 0, .int .i64 2]) ∧ w' = w := by
  obtain ⟨ao, cp, hM⟩ := h
  have c1 : w.cell? ⟨M, 1, none⟩ = some (.bool true) := by simp [World.cell?, hM]
  go_enter Tryd.func67, Tryd.ntmps67
  go_wp2
  (try simp only [Exit.inBlock, Exit.then]); refine bodyPost_ret (results_tmp2 rfl _ _ _) rfl ?_
  exact ⟨rfl, rfl⟩
def TakesP (w : World) (B D M : Nat) (o1 : Option Nat) (e : Ending) (w' : World) : Prop :=
  e = .returned (.bool true) ∧ Fr (fun j => j = D ∨ j = M ∨ o1 = some j) w w' ∧ ∃ p1 p2, St w' B D M p1 p2 ∧ (∀ g, p1 = some g → o1 = some g ∨ w.heap.size ≤ g) ∧ (∀ g, p2 = some g → w.heap.size ≤ g)
set_option maxHeartbeats 4000000 in
theorem takes_calls (w0 w : World) (B D M : Nat) (o1 o2 : Option Nat) (x : Int) (h : St w B D M o1 o2) (hx : 0 ≤ x ∧ x ≤ 255) (hT0 : U8 w0) (h0 : Below w0.heap.size w0 w) (hD0 : w0.heap.size ≤ D) (hDM : D < M) (hMB : M < B) :
    Calls Tryd.prog 34 #[.pointer (some ⟨D, 0, none⟩), .pointer (some ⟨M, 0, none⟩), .int .u8 x] w (TakesP w B D M o1) := by
  obtain ⟨P, hP⟩ : ∃ P, P = TakesP w B D M o1 := ⟨_, rfl⟩
  rw [← hP]
  have HPP := Lib.hid hP
  clear hP
  rcases h with ⟨xs, v1, v2, a, b, e1, e2, ap, hw, hb⟩ | ⟨n, a, b, e1, e2⟩
  · subst e1 e2
    have hsh := hw.short
    have hall : ∀ y ∈ xs ++ [x], 0 ≤ y ∧ y ≤ 255 := fun y hy => by
      rcases List.mem_append.1 hy with hy | hy
      · exact hb y hy
      · rw [List.mem_singleton.1 hy]; exact hx
    have hlt := fun j => bn_lt hall j
    have hdl := decB_lt _ hlt
    have tk := took hw hlt
    have cT := takeL_calls w0 w B D v1 xs x a hx hsh hall hT0 h0 hD0
    have hrow1 := a.row
    have hrow2 := b.row
    have hMo : ¬ (M = D ∨ v1.ownBlock = some M) := fun hh => by
      rcases hh with hh | hh
      · omega
      · have := (hrow1.lt _ hh).1; omega
    have hlen : (xs ++ [x]).length = xs.length + 1 := by simp
    have hap : ∀ g, v2.ownBlock = some g → ¬ (g = D ∨ v1.ownBlock = some g) := fun g hg hh => by
      rcases hh with hh | hh
      · have := (hrow2.lt _ hg).1; omega
      · exact ap g hh hg
    have hDneM : ¬ D = M := by omega
    obtain ⟨ys, hys⟩ : ∃ ys, ys = xs ++ [x] := ⟨_, rfl⟩
    have HY := Lib.hid hys
    rw [← hys] at hall hlt hdl tk cT hlen
    clear hys
    rcases tk with ⟨n, hn, n1, n4, hF, hbg, hf, hv⟩ | ⟨k, n, hk, hF, hl, hbg, hf⟩ | ⟨k, n, hF, hl, hbg⟩
    · have HV := Lib.hid hv
      have HN := Lib.hid hn
      have hFn := Lib.hid hF
      have hBG := Lib.hid hbg
      have hFU := Lib.hid hf
      clear hv hn hF hbg hf hlen
      go_enter Tryd.func34, Tryd.ntmps34
      go_wp2_with fail
      refine cT.mono ?_
      rintro e w1 ⟨hF1, _, hwh, _⟩
      rw [← HY.out] at hwh
      obtain ⟨rfl, hd1⟩ := hwh hBG.out hFU.out
      have b1 := b.fr hF1 hMo hap
      have cR := refTake_calls w1 B M v2 xs x b1 hsh (HY.out ▸ hall) n n (HY.out ▸ hFn.out) (by rw [← HY.out, HN.out]; exact Nat.le_refl _)
      clear hwh cT
      go_wp2_with fail
      refine cR.mono ?_
      rintro e w2 ⟨hF2, _, hwh2, _⟩
      rw [← HY.out] at hwh2
      obtain ⟨rfl, hr2⟩ := hwh2 (by omega) rfl HN.out.symm
      have d2 := hd1.fr hF2 hDneM (fun g hg => by cases hg)
      rw [← HV.out]
      have HCP := Lib.hid (fun m => pend_calls (w2.drewN m) D 0 none 0 _ d2.hD)
      have c0 : w2.cell? ⟨M, 0, none⟩ = some (.slice none 0 0) := by simp [World.cell?, hr2.hM]
      obtain ⟨r, hr⟩ : ∃ r, r = (decB ys).1 := ⟨_, rfl⟩
      rw [← hr] at hdl ⊢
      clear hr hwh2 cR
      go_wp2
      go_quiet ((exact Calls.quiet_of_same (HCP.out _)))
      go_wp2
      rw [HPP.out]
      refine ⟨rfl, ((hF1.mono (fun j hj => hj.elim .inl (fun h => .inr (.inr h)))).trans (hF2.mono (fun j hj => .inr (.inl hj)))).drewN nq, none, none, (St.live [] _ _ d2 hr2 rfl rfl (fun g hg => by cases hg) (.inl rfl) (fun x hx => by cases hx)).drewN nq, fun g hg => (by cases hg), fun g hg => (by cases hg)⟩
    · have HK := Lib.hid hk
      have hFn := Lib.hid hF
      have hBG := Lib.hid hbg
      have hFU := Lib.hid hf
      have hkl : k ≤ 4 := by omega
      have HW := Lib.hid (show Waits ys from .inr ⟨n, by rw [hF, hk], by omega⟩)
      clear hk hF hbg hf hlen
      go_enter Tryd.func34, Tryd.ntmps34
      go_wp2_with fail
      refine cT.mono ?_
      rintro e w1 ⟨hF1, _, _, hwh⟩
      rw [← HY.out] at hwh
      obtain ⟨rfl, v1', hd1, ho1⟩ := hwh hBG.out hFU.out
      have b1 := b.fr hF1 hMo hap
      have cR := refTake_calls w1 B M v2 xs x b1 hsh (HY.out ▸ hall) k n (HY.out ▸ hFn.out) (by rw [← HY.out, HK.out]; exact Nat.le_refl _)
      clear hwh cT
      go_wp2_with fail
      refine cR.mono ?_
      rintro e w2 ⟨hF2, _, _, hwh2⟩
      rw [← HY.out] at hwh2
      obtain ⟨rfl, v2', hr2, ho2⟩ := hwh2 (by omega) (by omega) HK.out.symm
      have d2 := hd1.fr hF2 hDneM (fun g hg e => by have := (hd1.row.lt g hg).1; omega)
      have hap2 : ∀ g, v1'.ownBlock = some g → v2'.ownBlock ≠ some g := fun g hg hh => by
        have := (hd1.row.lt g hg).2
        have := ho2 g hh
        omega
      have hz1 := hF1.size
      have HO1 := Lib.hid ho1
      have HO2 := Lib.hid (fun g hg => Nat.le_trans hz1 (ho2 g hg))
      obtain ⟨a1, c1, rfl, _⟩ := d2.row.rd
      obtain ⟨a2, c2, rfl, _⟩ := hr2.row.rd
      have HCP := Lib.hid (fun m => pend_calls (w2.drewN m) D _ _ _ _ d2.hD)
      have c0 : w2.cell? ⟨M, 0, none⟩ = some (.slice a2 ys.length c2) := by simp [World.cell?, hr2.hM]
      rw [HK.out] at c0
      rw [HK.out] at HCP
      clear hwh2 cR ho1 ho2 hd1
      have HD2 := Lib.hid d2
      have HR2 := Lib.hid hr2
      have HAP := Lib.hid hap2
      clear d2 hr2 hap2
      go_wp2
      go_quiet ((exact Calls.quiet_of_same (HCP.out _)))
      go_wp2
      rw [HPP.out]
      refine ⟨rfl, ((hF1.mono (fun j hj => hj.elim .inl (fun h => .inr (.inr h)))).trans (hF2.mono (fun j hj => .inr (.inl hj)))).drewN nq, _, _, (St.live ys _ _ HD2.out HR2.out rfl rfl HAP.out HW.out hall).drewN nq, HO1.out, HO2.out⟩
    · have hFn := Lib.hid hF
      have hBG := Lib.hid hbg
      have HL := Lib.hid hl
      obtain ⟨m, hm⟩ : ∃ m, m = xs.length := ⟨_, rfl⟩
      have HM := Lib.hid hm
      have hkle := frontB_fst hF
      have HKL := Lib.hid hkle
      have hm3 : m ≤ 3 := by omega
      clear hF hbg hl hlen hkle hm
      go_enter Tryd.func34, Tryd.ntmps34
      go_wp2_with fail
      refine cT.mono ?_
      rintro e w1 ⟨hF1, hwh, _, _⟩
      obtain ⟨rfl, hd1⟩ := hwh hBG.out
      have b1 := b.fr hF1 hMo hap
      have cR := refTake_calls w1 B M v2 xs x b1 hsh (HY.out ▸ hall) k n (HY.out ▸ hFn.out) (HY.out ▸ HKL.out)
      clear hwh cT
      go_wp2_with fail
      refine cR.mono ?_
      rintro e w2 ⟨hF2, hwh2, _, _⟩
      rw [← HY.out] at hwh2
      obtain ⟨rfl, hr2⟩ := hwh2 HL.out
      have d2 := hd1.fr hF2 hDneM
      have HS := Lib.hid (St.dead (B := B) _ d2 hr2 rfl rfl)
      rw [← HM.out] at d2 hr2
      obtain ⟨a1, c1, d2⟩ := d2
      obtain ⟨a2, c2, hr2⟩ := hr2
      have HCP := Lib.hid (fun i => pend_calls (w2.drewN i) D m _ _ _ d2)
      have c0 : w2.cell? ⟨M, 0, none⟩ = some (.slice a2 m c2) := by simp [World.cell?, hr2]
      clear hwh2 cR hd1 d2 hr2
      go_wp2
      go_quiet ((exact Calls.quiet_of_same (HCP.out _)))
      go_wp2
      rw [HPP.out]
      exact ⟨rfl, ((hF1.mono (fun j hj => hj.elim .inl (fun h => .inr (.inr h)))).trans (hF2.mono (fun j hj => .inr (.inl hj)))).drewN nq, none, none, HS.out.drewN nq, fun g hg => (by cases hg), fun g hg => (by cases hg)⟩
  · subst e1 e2
    have HS := Lib.hid (St.dead (B := B) _ a b rfl rfl)
    have cT := takeD_calls w D n x a
    have cR := refTakeD_calls w M n x b
    obtain ⟨a1, c1, d2⟩ := a
    obtain ⟨a2, c2, hr2⟩ := b
    have HCP := Lib.hid (fun i => pend_calls (w.drewN i) D n _ _ _ d2)
    have c0 : w.cell? ⟨M, 0, none⟩ = some (.slice a2 n c2) := by simp [World.cell?, hr2]
    clear d2 hr2
    go_enter Tryd.func34, Tryd.ntmps34
    go_wp2_with fail
    refine cT.mono ?_
    rintro e w1 ⟨rfl, rfl⟩
    clear cT
    go_wp2_with fail
    refine cR.mono ?_
    rintro e w2 ⟨rfl, rfl⟩
    clear cR
    go_wp2
    go_quiet ((exact Calls.quiet_of_same (HCP.out _)))
    go_wp2
    rw [HPP.out]
    exact ⟨rfl, (Fr.refl _ _).drewN nq, none, none, HS.out.drewN nq, fun g hg => (by cases hg), fun g hg => (by cases hg)⟩
end Go.Proofs.YtfmpnfgegcgcaaaDoor
