/- The walk of gimletref02.Span. Printed by mkspan.py. -/
import Derived.Test.YtkhejkfjhddobaaGreatDoorHEncM
import Derived.Test.YtkhejkfjhddobaaGreatDoorCrefM
import Derived.Laws.BytesArg
import Derived.Laws.IdiomStrings
import Derived.Deep.RegionHeld3
set_option maxRecDepth 100000
set_option maxHeartbeats 16000000
namespace Gim
open Go
def bd (q : Nat) : Int := 128 * 64 ^ q
theorem ySK (q : Nat) : bd (q + 1) = bd q * 64 := by unfold bd; rw [Int.pow_succ, Int.mul_assoc]
theorem yKD {q : Nat} {g y : Int} (h : g < bd q) (hy : y ≤ 63) : g * 64 + y < bd (q + 1) := by rw [ySK]; omega
theorem yO0 : ∀ {q : Nat}, q ≤ 3 → bd q ≤ 33554432
 | 0, _ => by decide
 | 1, _ => by decide
 | 2, _ => by decide
 | 3, _ => by decide
 | n + 4, h => by omega
theorem yIc {xs : List Int} {x : Int} {n : Nat} (hl : xs.length = n) (hx : gt xs 0 = x) (h1 : 1 ≤ n) (h4 : n ≤ 4) : yAw xs = if wid x < n then (1, 0) else yJu x (wid x - n) (yBl (xs.drop 1) (yFC x)) := by
 cases xs with
 | nil => simp at hl; omega
 | cons y t =>
  have : y = x := by simpa [gt] using hx
  subst this; have ht : t.length + 1 = n := by simpa using hl
  rw [yAw, if_neg (by omega), ht]; rfl
theorem ySI {xs : List Int} {n q : Nat} (hl : xs.length = n) (hq : q + 1 < n) : (xs.drop 1).drop q = gt xs (q + 1) :: (xs.drop 1).drop (q + 1) := by
 rw [List.drop_drop, List.drop_drop, List.drop_eq_getElem_cons (by omega)]; have : (1 + q) = q + 1 := by omega
 simp only [this, gt]; congr 1
 ·rw [jk (by omega)]; rfl
 ·congr 1; omega
theorem yR2 {xs : List Int} {n q : Nat} (hl : xs.length = n) (hq : n ≤ q + 1) : (xs.drop 1).drop q = [] := by rw [List.drop_drop]; exact List.drop_of_length_le (by omega)
end Gim
namespace Go.Proofs.YtkhejkfjhddobaaGreatDoor
open Go.RowKit Gim
theorem yKw (w : World) (ao : Option Addr) (n cap : Nat) (xs : List Int) (h : Rd w .u8 ao n cap xs) (hby : ∀ j, j < n → 0 ≤ gt xs j ∧ gt xs j ≤ 255) (x : Int) (hx : gt xs 0 = x) (h1 : 1 ≤ n) (h4 : n ≤ 4) (N : Nat) (F L : Int)
  (hc : (N = 1 ∧ F = x ∧ L = 0 ∧ 0 ≤ x ∧ x < 128) ∨ (N = 2 ∧ F = x - 192 ∧ L = 128 ∧ 192 ≤ x ∧ x < 224) ∨ (N = 3 ∧ F = x - 224 ∧ L = 2048 ∧ 224 ≤ x ∧ x < 240) ∨ (N = 4 ∧ F = x - 240 ∧ L = 65536 ∧ 240 ≤ x ∧ x < 248)) :
  Calls Tryz.prog 108 #[.slice ao n cap] w fun e w' => e = .returned (.tuple #[.int .i64 (yAw xs).1, .int .i64 (yAw xs).2]) ∧ Below w.heap.size w w' := by
 obtain ⟨b0, o0, rfl, hb0, hc0⟩ := h.cell 0 (by omega); have hz : w.cell? ⟨b0, o0, none⟩ = some (.int .u8 x) := by rw [← hx]; exact hc0 0 (by omega)
 have he : ((n : Int) == 0) = false := by simp; omega
 have he2 : (n : Int) ≠ 0 := by omega
 have hle := h.le; have hcl := h.cap_le; have HL := jh h.len; have hW : wid x = N ∧ yFC x = F ∧ yFa x = L := by
  rcases hc with ⟨rfl, rfl, rfl, a, b⟩ | ⟨rfl, rfl, rfl, a⟩ | ⟨rfl, rfl, rfl, a⟩ | ⟨rfl, rfl, rfl, a⟩
  ·exact wid1 b
  ·exact wid2 a
  ·exact wid3 a
  ·exact wid4 a
 have hS := yIc HL.out hx h1 h4; rw [hW.1, hW.2.1] at hS; have hNn : N < n ∨ n ≤ N := Nat.lt_or_ge _ _; have HSL : Hid (N < n → yAw xs = (1, 0)) := jh fun hh => hS.trans (if_pos hh)
 have HSB : Hid (n ≤ N → yBl (xs.drop 1) F = none → yAw xs = (1, 0)) := jh fun hh e => by rw [hS, if_neg (by omega), e]; rfl
 have HSE : Hid (n ≤ N → ∀ g a b, yBl ((xs.drop 1).drop (n - 1)) g = yBl (xs.drop 1) F → yCb 0 a = yCb (N - n) g → yCj 0 b = yCj (N - n) g → yAw xs = (if a ≤ L then L else a, if b ≤ 1114111 then b else 1114111)) := jh fun hh g a b e ea eb => by rw [hS, if_neg (by omega), ← e, yR2 HL.out (by omega), ← hW.2.2, show a = yCb (N - n) g from ea, show b = yCj (N - n) g from eb]; rfl
 obtain ⟨R1, hR1⟩ : ∃ R1 : Value → Value → World → Prop, R1 = fun f i wr => ∃ (q : Nat) (g : Int), q ≤ n - 1 ∧ i = .int .i64 q ∧ f = .int .i64 g ∧ 0 ≤ g ∧ g < bd q ∧ Hid (yBl ((xs.drop 1).drop q) g = yBl (xs.drop 1) F) ∧ Below w.heap.size w wr := ⟨_, rfl⟩
 obtain ⟨R2, hR2⟩ : ∃ R2 : Int → Value → Value → Value → World → Prop, R2 = fun g f l i wi => ∃ (k : Nat) (a b : Int), (k ≤ N - n ∧ (k < N - n ∨ k = N - n) ∧ (k < N - n → (k : Int) < (N : Int) - n ∧ (N : Int) - n = ((N - n : Nat) : Int)) ∧ (k = N - n → ¬ (k : Int) < (N : Int) - n)) ∧ i = .int .i64 k ∧ f = .int .i64 a ∧ l = .int .i64 b ∧ 0 ≤ a ∧ a ≤ b ∧ b < bd (n - 1 + k) ∧ Hid (yCb (N - n - k) a = yCb (N - n) g) ∧ Hid (yCj (N - n - k) b = yCj (N - n) g) ∧ Below w.heap.size w wi := ⟨_, rfl⟩
 obtain ⟨M2, hM2⟩ : ∃ M2 : Nat, M2 = N - n := ⟨_, rfl⟩
 have HR1 := jh hR1; have HR2 := jh hR2; have HM2 := jh hM2; have HH : Hid (∀ f l i wi g, R2 g f l i wi → ∃ (k : Nat) (a b : Int), i = .int .i64 k ∧ f = .int .i64 a ∧ l = .int .i64 b ∧ 0 ≤ a ∧ a ≤ b ∧ b < bd (n - 1 + k) ∧ k ≤ M2 ∧ Below w.heap.size w wi ∧ ((Hid (∀ w', Below w.heap.size w w' → R2 g (.int .i64 (a * 64)) (.int .i64 (b * 64 + 63)) (.int .i64 (k + 1)) w') ∧ (k : Int) < (N : Int) - n ∧ (k : Int) + 1 ≤ M2) ∨ (¬ (k : Int) < (N : Int) - n ∧ Hid (yCb 0 a = yCb (N - n) g ∧ yCj 0 b = yCj (N - n) g)))) := jh fun f l i wi g hr => by
  rw [hR2] at hr; obtain ⟨k, a, b, ⟨hk, _⟩, rfl, rfl, rfl, ha0, hab, hb1, HA, HB, hb⟩ := hr; refine ⟨k, a, b, rfl, rfl, rfl, ha0, hab, hb1, by omega, hb, ?_⟩; rcases Nat.lt_or_eq_of_le hk with hkn | rfl
  ·refine .inl ⟨jh fun w' hw' => ?_, by omega, by omega⟩; rw [hR2]; exact ⟨k + 1, a * 64, b * 64 + 63, ⟨by omega, by omega, by omega, by omega⟩, by simp, rfl, rfl, by omega, by omega, yKD (q := n - 1 + k) (g := b) (y := 63) hb1 (by omega), jh (by rw [← HA.out, show N - n - k = (N - n - (k + 1)) + 1 from by omega, yCb]), jh (by rw [← HB.out, show N - n - k = (N - n - (k + 1)) + 1 from by omega, yCj]), hw'⟩
  ·have ha := HA.out; have hb := HB.out; rw [Nat.sub_self] at ha hb; exact .inr ⟨by omega, jh ⟨ha, hb⟩⟩
 have HLL : Hid (∀ a : Int, a < L ∨ a = L ∨ L < a) := jh fun a => by omega
 have hMn : n ≤ N → M2 + n = N ∧ N ≤ 4 := fun _ => by rcases hc with ⟨rfl, _⟩ | ⟨rfl, _⟩ | ⟨rfl, _⟩ | ⟨rfl, _⟩ <;> omega
 have hat : Hid (n ≤ N → ∀ g w', 0 ≤ g → g < bd (n - 1) → Below w.heap.size w w' → R2 g (.int .i64 g) (.int .i64 g) (.int .i64 0) w') := jh fun hh g w' h1 h2 h3 => by rw [hR2]; exact ⟨0, g, g, ⟨by omega, by omega, by omega, by omega⟩, rfl, rfl, rfl, h1, by omega, h2, jh rfl, jh rfl, h3⟩
 clear hx hS hR1 hR2 hM2 hW; rcases hc with ⟨rfl, rfl, rfl, hx0, hx1⟩ | ⟨rfl, rfl, rfl, hx0, hx1⟩ | ⟨rfl, rfl, rfl, hx0, hx1⟩ | ⟨rfl, rfl, rfl, hx0, hx1⟩
 all_goals
  go_enter Tryz.func108, Tryz.ntmps108; rcases hNn with hN | hN
  ·first
    | (exfalso; omega)
    | (have HF := jh (HSL.out hN); clear HSL; go_wp2; go_ret2; exact ⟨by rw [HF.out]; rfl, jf _ _⟩)
  have HB0 := jh (HSB.out hN); have HE0 := jh (HSE.out hN); have HAT := jh (hat.out hN); obtain ⟨hMn, hM4⟩ := hMn hN; clear HSL HSB HSE hat; by_cases hc1 : cap = 1
  all_goals
   go_wp2; go_loopw [5, 61] (fun f i wr => R1 f i wr) (fun f i _ => n - (intOf i).toNat)
   case atStart =>
    rw [HR1.out]; exact ⟨0, _, by omega, rfl, rfl, by omega, by show _ < (128 : Int); omega, jh rfl, jf _ _⟩
   case round =>
    clear hz; rw [HR1.out] at hrel; obtain ⟨q, g, hq, rfl, rfl, hg0, hg1, H, hb⟩ := hrel; by_cases hqn : q + 1 < n
    ·try (exfalso; omega)
     all_goals
      have hy : wr.cell? ⟨b0, o0 + 1 + q, none⟩ = some (.int .u8 (gt xs (q + 1))) := by have := (hb.cell (p := ⟨b0, o0 + (q + 1), none⟩) hb0).trans (hc0 (q + 1) hqn); rw [show o0 + 1 + q = o0 + (q + 1) from by omega]; exact this
      have hyb := hby (q + 1) hqn; have st := H.out; rw [ySI HL.out hqn] at st; have hbd := yO0 (q := q) (by omega); obtain ⟨y, hyy⟩ : ∃ y, y = gt xs (q + 1) := ⟨_, rfl⟩
      rw [← hyy] at hy hyb st; clear hyy hc0; by_cases h128 : y < 128
      ·have HE := jh (HB0.out (by rw [← st, yBl, if_pos (Or.inl h128)])); clear st; go_wp2; go_ret2; exact ⟨by rw [HE.out]; rfl, hb⟩
      by_cases h191 : 191 < y
      ·have HE := jh (HB0.out (by rw [← st, yBl, if_pos (Or.inr h191)])); clear st; go_wp2; go_ret2; exact ⟨by rw [HE.out]; rfl, hb⟩
      ·rw [yBl, if_neg (by omega)] at st; have HE := jh st; have hstep := yKD (q := q) (g := g) (y := y - 128) hg1 (by omega); have hbd2 := yO0 (q := q + 1) (by omega); clear st; go_wp2; go_roundw
       case rel =>
        rw [HR1.out]; exact ⟨q + 1, g * 64 + (y - 128), by omega, by go_num, by go_num, by omega, hstep, HE, hb⟩
       case measure => simp [intOf]; omega
    ·have hqe : q = n - 1 := by omega
     clear hc0; subst hqe; have HG := jh fun a b (e : _ ∧ _) => HE0.out g a b H.out e.1 e.2
     go_wp2; go_loopw [5, 10, 83] (fun f l i wi => R2 g f l i wi) (fun f l i _ => M2 - (intOf i).toNat)
     case atStart => exact HAT.out g _ hg0 hg1 hb
     case round =>
      clear hb; obtain ⟨k, a, b, rfl, rfl, rfl, ha0, hab, hb1, hkM, hb, hkn⟩ := HH.out _ _ _ _ _ hrel; rcases hkn with ⟨HN, hlt, hk1⟩ | ⟨hnl, HD⟩
      ·try (exfalso; omega)
       all_goals
        have hbd := yO0 (q := n - 1 + k) (by omega); have hbd2 := yO0 (q := n - 1 + (k + 1)) (by omega); have hstep := yKD (q := n - 1 + k) (g := b) (y := 63) hb1 (by omega); go_wp2; go_roundw
        case rel => exact HN.out _ hb
        case measure => simp [intOf]; omega
      ·have HR := jh (HG.out a b HD.out); clear HD HG HH; rcases HLL.out a with u1 | u1 | u1
       all_goals rcases (by omega : b < 1114111 ∨ b = 1114111 ∨ 1114111 < b) with u2 | u2 | u2
       all_goals
        try subst u1
        try subst u2
        have HQ := HR.out
        first | rw [if_pos (by omega), if_pos (by omega)] at HQ | rw [if_pos (by omega), if_neg (by omega)] at HQ | rw [if_neg (by omega), if_pos (by omega)] at HQ | rw [if_neg (by omega), if_neg (by omega)] at HQ
        replace HQ := jh HQ
        clear HR; go_wp2
        all_goals go_ret2
        all_goals exact ⟨by rw [HQ.out]; (first | rw [Int.max_eq_right (by omega)] | rw [Int.max_eq_left (by omega)] | skip); (first | rw [Int.min_eq_left (by omega)] | rw [Int.min_eq_right (by omega)] | skip); rfl, hb⟩
theorem yNk (w : World) (ao : Option Addr) (n cap : Nat) (xs : List Int) (h : Rd w .u8 ao n cap xs) (hby : ∀ j, j < n → 0 ≤ gt xs j ∧ gt xs j ≤ 255) :
  Calls Tryz.prog 108 #[.slice ao n cap] w fun e w' => e = .returned (.tuple #[.int .i64 (yAw xs).1, .int .i64 (yAw xs).2]) ∧ Below w.heap.size w w' := by
 have hl := h.len; have hle := h.le; have hcl := h.cap_le; unfold maxLen at hcl; by_cases h0 : n = 0
 ·subst h0; have HE := jh (show yAw xs = (1, 0) by rw [List.eq_nil_of_length_eq_zero hl]; rfl); clear hl; go_enter Tryz.func108, Tryz.ntmps108; go_wp2; go_ret2; exact ⟨by rw [HE.out]; rfl, jf _ _⟩
 by_cases h4 : 4 < n
 ·have HE := jh (show yAw xs = (1, 0) by
   cases xs with
   | nil => rfl
   | cons x t => rw [yAw, if_pos (by simp at hl; omega)])
  have he : ((n : Int) == 0) = false := by simp; omega
  have he2 : (n : Int) ≠ 0 := by omega
  clear hl; go_enter Tryz.func108, Tryz.ntmps108; go_wp2; go_ret2; exact ⟨by rw [HE.out]; rfl, jf _ _⟩
 have hb := hby 0 (by omega); by_cases x1 : gt xs 0 < 128
 ·exact yKw w ao n cap xs h hby _ rfl (by omega) (by omega) _ _ _ (.inl ⟨rfl, rfl, rfl, by omega, x1⟩)
 by_cases x2 : 192 ≤ gt xs 0 ∧ gt xs 0 < 224
 ·exact yKw w ao n cap xs h hby _ rfl (by omega) (by omega) _ _ _ (.inr (.inl ⟨rfl, rfl, rfl, x2⟩))
 by_cases x3 : 224 ≤ gt xs 0 ∧ gt xs 0 < 240
 ·exact yKw w ao n cap xs h hby _ rfl (by omega) (by omega) _ _ _ (.inr (.inr (.inl ⟨rfl, rfl, rfl, x3⟩)))
 by_cases x4 : 240 ≤ gt xs 0 ∧ gt xs 0 < 248
 ·exact yKw w ao n cap xs h hby _ rfl (by omega) (by omega) _ _ _ (.inr (.inr (.inr ⟨rfl, rfl, rfl, x4⟩)))
 obtain ⟨b0, o0, rfl, hb0, hc0⟩ := h.cell 0 (by omega); have HE := jh (show yAw xs = (1, 0) by rw [yIc hl rfl (by omega) (by omega), if_pos (by unfold wid; rw [if_neg x1, if_neg x2, if_neg x3, if_neg x4]; omega)]); obtain ⟨x, hx⟩ : ∃ x, x = gt xs 0 := ⟨_, rfl⟩
 have hz : w.cell? ⟨b0, o0, none⟩ = some (.int .u8 x) := by rw [hx]; exact hc0 0 (by omega)
 rw [← hx] at hb x1 x2 x3 x4; have he : ((n : Int) == 0) = false := by simp; omega
 have he2 : (n : Int) ≠ 0 := by omega
 clear hx hc0 hl; rcases (by omega : x < 192 ∨ 247 < x) with y1 | y1
 ·clear x2 x3 x4; go_enter Tryz.func108, Tryz.ntmps108; go_wp2; go_ret2; exact ⟨by rw [HE.out]; rfl, jf _ _⟩
 ·clear x2 x3 x4; go_enter Tryz.func108, Tryz.ntmps108; go_wp2; go_ret2; exact ⟨by rw [HE.out]; rfl, jf _ _⟩
end Go.Proofs.YtkhejkfjhddobaaGreatDoor
namespace Gim
open Go Go.RowKit
theorem yGm (s : ByteArray) (p m : Nat) : (s.extract p (p + m)).data.toList = (s.data.toList.drop p).take m := by rw [ByteArray.data_extract, Array.toList_extract, List.extract_eq_take_drop]; congr 1; omega
theorem yRc (w : World) (X : ByteArray) (t : TypeId) (cap : Nat) (fr : Nat × Nat) (h1 : X.size ≤ cap) (h2 : cap ≤ maxLen) :
  Rd (w.alloc (.cells (bytesRow X cap) t fr)) .u8 (some ⟨w.heap.size, 0, none⟩) X.size cap (bz X.data.toList) :=
 ⟨by rw [yHa]; rfl, h1, h2, fun j hj => ⟨_, _, rfl, by simp, fun i hi => by
  have hi' : i < X.data.size := hi; have hg : gt (bz X.data.toList) i = (X.data[i].toNat : Int) := by simp [gt, bz]; rw [Array.getElem?_eq_getElem hi']; rfl
  rw [hg]; have := bytesRow_at X cap i hi'; have hh := jw w (.cells (bytesRow X cap) t fr); unfold World.cell?; rw [hh, Nat.zero_add]; exact this⟩⟩
theorem Rd.convB {P : Program} {w : World} {ao : Option Addr} {n cap : Nat} {xs : List Int} (h : Rd w .u8 ao n cap xs) {src dst e : TypeId}
  (hs : P.underlying src = some (.slice e)) (he : P.underlying e = some (.int .u8)) (hd : P.underlying dst = some .string) :
  (convert src dst (.slice ao n cap)).run P w = .ok (.string (strOfNums xs)) w := by
 have hl := h.len; by_cases h0 : n = 0
 ·subst h0; obtain rfl : xs = [] := List.eq_nil_of_length_eq_zero hl; cases ao with
  | none => exact run_convert_bytes_nil w src e hs he _ _ dst hd
  | some a => 
   obtain ⟨b, o, pa⟩ := a; rw [run_convert_bytes_string w src dst e _ _ _ hs he hd, run_bytesToString w _ 0 cap [] (by simp [loadCells, loadCellsFrom])]; rfl
 ·obtain ⟨b, o, rfl, h2, h3⟩ := h.cell 0 (by omega); exact run_convert_bytes_arg w src e hs he b o n cap xs hl h3 dst hd
theorem yS9 (w : World) {s : ByteArray} {p m : Nat} {l : List Int} (hps : p + m ≤ s.size) (hl : l = bz (s.data.toList.drop p)) (t : TypeId) (cap : Nat) (fr : Nat × Nat) (h1 : m ≤ cap) (h2 : cap ≤ maxLen) :
  Rd (w.alloc (.cells (bytesRow (s.extract p (p + m)) cap) t fr)).drew .u8 (some ⟨w.heap.size, 0, none⟩) m cap (l.take m) := by
 have hX : (s.extract p (p + m)).size = m := by simp; omega
 have hbz : bz (s.extract p (p + m)).data.toList = l.take m := by rw [yGm, yB1, hl]
 have rd0 := yRc w (s.extract p (p + m)) t cap fr (by omega) h2; rw [hX, hbz] at rd0; exact rd0.drewN 1
theorem yGt {xs : List Int} (h : ∀ x ∈ xs, 0 ≤ x ∧ x ≤ 255) : bz (strOfNums xs).data.toList = xs := by
 rw [strOfNums_data, bz, List.map_map]
 conv => rhs; rw [← List.map_id xs]
 refine List.map_congr_left fun x hx => ?_
 have := h x hx; simp only [Function.comp, id, UInt8.toNat_ofNat']; omega
theorem yHC {r x : Int} (h0 : 0 ≤ r) (h1 : r ≤ 1114111) (h : x ∈ yBi r) : 0 ≤ x ∧ x ≤ 255 := by
 unfold yBi at h; split at h
 ·simp at h; omega
 ·split at h
  ·simp at h; omega
  ·split at h
   ·simp at h; omega
   ·simp at h; omega
theorem yND {r : Int} (h0 : 0 ≤ r) (h1 : r ≤ 1114111) (s : ByteArray) (p m : Nat) : (strOfNums (yBi r)).toList = (s.extract p (p + m)).toList ↔ yBi r = (bz (s.data.toList.drop p)).take m := by
 rw [ByteArray.toList_eq, ByteArray.toList_eq, yGm, ← yB1]; constructor
 ·intro e; rw [← e, yGt fun x hx => yHC h0 h1 hx]
 ·intro e; exact yNr (by rw [yGt fun x hx => yHC h0 h1 hx, e])
end Gim
namespace Go.Proofs.YtkhejkfjhddobaaGreatDoor
open Go.RowKit Gim
-- gimlet/gimletref02.Bytes
theorem yFY (w : World) (t : TypeId) (xs : List Int) (h4 : xs.length ≤ 4) : yDJ w t .u8 xs (.returned (.slice (some ⟨w.heap.size, 0, none⟩) xs.length xs.length)) (w.alloc (.cells (xs.map (Value.int .u8)).toArray t)) := by refine ⟨_, rfl, ⟨by simp, .inr ⟨w.heap.size, xs.length, _, by simp, jr _, jw w _, by simp, by unfold maxLen; omega, by simp, ?_⟩⟩, (jf _ _).alloc (jr _) _⟩; rw [jm (by simp)]
theorem yLF (r : Int) (w : World) (h0 : 0 ≤ r) (h1 : r ≤ 1114111) : Calls Tryz.prog 109 #[.int .i64 r] w (yDJ w 5 .u8 (yBi r)) := by
 go_enter Tryz.func109, Tryz.ntmps109; by_cases c1 : r < 128
 ·go_wp2; go_ret; rw [yBi, if_pos c1]; exact yFY _ _ _ (by simp)
 by_cases c2 : r < 2048
 ·go_wp2; go_ret; rw [yBi, if_neg (by omega), if_pos c2]; exact yFY _ _ _ (by simp)
 by_cases c3 : r < 65536
 ·go_wp2; go_ret; rw [yBi, if_neg (by omega), if_neg (by omega), if_pos c3]; exact yFY _ _ _ (by simp)
 ·go_wp2; go_ret; rw [yBi, if_neg (by omega), if_neg (by omega), if_neg (by omega)]; exact yFY _ _ _ (by simp)
-- gimlet/gimletref02.Read
theorem yNO (s : ByteArray) (p : Nat) (w : World) (hs : s.size ≤ 140737488351232) (hp : p < s.size) :
  Calls Tryz.prog 69 #[.string s, .int .i64 p] w fun e w' => e = .returned (.tuple #[.int .i64 (yHm (bz (s.data.toList.drop p))).1, .int .i64 (yHm (bz (s.data.toList.drop p))).2]) ∧ Below w.heap.size w w' := by
 obtain ⟨l, hl⟩ : ∃ l, l = bz (s.data.toList.drop p) := ⟨_, rfl⟩
 have hlen : l.length = s.size - p := by rw [hl, yHa, List.length_drop]; rfl
 have HL := jh hl; rw [← hl]; clear hl; go_enter Tryz.func69, Tryz.ntmps69; go_wp2; go_loopw [6] (fun v wr => ∃ m : Nat, 1 ≤ m ∧ m ≤ 5 ∧ v = .int .i64 m ∧ Hid (yDx l (6 - m) m = yHm l) ∧ Below w.heap.size w wr) (fun v _ => 5 - (intOf v).toNat)
 case atStart => exact ⟨1, by omega, by omega, rfl, jh rfl, jf _ _⟩
 case round =>
  obtain ⟨m, hm1, hm5, rfl, H, hb⟩ := hrel; by_cases hm : m ≤ 4 ∧ p + m ≤ s.size
  ·obtain ⟨hm4, hps⟩ := hm; have hsx : ∀ wx : World, (Instr.slice 9 (.string s) (some (.int .i64 (p : Int))) (some (.int .i64 ((p : Int) + m))) none).run Tryz.prog wx = .ok (.string (s.extract p (p + m))) wx := fun wx => by have h := run_slice_string (P := Tryz.prog) wx 9 s .i64 .i64 (p : Int) ((p : Int) + m) Tryz.underlying9 (by omega) (by omega) (by omega); rw [h]; congr 1
   have hcv : ∀ wx : World, (convert 9 175 (.string (s.extract p (p + m)))).run Tryz.prog wx = _ := fun wx => run_bytes_of_string wx 9 175 5 (s.extract p (p + m)) rfl rfl rfl
   go_wp2_with fail; have hbw : Below w.heap.size w (wr.alloc (.cells (bytesRow (s.extract p (p + m)) (grownCap wr m 0 5)) 5 ((bytesRow (s.extract p (p + m)) (grownCap wr m 0 5)).size, (bytesRow (s.extract p (p + m)) (grownCap wr m 0 5)).size + 1))).drew := (hb.alloc hb.size _).trans (((yAJ.refl _).drewN 1).below _); refine (yNk _ _ _ _ (l.take m) (yS9 wr hps HL.out _ _ _ (grownCap_ge _ _ _ _) (grownCap_le_maxLen _ _ _ _ (by unfold maxLen; omega))) ?_).mono ?_
   ·intro j hj; have hj' : j < (l.take m).length := by simp; omega
    have : gt (l.take m) j ∈ l.take m := by rw [yFf hj']; exact List.getElem_mem _
    rw [HL.out, ← yB1] at this; exact yKB (by rw [HL.out, ← yB1]; exact this)
   rintro e w1 ⟨rfl, hb1⟩; have hb2 := hbw.trans (hb1.mono hbw.size); clear hb1 hbw; have HR := jh (show yHm l = if (yAw (l.take m)).1 = (yAw (l.take m)).2 ∧ yBi (yAw (l.take m)).1 = l.take m then (if 55296 ≤ (yAw (l.take m)).1 ∧ (yAw (l.take m)).1 ≤ 57343 then (0, 0) else ((yAw (l.take m)).1, (m : Int))) else yDx l (6 - (m + 1)) (m + 1) by rw [← H.out, show 6 - m = (6 - (m + 1)) + 1 from by omega, yDx, if_pos (by omega)]); have HN := jh (show (yAw (l.take m)).1 = (yAw (l.take m)).2 → 0 ≤ (yAw (l.take m)).1 ∧ (yAw (l.take m)).1 ≤ 1114111 from fun h => yHG (fun x hx => by rw [HL.out] at hx; exact (yKB (List.mem_of_mem_take hx)).1) h); obtain ⟨f, hf⟩ : ∃ f, f = yAw (l.take m) := ⟨_, rfl⟩
   rw [← hf] at HR HN; rw [← hf]; clear hf; obtain ⟨x, y⟩ := f; by_cases hxy : x = y
   ·subst hxy; have hr := HN.out rfl; simp only [true_and] at HR; clear HN H; have HQ := jh hr; have hwr : IntKind.i64.wrap ((p : Int) + m) = (p : Int) + m := IntWalk.i64_in _ (by omega); go_wp2; go_region_held (fun _ => True) (first | exact trivial | go_keep) ((go_at_call 109; refine (yLF x _ HQ.out.1 HQ.out.2).mono ?_; rintro e w2 ⟨g, rfl, hrow, hb3⟩; have hcv2 := (Row.rdAt hrow).convB (P := Tryz.prog) (src := 175) (dst := 9) (e := 5) rfl rfl rfl))
    all_goals
     have hb4 : Below w.heap.size w w2 := (hb2.trans (((yAJ.refl w1).drewN 1).below _)).trans (hb3.mono hb2.size); have HS := jh (yND HQ.out.1 HQ.out.2 s p m); obtain ⟨q, hq⟩ : ∃ q : Bool, q = ((strOfNums (yBi x)).toList == (s.extract p (p + m)).toList) := ⟨_, rfl⟩
     rw [← hq]; cases q
     ·have hq' : ¬ (strOfNums (yBi x)).toList = (s.extract p (p + m)).toList := by simpa using hq.symm
      have HT := jh (HR.out.trans (if_neg fun h => hq' (HS.out.2 (by rw [← HL.out]; exact h)))); clear HR HS hwr hq hq'; go_wp2; go_roundw
      case rel => exact ⟨m + 1, by omega, by omega, by go_num, jh HT.out.symm, hb4⟩
      case measure => simp [intOf]; omega
     ·have hq' : (strOfNums (yBi x)).toList = (s.extract p (p + m)).toList := by simpa using hq.symm
      have HT := jh (HR.out.trans (if_pos (by rw [HL.out]; exact HS.out.1 hq'))); clear HR HS hwr hq hq'; by_cases u1 : 55296 ≤ x
      ·by_cases u2 : x ≤ 57343
       ·have HV := jh (HT.out.trans (if_pos ⟨u1, u2⟩)); clear HT; go_wp2; go_ret2; exact ⟨by rw [HV.out]; rfl, hb4⟩
       ·have HV := jh (HT.out.trans (if_neg fun h => u2 h.2)); clear HT; go_wp2; go_ret2; exact ⟨by rw [HV.out]; rfl, hb4⟩
      ·have HV := jh (HT.out.trans (if_neg fun h => u1 h.1)); clear HT; go_wp2; go_ret2; exact ⟨by rw [HV.out]; rfl, hb4⟩
   ·have he : (x == y) = false := by simpa using hxy
    have HR' := jh (HR.out.trans (if_neg fun h => hxy h.1)); clear HN H HR; go_wp2; go_quiet (fail); go_wp2; go_roundw
    case rel => exact ⟨m + 1, by omega, by omega, by go_num, jh HR'.out.symm, hb2.trans (((yAJ.refl _).drewN _).below _)⟩
    case measure => simp [intOf]; omega
  ·have HR := jh (show yHm l = (0, 0) by
    rw [← H.out]; rcases Nat.lt_or_ge m 5 with h | h
    ·rw [show 6 - m = (5 - m) + 1 from by omega, yDx, if_neg (by omega)]
    ·obtain rfl : m = 5 := by omega
     rw [show 6 - 5 = 0 + 1 from rfl, yDx, if_neg (by omega)])
   clear H; by_cases h4 : m ≤ 4
   ·have h5 : ¬ ((p : Int) + m ≤ s.size) := by omega
    go_wp2; go_ret2; exact ⟨by rw [HR.out]; rfl, hb⟩
   ·go_wp2; go_ret2; exact ⟨by rw [HR.out]; rfl, hb⟩
-- gimlet/gimletref02.All
theorem yF8 (s : ByteArray) (c d : Int) (w : World) (hs : s.size ≤ 140737488351232) :
  Calls Tryz.prog 41 #[.string s, .int .i64 c, .int .i64 d] w fun e w' => e = .returned (.bool (good c d (rs s) && val s 0)) ∧ Below w.heap.size w w' := by
 go_enter Tryz.func41, Tryz.ntmps41; go_wp2; go_loopw [7, 8] (fun v u wr => ∃ (pos : Nat) (b : Int), v = .int .i64 b ∧ u = .int .i64 pos ∧ pos ≤ s.size ∧ Hid ((good b d (yDX s pos) && val s pos) = (good c d (rs s) && val s 0)) ∧ Below w.heap.size w wr) (fun _ u wr => s.size - (intOf u).toNat)
 case atStart => exact ⟨0, c, rfl, rfl, by omega, jh rfl, jf _ _⟩
 case round =>
  obtain ⟨pos, b, rfl, rfl, hps, H, hb⟩ := hrel; by_cases hp : pos < s.size
  ·have HR := jh (yPu hp); have HN := jh (H.out.symm.trans (by rw [yGH hp, yMo hp])); have hwd : 1 ≤ (Utf8.decode s pos).2 ∧ (Utf8.decode s pos).2 ≤ s.size - pos := by have h1 := Lib.decodeL_le _ (yOX hp); rw [← yLq, List.length_drop] at h1; exact ⟨Lib.decode_width_pos s pos hp, h1⟩
   clear H; go_wp2_with fail; refine (yNO s pos _ hs hp).mono ?_; rintro e w1 ⟨rfl, hb1⟩; have hb2 := hb.trans (hb1.mono hb.size); clear hb1; by_cases hbad : (Utf8.decode s pos).1 = 65533 ∧ (Utf8.decode s pos).2 = 1
   ·rw [HR.out, if_pos hbad]; have HF := jh (HN.out.trans (by rw [if_pos hbad, Bool.and_false])); clear HR HN; go_wp2; go_ret; exact ⟨by rw [HF.out]; rfl, hb2⟩
   ·rw [HR.out, if_neg hbad]; have HF := jh (HN.out.trans (by rw [if_neg hbad])); clear HR HN hbad; obtain ⟨⟨r, k⟩, hrk⟩ : ∃ D, D = Utf8.decode s pos := ⟨_, rfl⟩
    rw [← hrk] at HF hwd; rw [← hrk]; simp only [] at HF hwd; clear hrk; have he : ((k : Int) == 0) = false := by simp; omega
    go_wp2_with fail; refine (yLj _ b r).mono ?_; rintro e w2 ⟨rfl, hb3⟩; have hb4 := hb2.trans (hb3.mono hb2.size); have hR : isF (cls b) (r : Int) = isR (cls b) r := yPh r (yIu b); rw [hR] at HF; clear hb3 hR; obtain ⟨q, hq⟩ : ∃ q, q = isR (cls b) (r : Int) := ⟨_, rfl⟩
    rw [← hq] at HF; rw [← hq]; clear hq; cases q
    ·have HE := jh (HF.out.trans (by rw [Bool.false_and, Bool.false_and])); clear HF; go_wp2; go_ret; exact ⟨by rw [HE.out]; rfl, hb4⟩
    ·have HE := jh (HF.out.trans (by rw [Bool.true_and])); clear HF; go_wp2; go_roundw
     case rel => exact ⟨pos + k, d, rfl, by go_num, by omega, jh HE.out.symm, hb4⟩
     case measure => simp [intOf]; omega
  ·have HE := jh (H.out.symm.trans (by rw [yH6 hp, yOR hp])); clear H; go_wp2; go_ret; exact ⟨by rw [HE.out]; rfl, hb⟩
-- gimlet/gimletref02.Name
theorem yFe (s : ByteArray) (w : World) (hs : s.size ≤ 140737488351232) :
  Calls Tryz.prog 19 #[.string s] w fun e w' => e = .returned (.bool (yBm s)) ∧ Below w.heap.size w w' := by
 by_cases h0 : s = ⟨#[]⟩
 ·subst h0; go_enter Tryz.func19, Tryz.ntmps19; go_wp2; go_ret; exact ⟨rfl, jf _ _⟩
 ·have h1 : ¬ s.toList = [] := yAW h0; have he : s.toList.isEmpty = false := by simp [h1]
  have h3 := jh (yMz h0); clear h0; go_enter Tryz.func19, Tryz.ntmps19; go_wp2_with fail; refine (yF8 s 2 3 _ hs).mono ?_; rintro e w1 ⟨rfl, hb⟩; go_wp2; go_ret; exact ⟨by rw [yBm, decide_eq_true h3.out, Bool.and_true]; rfl, hb⟩
-- gimlet/gimletref02.Texts
theorem yEn (s : ByteArray) (w : World) (hs : s.size ≤ 140737488351232) :
  Calls Tryz.prog 21 #[.string s] w fun e w' => e = .returned (.bool (yCe s)) ∧ Below w.heap.size w w' := by go_enter Tryz.func21, Tryz.ntmps21; go_wp2_with fail; refine (yF8 s 0 0 _ hs).mono ?_; rintro e w1 ⟨rfl, hb⟩; go_wp2; go_ret; exact ⟨by rw [yCe]; rfl, hb⟩
end Go.Proofs.YtkhejkfjhddobaaGreatDoor
