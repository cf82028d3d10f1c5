/- unicode/utf8's FullRune over any bytes. Printed by mkfull.py. -/
import Derived.Test.YtbbfifaojepjiaaDoorDecode2
set_option linter.unusedVariables false
set_option linter.unusedSimpArgs false
namespace Go.Proofs.YtbbfifaojepjiaaDoor
open Go.RowKit Go.Lib Gim
-- unicode/utf8.FullRune
set_option maxHeartbeats 4000000 in
set_option maxRecDepth 1000000 in
theorem full_240 (w : World) (b o n cap : Nat) (x0 x1 x2 : Nat) (hT : U8 w) (h0 : 0 < n) (hle : n ≤ cap) (hcap : cap ≤ maxLen) (hb : b < w.heap.size) (l0 : x0 < 256) (l1 : x1 < 256) (l2 : x2 < 256)
    (hx0 : w.cell? ⟨b, o, none⟩ = some (.int .u8 (x0 : Int))) (c1 : 1 < n → ∀ w', Below w.heap.size w w' → w'.cell? ⟨b, o + 1, none⟩ = some (.int .u8 (x1 : Int)))
    (c2 : 2 < n → ∀ w', Below w.heap.size w w' → w'.cell? ⟨b, o + 2, none⟩ = some (.int .u8 (x2 : Int))) (hX : firstT x0 = 240) :
    Calls Tryd.prog 24 #[.slice (some ⟨b, o, none⟩) n cap] w fun e w' => e = .returned (.bool (fullN n x0 x1 x2)) ∧ Below w.heap.size w w' := by
  have he : ((n : Int) == 0) = false := by simp; omega
  have he2 : (n : Int) ≠ 0 := by omega
  have hA : ∀ o', Below w.heap.size w (w.alloc o') := fun o' => (Below.refl _ _).alloc (Nat.le_refl _) _
  have hc0 := hT.1 x0 l0
  rw [hX] at hc0
  have hmod : bits .and .u8 240 7 = 0 := by decide
  have HF := Lib.hid (by rw [fullN, hX] : fullN n x0 x1 x2 = if 240 % 8 ≤ n then true else if 1 < n ∧ (x1 < accLo (240 / 16) ∨ accHi (240 / 16) < x1) then true else if 2 < n ∧ (x2 < 128 ∨ 191 < x2) then true else false)
  clear c1 c2 hT hX
  go_enter Tryd.func24, Tryd.ntmps24
  go_wp2
  go_ret
  exact ⟨by rw [HF.out, if_pos (by omega)]; rfl, Below.refl _ _⟩
set_option maxHeartbeats 4000000 in
set_option maxRecDepth 1000000 in
theorem full_241 (w : World) (b o n cap : Nat) (x0 x1 x2 : Nat) (hT : U8 w) (h0 : 0 < n) (hle : n ≤ cap) (hcap : cap ≤ maxLen) (hb : b < w.heap.size) (l0 : x0 < 256) (l1 : x1 < 256) (l2 : x2 < 256)
    (hx0 : w.cell? ⟨b, o, none⟩ = some (.int .u8 (x0 : Int))) (c1 : 1 < n → ∀ w', Below w.heap.size w w' → w'.cell? ⟨b, o + 1, none⟩ = some (.int .u8 (x1 : Int)))
    (c2 : 2 < n → ∀ w', Below w.heap.size w w' → w'.cell? ⟨b, o + 2, none⟩ = some (.int .u8 (x2 : Int))) (hX : firstT x0 = 241) :
    Calls Tryd.prog 24 #[.slice (some ⟨b, o, none⟩) n cap] w fun e w' => e = .returned (.bool (fullN n x0 x1 x2)) ∧ Below w.heap.size w w' := by
  have he : ((n : Int) == 0) = false := by simp; omega
  have he2 : (n : Int) ≠ 0 := by omega
  have hA : ∀ o', Below w.heap.size w (w.alloc o') := fun o' => (Below.refl _ _).alloc (Nat.le_refl _) _
  have hc0 := hT.1 x0 l0
  rw [hX] at hc0
  have hmod : bits .and .u8 241 7 = 1 := by decide
  have HF := Lib.hid (by rw [fullN, hX] : fullN n x0 x1 x2 = if 241 % 8 ≤ n then true else if 1 < n ∧ (x1 < accLo (241 / 16) ∨ accHi (241 / 16) < x1) then true else if 2 < n ∧ (x2 < 128 ∨ 191 < x2) then true else false)
  clear c1 c2 hT hX
  go_enter Tryd.func24, Tryd.ntmps24
  go_wp2
  go_ret
  exact ⟨by rw [HF.out, if_pos (by omega)]; rfl, Below.refl _ _⟩
set_option maxHeartbeats 4000000 in
set_option maxRecDepth 1000000 in
theorem full_2 (w : World) (b o n cap : Nat) (x0 x1 x2 : Nat) (hT : U8 w) (h0 : 0 < n) (hle : n ≤ cap) (hcap : cap ≤ maxLen) (hb : b < w.heap.size) (l0 : x0 < 256) (l1 : x1 < 256) (l2 : x2 < 256)
    (hx0 : w.cell? ⟨b, o, none⟩ = some (.int .u8 (x0 : Int))) (c1 : 1 < n → ∀ w', Below w.heap.size w w' → w'.cell? ⟨b, o + 1, none⟩ = some (.int .u8 (x1 : Int)))
    (c2 : 2 < n → ∀ w', Below w.heap.size w w' → w'.cell? ⟨b, o + 2, none⟩ = some (.int .u8 (x2 : Int))) (hX : firstT x0 = 2) :
    Calls Tryd.prog 24 #[.slice (some ⟨b, o, none⟩) n cap] w fun e w' => e = .returned (.bool (fullN n x0 x1 x2)) ∧ Below w.heap.size w w' := by
  have he : ((n : Int) == 0) = false := by simp; omega
  have he2 : (n : Int) ≠ 0 := by omega
  have hA : ∀ o', Below w.heap.size w (w.alloc o') := fun o' => (Below.refl _ _).alloc (Nat.le_refl _) _
  have hc0 := hT.1 x0 l0
  rw [hX] at hc0
  have hmod : bits .and .u8 2 7 = 2 := by decide
  have HF := Lib.hid (by rw [fullN, hX] : fullN n x0 x1 x2 = if 2 % 8 ≤ n then true else if 1 < n ∧ (x1 < accLo (2 / 16) ∨ accHi (2 / 16) < x1) then true else if 2 < n ∧ (x2 < 128 ∨ 191 < x2) then true else false)
  by_cases hn : 2 ≤ n
  · have hnz : (2 : Int) ≤ (n : Int) := by omega
    clear c1 c2 hT hX
    go_enter Tryd.func24, Tryd.ntmps24
    go_wp2
    go_ret
    exact ⟨by rw [HF.out, if_pos (by omega)]; rfl, Below.refl _ _⟩
  have hnz : ¬ (2 : Int) ≤ (n : Int) := by omega
  have ha0 := (hT.2 0 (by omega)).1
  have ha1 := (hT.2 0 (by omega)).2
  simp only [accLo, accHi, Nat.reduceMul, Nat.reduceAdd, Nat.reduceEqDiff, if_true, if_false] at ha0 ha1
  have HG := Lib.hid (HF.out.trans (if_neg (by omega)))
  simp only [accLo, accHi, Nat.reduceMod, Nat.reduceDiv, Nat.reduceEqDiff, if_true, if_false] at HG
  clear hX HF hT
  obtain rfl : n = 1 := by omega
  clear c1 c2 hA
  go_enter Tryd.func24, Tryd.ntmps24
  go_wp2
  all_goals (try (go_quiet (fail); go_wp2))
  all_goals (try (go_quiet (fail); go_wp2))
  all_goals go_ret
  all_goals exact ⟨by rw [HG.out, if_neg (by omega), if_neg (by omega)]; rfl, ((Below.refl _ _).alloc (Nat.le_refl _) _).trans (((Drew.refl _).drewN _).below _)⟩
set_option maxHeartbeats 4000000 in
set_option maxRecDepth 1000000 in
theorem full_19 (w : World) (b o n cap : Nat) (x0 x1 x2 : Nat) (hT : U8 w) (h0 : 0 < n) (hle : n ≤ cap) (hcap : cap ≤ maxLen) (hb : b < w.heap.size) (l0 : x0 < 256) (l1 : x1 < 256) (l2 : x2 < 256)
    (hx0 : w.cell? ⟨b, o, none⟩ = some (.int .u8 (x0 : Int))) (c1 : 1 < n → ∀ w', Below w.heap.size w w' → w'.cell? ⟨b, o + 1, none⟩ = some (.int .u8 (x1 : Int)))
    (c2 : 2 < n → ∀ w', Below w.heap.size w w' → w'.cell? ⟨b, o + 2, none⟩ = some (.int .u8 (x2 : Int))) (hX : firstT x0 = 19) :
    Calls Tryd.prog 24 #[.slice (some ⟨b, o, none⟩) n cap] w fun e w' => e = .returned (.bool (fullN n x0 x1 x2)) ∧ Below w.heap.size w w' := by
  have he : ((n : Int) == 0) = false := by simp; omega
  have he2 : (n : Int) ≠ 0 := by omega
  have hA : ∀ o', Below w.heap.size w (w.alloc o') := fun o' => (Below.refl _ _).alloc (Nat.le_refl _) _
  have hc0 := hT.1 x0 l0
  rw [hX] at hc0
  have hmod : bits .and .u8 19 7 = 3 := by decide
  have HF := Lib.hid (by rw [fullN, hX] : fullN n x0 x1 x2 = if 19 % 8 ≤ n then true else if 1 < n ∧ (x1 < accLo (19 / 16) ∨ accHi (19 / 16) < x1) then true else if 2 < n ∧ (x2 < 128 ∨ 191 < x2) then true else false)
  by_cases hn : 3 ≤ n
  · have hnz : (3 : Int) ≤ (n : Int) := by omega
    clear c1 c2 hT hX
    go_enter Tryd.func24, Tryd.ntmps24
    go_wp2
    go_ret
    exact ⟨by rw [HF.out, if_pos (by omega)]; rfl, Below.refl _ _⟩
  have hnz : ¬ (3 : Int) ≤ (n : Int) := by omega
  have ha0 := (hT.2 1 (by omega)).1
  have ha1 := (hT.2 1 (by omega)).2
  simp only [accLo, accHi, Nat.reduceMul, Nat.reduceAdd, Nat.reduceEqDiff, if_true, if_false] at ha0 ha1
  have HG := Lib.hid (HF.out.trans (if_neg (by omega)))
  simp only [accLo, accHi, Nat.reduceMod, Nat.reduceDiv, Nat.reduceEqDiff, if_true, if_false] at HG
  clear hX HF hT
  rcases (by omega : n = 1 ∨ n = 2) with rfl | rfl
  · clear c1 c2 hA
    go_enter Tryd.func24, Tryd.ntmps24
    go_wp2
    all_goals (try (go_quiet (fail); go_wp2))
    all_goals (try (go_quiet (fail); go_wp2))
    all_goals go_ret
    all_goals exact ⟨by rw [HG.out, if_neg (by omega), if_neg (by omega)]; rfl, ((Below.refl _ _).alloc (Nat.le_refl _) _).trans (((Drew.refl _).drewN _).below _)⟩
  · have hx1 := fun o' => c1 (by omega) (w.alloc o') (hA o')
    clear c1 c2 hA
    by_cases u1 : x1 < 160
    · have d1 : decide ((x1 : Int) < 160) = true := by simp; omega
      go_enter Tryd.func24, Tryd.ntmps24
      go_wp2
      all_goals (try (go_quiet (fail); go_wp2))
      all_goals (try (go_quiet (fail); go_wp2))
      all_goals go_ret
      all_goals exact ⟨by rw [HG.out, if_pos (by omega)]; rfl, ((Below.refl _ _).alloc (Nat.le_refl _) _).trans (((Drew.refl _).drewN _).below _)⟩
    have d1 : decide ((x1 : Int) < 160) = false := by simp; omega
    by_cases u2 : 191 < x1
    · have d2 : decide ((191 : Int) < x1) = true := by simp; omega
      go_enter Tryd.func24, Tryd.ntmps24
      go_wp2
      all_goals (try (go_quiet (fail); go_wp2))
      all_goals (try (go_quiet (fail); go_wp2))
      all_goals go_ret
      all_goals exact ⟨by rw [HG.out, if_pos (by omega)]; rfl, ((Below.refl _ _).alloc (Nat.le_refl _) _).trans (((Drew.refl _).drewN _).below _)⟩
    have d2 : decide ((191 : Int) < x1) = false := by simp; omega
    go_enter Tryd.func24, Tryd.ntmps24
    go_wp2
    all_goals (try (go_quiet (fail); go_wp2))
    all_goals (try (go_quiet (fail); go_wp2))
    all_goals go_ret
    all_goals exact ⟨by rw [HG.out, if_neg (by omega), if_neg (by omega)]; rfl, ((Below.refl _ _).alloc (Nat.le_refl _) _).trans (((Drew.refl _).drewN _).below _)⟩
set_option maxHeartbeats 4000000 in
set_option maxRecDepth 1000000 in
theorem full_3 (w : World) (b o n cap : Nat) (x0 x1 x2 : Nat) (hT : U8 w) (h0 : 0 < n) (hle : n ≤ cap) (hcap : cap ≤ maxLen) (hb : b < w.heap.size) (l0 : x0 < 256) (l1 : x1 < 256) (l2 : x2 < 256)
    (hx0 : w.cell? ⟨b, o, none⟩ = some (.int .u8 (x0 : Int))) (c1 : 1 < n → ∀ w', Below w.heap.size w w' → w'.cell? ⟨b, o + 1, none⟩ = some (.int .u8 (x1 : Int)))
    (c2 : 2 < n → ∀ w', Below w.heap.size w w' → w'.cell? ⟨b, o + 2, none⟩ = some (.int .u8 (x2 : Int))) (hX : firstT x0 = 3) :
    Calls Tryd.prog 24 #[.slice (some ⟨b, o, none⟩) n cap] w fun e w' => e = .returned (.bool (fullN n x0 x1 x2)) ∧ Below w.heap.size w w' := by
  have he : ((n : Int) == 0) = false := by simp; omega
  have he2 : (n : Int) ≠ 0 := by omega
  have hA : ∀ o', Below w.heap.size w (w.alloc o') := fun o' => (Below.refl _ _).alloc (Nat.le_refl _) _
  have hc0 := hT.1 x0 l0
  rw [hX] at hc0
  have hmod : bits .and .u8 3 7 = 3 := by decide
  have HF := Lib.hid (by rw [fullN, hX] : fullN n x0 x1 x2 = if 3 % 8 ≤ n then true else if 1 < n ∧ (x1 < accLo (3 / 16) ∨ accHi (3 / 16) < x1) then true else if 2 < n ∧ (x2 < 128 ∨ 191 < x2) then true else false)
  by_cases hn : 3 ≤ n
  · have hnz : (3 : Int) ≤ (n : Int) := by omega
    clear c1 c2 hT hX
    go_enter Tryd.func24, Tryd.ntmps24
    go_wp2
    go_ret
    exact ⟨by rw [HF.out, if_pos (by omega)]; rfl, Below.refl _ _⟩
  have hnz : ¬ (3 : Int) ≤ (n : Int) := by omega
  have ha0 := (hT.2 0 (by omega)).1
  have ha1 := (hT.2 0 (by omega)).2
  simp only [accLo, accHi, Nat.reduceMul, Nat.reduceAdd, Nat.reduceEqDiff, if_true, if_false] at ha0 ha1
  have HG := Lib.hid (HF.out.trans (if_neg (by omega)))
  simp only [accLo, accHi, Nat.reduceMod, Nat.reduceDiv, Nat.reduceEqDiff, if_true, if_false] at HG
  clear hX HF hT
  rcases (by omega : n = 1 ∨ n = 2) with rfl | rfl
  · clear c1 c2 hA
    go_enter Tryd.func24, Tryd.ntmps24
    go_wp2
    all_goals (try (go_quiet (fail); go_wp2))
    all_goals (try (go_quiet (fail); go_wp2))
    all_goals go_ret
    all_goals exact ⟨by rw [HG.out, if_neg (by omega), if_neg (by omega)]; rfl, ((Below.refl _ _).alloc (Nat.le_refl _) _).trans (((Drew.refl _).drewN _).below _)⟩
  · have hx1 := fun o' => c1 (by omega) (w.alloc o') (hA o')
    clear c1 c2 hA
    by_cases u1 : x1 < 128
    · have d1 : decide ((x1 : Int) < 128) = true := by simp; omega
      go_enter Tryd.func24, Tryd.ntmps24
      go_wp2
      all_goals (try (go_quiet (fail); go_wp2))
      all_goals (try (go_quiet (fail); go_wp2))
      all_goals go_ret
      all_goals exact ⟨by rw [HG.out, if_pos (by omega)]; rfl, ((Below.refl _ _).alloc (Nat.le_refl _) _).trans (((Drew.refl _).drewN _).below _)⟩
    have d1 : decide ((x1 : Int) < 128) = false := by simp; omega
    by_cases u2 : 191 < x1
    · have d2 : decide ((191 : Int) < x1) = true := by simp; omega
      go_enter Tryd.func24, Tryd.ntmps24
      go_wp2
      all_goals (try (go_quiet (fail); go_wp2))
      all_goals (try (go_quiet (fail); go_wp2))
      all_goals go_ret
      all_goals exact ⟨by rw [HG.out, if_pos (by omega)]; rfl, ((Below.refl _ _).alloc (Nat.le_refl _) _).trans (((Drew.refl _).drewN _).below _)⟩
    have d2 : decide ((191 : Int) < x1) = false := by simp; omega
    go_enter Tryd.func24, Tryd.ntmps24
    go_wp2
    all_goals (try (go_quiet (fail); go_wp2))
    all_goals (try (go_quiet (fail); go_wp2))
    all_goals go_ret
    all_goals exact ⟨by rw [HG.out, if_neg (by omega), if_neg (by omega)]; rfl, ((Below.refl _ _).alloc (Nat.le_refl _) _).trans (((Drew.refl _).drewN _).below _)⟩
set_option maxHeartbeats 4000000 in
set_option maxRecDepth 1000000 in
theorem full_35 (w : World) (b o n cap : Nat) (x0 x1 x2 : Nat) (hT : U8 w) (h0 : 0 < n) (hle : n ≤ cap) (hcap : cap ≤ maxLen) (hb : b < w.heap.size) (l0 : x0 < 256) (l1 : x1 < 256) (l2 : x2 < 256)
    (hx0 : w.cell? ⟨b, o, none⟩ = some (.int .u8 (x0 : Int))) (c1 : 1 < n → ∀ w', Below w.heap.size w w' → w'.cell? ⟨b, o + 1, none⟩ = some (.int .u8 (x1 : Int)))
    (c2 : 2 < n → ∀ w', Below w.heap.size w w' → w'.cell? ⟨b, o + 2, none⟩ = some (.int .u8 (x2 : Int))) (hX : firstT x0 = 35) :
    Calls Tryd.prog 24 #[.slice (some ⟨b, o, none⟩) n cap] w fun e w' => e = .returned (.bool (fullN n x0 x1 x2)) ∧ Below w.heap.size w w' := by
  have he : ((n : Int) == 0) = false := by simp; omega
  have he2 : (n : Int) ≠ 0 := by omega
  have hA : ∀ o', Below w.heap.size w (w.alloc o') := fun o' => (Below.refl _ _).alloc (Nat.le_refl _) _
  have hc0 := hT.1 x0 l0
  rw [hX] at hc0
  have hmod : bits .and .u8 35 7 = 3 := by decide
  have HF := Lib.hid (by rw [fullN, hX] : fullN n x0 x1 x2 = if 35 % 8 ≤ n then true else if 1 < n ∧ (x1 < accLo (35 / 16) ∨ accHi (35 / 16) < x1) then true else if 2 < n ∧ (x2 < 128 ∨ 191 < x2) then true else false)
  by_cases hn : 3 ≤ n
  · have hnz : (3 : Int) ≤ (n : Int) := by omega
    clear c1 c2 hT hX
    go_enter Tryd.func24, Tryd.ntmps24
    go_wp2
    go_ret
    exact ⟨by rw [HF.out, if_pos (by omega)]; rfl, Below.refl _ _⟩
  have hnz : ¬ (3 : Int) ≤ (n : Int) := by omega
  have ha0 := (hT.2 2 (by omega)).1
  have ha1 := (hT.2 2 (by omega)).2
  simp only [accLo, accHi, Nat.reduceMul, Nat.reduceAdd, Nat.reduceEqDiff, if_true, if_false] at ha0 ha1
  have HG := Lib.hid (HF.out.trans (if_neg (by omega)))
  simp only [accLo, accHi, Nat.reduceMod, Nat.reduceDiv, Nat.reduceEqDiff, if_true, if_false] at HG
  clear hX HF hT
  rcases (by omega : n = 1 ∨ n = 2) with rfl | rfl
  · clear c1 c2 hA
    go_enter Tryd.func24, Tryd.ntmps24
    go_wp2
    all_goals (try (go_quiet (fail); go_wp2))
    all_goals (try (go_quiet (fail); go_wp2))
    all_goals go_ret
    all_goals exact ⟨by rw [HG.out, if_neg (by omega), if_neg (by omega)]; rfl, ((Below.refl _ _).alloc (Nat.le_refl _) _).trans (((Drew.refl _).drewN _).below _)⟩
  · have hx1 := fun o' => c1 (by omega) (w.alloc o') (hA o')
    clear c1 c2 hA
    by_cases u1 : x1 < 128
    · have d1 : decide ((x1 : Int) < 128) = true := by simp; omega
      go_enter Tryd.func24, Tryd.ntmps24
      go_wp2
      all_goals (try (go_quiet (fail); go_wp2))
      all_goals (try (go_quiet (fail); go_wp2))
      all_goals go_ret
      all_goals exact ⟨by rw [HG.out, if_pos (by omega)]; rfl, ((Below.refl _ _).alloc (Nat.le_refl _) _).trans (((Drew.refl _).drewN _).below _)⟩
    have d1 : decide ((x1 : Int) < 128) = false := by simp; omega
    by_cases u2 : 159 < x1
    · have d2 : decide ((159 : Int) < x1) = true := by simp; omega
      go_enter Tryd.func24, Tryd.ntmps24
      go_wp2
      all_goals (try (go_quiet (fail); go_wp2))
      all_goals (try (go_quiet (fail); go_wp2))
      all_goals go_ret
      all_goals exact ⟨by rw [HG.out, if_pos (by omega)]; rfl, ((Below.refl _ _).alloc (Nat.le_refl _) _).trans (((Drew.refl _).drewN _).below _)⟩
    have d2 : decide ((159 : Int) < x1) = false := by simp; omega
    go_enter Tryd.func24, Tryd.ntmps24
    go_wp2
    all_goals (try (go_quiet (fail); go_wp2))
    all_goals (try (go_quiet (fail); go_wp2))
    all_goals go_ret
    all_goals exact ⟨by rw [HG.out, if_neg (by omega), if_neg (by omega)]; rfl, ((Below.refl _ _).alloc (Nat.le_refl _) _).trans (((Drew.refl _).drewN _).below _)⟩
set_option maxHeartbeats 4000000 in
set_option maxRecDepth 1000000 in
theorem full_52 (w : World) (b o n cap : Nat) (x0 x1 x2 : Nat) (hT : U8 w) (h0 : 0 < n) (hle : n ≤ cap) (hcap : cap ≤ maxLen) (hb : b < w.heap.size) (l0 : x0 < 256) (l1 : x1 < 256) (l2 : x2 < 256)
    (hx0 : w.cell? ⟨b, o, none⟩ = some (.int .u8 (x0 : Int))) (c1 : 1 < n → ∀ w', Below w.heap.size w w' → w'.cell? ⟨b, o + 1, none⟩ = some (.int .u8 (x1 : Int)))
    (c2 : 2 < n → ∀ w', Below w.heap.size w w' → w'.cell? ⟨b, o + 2, none⟩ = some (.int .u8 (x2 : Int))) (hX : firstT x0 = 52) :
    Calls Tryd.prog 24 #[.slice (some ⟨b, o, none⟩) n cap] w fun e w' => e = .returned (.bool (fullN n x0 x1 x2)) ∧ Below w.heap.size w w' := by
  have he : ((n : Int) == 0) = false := by simp; omega
  have he2 : (n : Int) ≠ 0 := by omega
  have hA : ∀ o', Below w.heap.size w (w.alloc o') := fun o' => (Below.refl _ _).alloc (Nat.le_refl _) _
  have hc0 := hT.1 x0 l0
  rw [hX] at hc0
  have hmod : bits .and .u8 52 7 = 4 := by decide
  have HF := Lib.hid (by rw [fullN, hX] : fullN n x0 x1 x2 = if 52 % 8 ≤ n then true else if 1 < n ∧ (x1 < accLo (52 / 16) ∨ accHi (52 / 16) < x1) then true else if 2 < n ∧ (x2 < 128 ∨ 191 < x2) then true else false)
  by_cases hn : 4 ≤ n
  · have hnz : (4 : Int) ≤ (n : Int) := by omega
    clear c1 c2 hT hX
    go_enter Tryd.func24, Tryd.ntmps24
    go_wp2
    go_ret
    exact ⟨by rw [HF.out, if_pos (by omega)]; rfl, Below.refl _ _⟩
  have hnz : ¬ (4 : Int) ≤ (n : Int) := by omega
  have ha0 := (hT.2 3 (by omega)).1
  have ha1 := (hT.2 3 (by omega)).2
  simp only [accLo, accHi, Nat.reduceMul, Nat.reduceAdd, Nat.reduceEqDiff, if_true, if_false] at ha0 ha1
  have HG := Lib.hid (HF.out.trans (if_neg (by omega)))
  simp only [accLo, accHi, Nat.reduceMod, Nat.reduceDiv, Nat.reduceEqDiff, if_true, if_false] at HG
  clear hX HF hT
  rcases (by omega : n = 1 ∨ n = 2 ∨ n = 3) with rfl | rfl | rfl
  · clear c1 c2 hA
    go_enter Tryd.func24, Tryd.ntmps24
    go_wp2
    all_goals (try (go_quiet (fail); go_wp2))
    all_goals (try (go_quiet (fail); go_wp2))
    all_goals go_ret
    all_goals exact ⟨by rw [HG.out, if_neg (by omega), if_neg (by omega)]; rfl, ((Below.refl _ _).alloc (Nat.le_refl _) _).trans (((Drew.refl _).drewN _).below _)⟩
  · have hx1 := fun o' => c1 (by omega) (w.alloc o') (hA o')
    clear c1 c2 hA
    by_cases u1 : x1 < 144
    · have d1 : decide ((x1 : Int) < 144) = true := by simp; omega
      go_enter Tryd.func24, Tryd.ntmps24
      go_wp2
      all_goals (try (go_quiet (fail); go_wp2))
      all_goals (try (go_quiet (fail); go_wp2))
      all_goals go_ret
      all_goals exact ⟨by rw [HG.out, if_pos (by omega)]; rfl, ((Below.refl _ _).alloc (Nat.le_refl _) _).trans (((Drew.refl _).drewN _).below _)⟩
    have d1 : decide ((x1 : Int) < 144) = false := by simp; omega
    by_cases u2 : 191 < x1
    · have d2 : decide ((191 : Int) < x1) = true := by simp; omega
      go_enter Tryd.func24, Tryd.ntmps24
      go_wp2
      all_goals (try (go_quiet (fail); go_wp2))
      all_goals (try (go_quiet (fail); go_wp2))
      all_goals go_ret
      all_goals exact ⟨by rw [HG.out, if_pos (by omega)]; rfl, ((Below.refl _ _).alloc (Nat.le_refl _) _).trans (((Drew.refl _).drewN _).below _)⟩
    have d2 : decide ((191 : Int) < x1) = false := by simp; omega
    go_enter Tryd.func24, Tryd.ntmps24
    go_wp2
    all_goals (try (go_quiet (fail); go_wp2))
    all_goals (try (go_quiet (fail); go_wp2))
    all_goals go_ret
    all_goals exact ⟨by rw [HG.out, if_neg (by omega), if_neg (by omega)]; rfl, ((Below.refl _ _).alloc (Nat.le_refl _) _).trans (((Drew.refl _).drewN _).below _)⟩
  · have hx1 := fun o' => c1 (by omega) (w.alloc o') (hA o')
    have hx2 := fun o' => c2 (by omega) (w.alloc o') (hA o')
    clear c1 c2 hA
    by_cases u1 : x1 < 144
    · have d1 : decide ((x1 : Int) < 144) = true := by simp; omega
      go_enter Tryd.func24, Tryd.ntmps24
      go_wp2
      all_goals (try (go_quiet (fail); go_wp2))
      all_goals (try (go_quiet (fail); go_wp2))
      all_goals go_ret
      all_goals exact ⟨by rw [HG.out, if_pos (by omega)]; rfl, ((Below.refl _ _).alloc (Nat.le_refl _) _).trans (((Drew.refl _).drewN _).below _)⟩
    have d1 : decide ((x1 : Int) < 144) = false := by simp; omega
    by_cases u2 : 191 < x1
    · have d2 : decide ((191 : Int) < x1) = true := by simp; omega
      go_enter Tryd.func24, Tryd.ntmps24
      go_wp2
      all_goals (try (go_quiet (fail); go_wp2))
      all_goals (try (go_quiet (fail); go_wp2))
      all_goals go_ret
      all_goals exact ⟨by rw [HG.out, if_pos (by omega)]; rfl, ((Below.refl _ _).alloc (Nat.le_refl _) _).trans (((Drew.refl _).drewN _).below _)⟩
    have d2 : decide ((191 : Int) < x1) = false := by simp; omega
    by_cases u3 : x2 < 128
    · have d3 : decide ((x2 : Int) < 128) = true := by simp; omega
      go_enter Tryd.func24, Tryd.ntmps24
      go_wp2
      all_goals (try (go_quiet (fail); go_wp2))
      all_goals (try (go_quiet (fail); go_wp2))
      all_goals go_ret
      all_goals exact ⟨by rw [HG.out, if_neg (by omega), if_pos (by omega)]; rfl, ((Below.refl _ _).alloc (Nat.le_refl _) _).trans (((Drew.refl _).drewN _).below _)⟩
    have d3 : decide ((x2 : Int) < 128) = false := by simp; omega
    by_cases u4 : 191 < x2
    · have d4 : decide ((191 : Int) < x2) = true := by simp; omega
      go_enter Tryd.func24, Tryd.ntmps24
      go_wp2
      all_goals (try (go_quiet (fail); go_wp2))
      all_goals (try (go_quiet (fail); go_wp2))
      all_goals go_ret
      all_goals exact ⟨by rw [HG.out, if_neg (by omega), if_pos (by omega)]; rfl, ((Below.refl _ _).alloc (Nat.le_refl _) _).trans (((Drew.refl _).drewN _).below _)⟩
    have d4 : decide ((191 : Int) < x2) = false := by simp; omega
    go_enter Tryd.func24, Tryd.ntmps24
    go_wp2
    all_goals (try (go_quiet (fail); go_wp2))
    all_goals (try (go_quiet (fail); go_wp2))
    all_goals go_ret
    all_goals exact ⟨by rw [HG.out, if_neg (by omega), if_neg (by omega)]; rfl, ((Below.refl _ _).alloc (Nat.le_refl _) _).trans (((Drew.refl _).drewN _).below _)⟩
set_option maxHeartbeats 4000000 in
set_option maxRecDepth 1000000 in
theorem full_4 (w : World) (b o n cap : Nat) (x0 x1 x2 : Nat) (hT : U8 w) (h0 : 0 < n) (hle : n ≤ cap) (hcap : cap ≤ maxLen) (hb : b < w.heap.size) (l0 : x0 < 256) (l1 : x1 < 256) (l2 : x2 < 256)
    (hx0 : w.cell? ⟨b, o, none⟩ = some (.int .u8 (x0 : Int))) (c1 : 1 < n → ∀ w', Below w.heap.size w w' → w'.cell? ⟨b, o + 1, none⟩ = some (.int .u8 (x1 : Int)))
    (c2 : 2 < n → ∀ w', Below w.heap.size w w' → w'.cell? ⟨b, o + 2, none⟩ = some (.int .u8 (x2 : Int))) (hX : firstT x0 = 4) :
    Calls Tryd.prog 24 #[.slice (some ⟨b, o, none⟩) n cap] w fun e w' => e = .returned (.bool (fullN n x0 x1 x2)) ∧ Below w.heap.size w w' := by
  have he : ((n : Int) == 0) = false := by simp; omega
  have he2 : (n : Int) ≠ 0 := by omega
  have hA : ∀ o', Below w.heap.size w (w.alloc o') := fun o' => (Below.refl _ _).alloc (Nat.le_refl _) _
  have hc0 := hT.1 x0 l0
  rw [hX] at hc0
  have hmod : bits .and .u8 4 7 = 4 := by decide
  have HF := Lib.hid (by rw [fullN, hX] : fullN n x0 x1 x2 = if 4 % 8 ≤ n then true else if 1 < n ∧ (x1 < accLo (4 / 16) ∨ accHi (4 / 16) < x1) then true else if 2 < n ∧ (x2 < 128 ∨ 191 < x2) then true else false)
  by_cases hn : 4 ≤ n
  · have hnz : (4 : Int) ≤ (n : Int) := by omega
    clear c1 c2 hT hX
    go_enter Tryd.func24, Tryd.ntmps24
    go_wp2
    go_ret
    exact ⟨by rw [HF.out, if_pos (by omega)]; rfl, Below.refl _ _⟩
  have hnz : ¬ (4 : Int) ≤ (n : Int) := by omega
  have ha0 := (hT.2 0 (by omega)).1
  have ha1 := (hT.2 0 (by omega)).2
  simp only [accLo, accHi, Nat.reduceMul, Nat.reduceAdd, Nat.reduceEqDiff, if_true, if_false] at ha0 ha1
  have HG := Lib.hid (HF.out.trans (if_neg (by omega)))
  simp only [accLo, accHi, Nat.reduceMod, Nat.reduceDiv, Nat.reduceEqDiff, if_true, if_false] at HG
  clear hX HF hT
  rcases (by omega : n = 1 ∨ n = 2 ∨ n = 3) with rfl | rfl | rfl
  · clear c1 c2 hA
    go_enter Tryd.func24, Tryd.ntmps24
    go_wp2
    all_goals (try (go_quiet (fail); go_wp2))
    all_goals (try (go_quiet (fail); go_wp2))
    all_goals go_ret
    all_goals exact ⟨by rw [HG.out, if_neg (by omega), if_neg (by omega)]; rfl, ((Below.refl _ _).alloc (Nat.le_refl _) _).trans (((Drew.refl _).drewN _).below _)⟩
  · have hx1 := fun o' => c1 (by omega) (w.alloc o') (hA o')
    clear c1 c2 hA
    by_cases u1 : x1 < 128
    · have d1 : decide ((x1 : Int) < 128) = true := by simp; omega
      go_enter Tryd.func24, Tryd.ntmps24
      go_wp2
      all_goals (try (go_quiet (fail); go_wp2))
      all_goals (try (go_quiet (fail); go_wp2))
      all_goals go_ret
      all_goals exact ⟨by rw [HG.out, if_pos (by omega)]; rfl, ((Below.refl _ _).alloc (Nat.le_refl _) _).trans (((Drew.refl _).drewN _).below _)⟩
    have d1 : decide ((x1 : Int) < 128) = false := by simp; omega
    by_cases u2 : 191 < x1
    · have d2 : decide ((191 : Int) < x1) = true := by simp; omega
      go_enter Tryd.func24, Tryd.ntmps24
      go_wp2
      all_goals (try (go_quiet (fail); go_wp2))
      all_goals (try (go_quiet (fail); go_wp2))
      all_goals go_ret
      all_goals exact ⟨by rw [HG.out, if_pos (by omega)]; rfl, ((Below.refl _ _).alloc (Nat.le_refl _) _).trans (((Drew.refl _).drewN _).below _)⟩
    have d2 : decide ((191 : Int) < x1) = false := by simp; omega
    go_enter Tryd.func24, Tryd.ntmps24
    go_wp2
    all_goals (try (go_quiet (fail); go_wp2))
    all_goals (try (go_quiet (fail); go_wp2))
    all_goals go_ret
    all_goals exact ⟨by rw [HG.out, if_neg (by omega), if_neg (by omega)]; rfl, ((Below.refl _ _).alloc (Nat.le_refl _) _).trans (((Drew.refl _).drewN _).below _)⟩
  · have hx1 := fun o' => c1 (by omega) (w.alloc o') (hA o')
    have hx2 := fun o' => c2 (by omega) (w.alloc o') (hA o')
    clear c1 c2 hA
    by_cases u1 : x1 < 128
    · have d1 : decide ((x1 : Int) < 128) = true := by simp; omega
      go_enter Tryd.func24, Tryd.ntmps24
      go_wp2
      all_goals (try (go_quiet (fail); go_wp2))
      all_goals (try (go_quiet (fail); go_wp2))
      all_goals go_ret
      all_goals exact ⟨by rw [HG.out, if_pos (by omega)]; rfl, ((Below.refl _ _).alloc (Nat.le_refl _) _).trans (((Drew.refl _).drewN _).below _)⟩
    have d1 : decide ((x1 : Int) < 128) = false := by simp; omega
    by_cases u2 : 191 < x1
    · have d2 : decide ((191 : Int) < x1) = true := by simp; omega
      go_enter Tryd.func24, Tryd.ntmps24
      go_wp2
      all_goals (try (go_quiet (fail); go_wp2))
      all_goals (try (go_quiet (fail); go_wp2))
      all_goals go_ret
      all_goals exact ⟨by rw [HG.out, if_pos (by omega)]; rfl, ((Below.refl _ _).alloc (Nat.le_refl _) _).trans (((Drew.refl _).drewN _).below _)⟩
    have d2 : decide ((191 : Int) < x1) = false := by simp; omega
    by_cases u3 : x2 < 128
    · have d3 : decide ((x2 : Int) < 128) = true := by simp; omega
      go_enter Tryd.func24, Tryd.ntmps24
      go_wp2
      all_goals (try (go_quiet (fail); go_wp2))
      all_goals (try (go_quiet (fail); go_wp2))
      all_goals go_ret
      all_goals exact ⟨by rw [HG.out, if_neg (by omega), if_pos (by omega)]; rfl, ((Below.refl _ _).alloc (Nat.le_refl _) _).trans (((Drew.refl _).drewN _).below _)⟩
    have d3 : decide ((x2 : Int) < 128) = false := by simp; omega
    by_cases u4 : 191 < x2
    · have d4 : decide ((191 : Int) < x2) = true := by simp; omega
      go_enter Tryd.func24, Tryd.ntmps24
      go_wp2
      all_goals (try (go_quiet (fail); go_wp2))
      all_goals (try (go_quiet (fail); go_wp2))
      all_goals go_ret
      all_goals exact ⟨by rw [HG.out, if_neg (by omega), if_pos (by omega)]; rfl, ((Below.refl _ _).alloc (Nat.le_refl _) _).trans (((Drew.refl _).drewN _).below _)⟩
    have d4 : decide ((191 : Int) < x2) = false := by simp; omega
    go_enter Tryd.func24, Tryd.ntmps24
    go_wp2
    all_goals (try (go_quiet (fail); go_wp2))
    all_goals (try (go_quiet (fail); go_wp2))
    all_goals go_ret
    all_goals exact ⟨by rw [HG.out, if_neg (by omega), if_neg (by omega)]; rfl, ((Below.refl _ _).alloc (Nat.le_refl _) _).trans (((Drew.refl _).drewN _).below _)⟩
set_option maxHeartbeats 4000000 in
set_option maxRecDepth 1000000 in
theorem full_68 (w : World) (b o n cap : Nat) (x0 x1 x2 : Nat) (hT : U8 w) (h0 : 0 < n) (hle : n ≤ cap) (hcap : cap ≤ maxLen) (hb : b < w.heap.size) (l0 : x0 < 256) (l1 : x1 < 256) (l2 : x2 < 256)
    (hx0 : w.cell? ⟨b, o, none⟩ = some (.int .u8 (x0 : Int))) (c1 : 1 < n → ∀ w', Below w.heap.size w w' → w'.cell? ⟨b, o + 1, none⟩ = some (.int .u8 (x1 : Int)))
    (c2 : 2 < n → ∀ w', Below w.heap.size w w' → w'.cell? ⟨b, o + 2, none⟩ = some (.int .u8 (x2 : Int))) (hX : firstT x0 = 68) :
    Calls Tryd.prog 24 #[.slice (some ⟨b, o, none⟩) n cap] w fun e w' => e = .returned (.bool (fullN n x0 x1 x2)) ∧ Below w.heap.size w w' := by
  have he : ((n : Int) == 0) = false := by simp; omega
  have he2 : (n : Int) ≠ 0 := by omega
  have hA : ∀ o', Below w.heap.size w (w.alloc o') := fun o' => (Below.refl _ _).alloc (Nat.le_refl _) _
  have hc0 := hT.1 x0 l0
  rw [hX] at hc0
  have hmod : bits .and .u8 68 7 = 4 := by decide
  have HF := Lib.hid (by rw [fullN, hX] : fullN n x0 x1 x2 = if 68 % 8 ≤ n then true else if 1 < n ∧ (x1 < accLo (68 / 16) ∨ accHi (68 / 16) < x1) then true else if 2 < n ∧ (x2 < 128 ∨ 191 < x2) then true else false)
  by_cases hn : 4 ≤ n
  · have hnz : (4 : Int) ≤ (n : Int) := by omega
    clear c1 c2 hT hX
    go_enter Tryd.func24, Tryd.ntmps24
    go_wp2
    go_ret
    exact ⟨by rw [HF.out, if_pos (by omega)]; rfl, Below.refl _ _⟩
  have hnz : ¬ (4 : Int) ≤ (n : Int) := by omega
  have ha0 := (hT.2 4 (by omega)).1
  have ha1 := (hT.2 4 (by omega)).2
  simp only [accLo, accHi, Nat.reduceMul, Nat.reduceAdd, Nat.reduceEqDiff, if_true, if_false] at ha0 ha1
  have HG := Lib.hid (HF.out.trans (if_neg (by omega)))
  simp only [accLo, accHi, Nat.reduceMod, Nat.reduceDiv, Nat.reduceEqDiff, if_true, if_false] at HG
  clear hX HF hT
  rcases (by omega : n = 1 ∨ n = 2 ∨ n = 3) with rfl | rfl | rfl
  · clear c1 c2 hA
    go_enter Tryd.func24, Tryd.ntmps24
    go_wp2
    all_goals (try (go_quiet (fail); go_wp2))
    all_goals (try (go_quiet (fail); go_wp2))
    all_goals go_ret
    all_goals exact ⟨by rw [HG.out, if_neg (by omega), if_neg (by omega)]; rfl, ((Below.refl _ _).alloc (Nat.le_refl _) _).trans (((Drew.refl _).drewN _).below _)⟩
  · have hx1 := fun o' => c1 (by omega) (w.alloc o') (hA o')
    clear c1 c2 hA
    by_cases u1 : x1 < 128
    · have d1 : decide ((x1 : Int) < 128) = true := by simp; omega
      go_enter Tryd.func24, Tryd.ntmps24
      go_wp2
      all_goals (try (go_quiet (fail); go_wp2))
      all_goals (try (go_quiet (fail); go_wp2))
      all_goals go_ret
      all_goals exact ⟨by rw [HG.out, if_pos (by omega)]; rfl, ((Below.refl _ _).alloc (Nat.le_refl _) _).trans (((Drew.refl _).drewN _).below _)⟩
    have d1 : decide ((x1 : Int) < 128) = false := by simp; omega
    by_cases u2 : 143 < x1
    · have d2 : decide ((143 : Int) < x1) = true := by simp; omega
      go_enter Tryd.func24, Tryd.ntmps24
      go_wp2
      all_goals (try (go_quiet (fail); go_wp2))
      all_goals (try (go_quiet (fail); go_wp2))
      all_goals go_ret
      all_goals exact ⟨by rw [HG.out, if_pos (by omega)]; rfl, ((Below.refl _ _).alloc (Nat.le_refl _) _).trans (((Drew.refl _).drewN _).below _)⟩
    have d2 : decide ((143 : Int) < x1) = false := by simp; omega
    go_enter Tryd.func24, Tryd.ntmps24
    go_wp2
    all_goals (try (go_quiet (fail); go_wp2))
    all_goals (try (go_quiet (fail); go_wp2))
    all_goals go_ret
    all_goals exact ⟨by rw [HG.out, if_neg (by omega), if_neg (by omega)]; rfl, ((Below.refl _ _).alloc (Nat.le_refl _) _).trans (((Drew.refl _).drewN _).below _)⟩
  · have hx1 := fun o' => c1 (by omega) (w.alloc o') (hA o')
    have hx2 := fun o' => c2 (by omega) (w.alloc o') (hA o')
    clear c1 c2 hA
    by_cases u1 : x1 < 128
    · have d1 : decide ((x1 : Int) < 128) = true := by simp; omega
      go_enter Tryd.func24, Tryd.ntmps24
      go_wp2
      all_goals (try (go_quiet (fail); go_wp2))
      all_goals (try (go_quiet (fail); go_wp2))
      all_goals go_ret
      all_goals exact ⟨by rw [HG.out, if_pos (by omega)]; rfl, ((Below.refl _ _).alloc (Nat.le_refl _) _).trans (((Drew.refl _).drewN _).below _)⟩
    have d1 : decide ((x1 : Int) < 128) = false := by simp; omega
    by_cases u2 : 143 < x1
    · have d2 : decide ((143 : Int) < x1) = true := by simp; omega
      go_enter Tryd.func24, Tryd.ntmps24
      go_wp2
      all_goals (try (go_quiet (fail); go_wp2))
      all_goals (try (go_quiet (fail); go_wp2))
      all_goals go_ret
      all_goals exact ⟨by rw [HG.out, if_pos (by omega)]; rfl, ((Below.refl _ _).alloc (Nat.le_refl _) _).trans (((Drew.refl _).drewN _).below _)⟩
    have d2 : decide ((143 : Int) < x1) = false := by simp; omega
    by_cases u3 : x2 < 128
    · have d3 : decide ((x2 : Int) < 128) = true := by simp; omega
      go_enter Tryd.func24, Tryd.ntmps24
      go_wp2
      all_goals (try (go_quiet (fail); go_wp2))
      all_goals (try (go_quiet (fail); go_wp2))
      all_goals go_ret
      all_goals exact ⟨by rw [HG.out, if_neg (by omega), if_pos (by omega)]; rfl, ((Below.refl _ _).alloc (Nat.le_refl _) _).trans (((Drew.refl _).drewN _).below _)⟩
    have d3 : decide ((x2 : Int) < 128) = false := by simp; omega
    by_cases u4 : 191 < x2
    · have d4 : decide ((191 : Int) < x2) = true := by simp; omega
      go_enter Tryd.func24, Tryd.ntmps24
      go_wp2
      all_goals (try (go_quiet (fail); go_wp2))
      all_goals (try (go_quiet (fail); go_wp2))
      all_goals go_ret
      all_goals exact ⟨by rw [HG.out, if_neg (by omega), if_pos (by omega)]; rfl, ((Below.refl _ _).alloc (Nat.le_refl _) _).trans (((Drew.refl _).drewN _).below _)⟩
    have d4 : decide ((191 : Int) < x2) = false := by simp; omega
    go_enter Tryd.func24, Tryd.ntmps24
    go_wp2
    all_goals (try (go_quiet (fail); go_wp2))
    all_goals (try (go_quiet (fail); go_wp2))
    all_goals go_ret
    all_goals exact ⟨by rw [HG.out, if_neg (by omega), if_neg (by omega)]; rfl, ((Below.refl _ _).alloc (Nat.le_refl _) _).trans (((Drew.refl _).drewN _).below _)⟩
theorem full_calls (w : World) (ao : Option Addr) (n cap : Nat) (xs : List Int) (h : Rb w ao n cap xs) (hT : U8 w) :
    Calls Tryd.prog 24 #[.slice ao n cap] w fun e w' => e = .returned (.bool (fullB xs)) ∧ Below w.heap.size w w' := by
  have hle := h.rd.le
  have hcap := h.rd.cap_le
  rcases Nat.eq_zero_or_pos n with rfl | h0
  · have HD := Lib.hid (show fullB xs = false by rw [fullB, if_pos h.rd.len])
    clear hT
    go_enter Tryd.func24, Tryd.ntmps24
    go_wp2
    go_ret
    exact ⟨by rw [HD.out]; rfl, Below.refl _ _⟩
  · obtain ⟨b, o, x0, x1, x2, x3, rfl, hb, l0, l1, l2, l3, c0, c1, c2, c3, _, hd⟩ := h.four h0
    have hx0 := c0 w (Below.refl _ _)
    rw [hd]
    rcases firstT_cases x0 with hX | hX | hX | hX | hX | hX | hX | hX | hX
    · exact full_240 w b o n cap x0 x1 x2 hT h0 hle hcap hb l0 l1 l2 hx0 c1 c2 hX
    · exact full_241 w b o n cap x0 x1 x2 hT h0 hle hcap hb l0 l1 l2 hx0 c1 c2 hX
    · exact full_2 w b o n cap x0 x1 x2 hT h0 hle hcap hb l0 l1 l2 hx0 c1 c2 hX
    · exact full_19 w b o n cap x0 x1 x2 hT h0 hle hcap hb l0 l1 l2 hx0 c1 c2 hX
    · exact full_3 w b o n cap x0 x1 x2 hT h0 hle hcap hb l0 l1 l2 hx0 c1 c2 hX
    · exact full_35 w b o n cap x0 x1 x2 hT h0 hle hcap hb l0 l1 l2 hx0 c1 c2 hX
    · exact full_52 w b o n cap x0 x1 x2 hT h0 hle hcap hb l0 l1 l2 hx0 c1 c2 hX
    · exact full_4 w b o n cap x0 x1 x2 hT h0 hle hcap hb l0 l1 l2 hx0 c1 c2 hX
    · exact full_68 w b o n cap x0 x1 x2 hT h0 hle hcap hb l0 l1 l2 hx0 c1 c2 hX
end Go.Proofs.YtbbfifaojepjiaaDoor
