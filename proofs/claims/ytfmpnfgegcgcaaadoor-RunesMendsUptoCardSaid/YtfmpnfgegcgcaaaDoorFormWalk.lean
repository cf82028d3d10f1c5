/- The walk of gimletref01.Form. -/
import Derived.Test.YtfmpnfgegcgcaaaDoorSameWalk
import Derived.Lib.RuneBytes
namespace Go.Proofs.YtfmpnfgegcgcaaaDoor
open Go.RowKit Gim
def GivesForm (w : World) (xs : List Int) (e : Ending) (w' : World) : Prop := ∃ v, e = .returned v ∧ Row w' w.heap.size 5 .u8 v xs ∧ Below w.heap.size w w'
set_option maxRecDepth 20000 in
set_option maxHeartbeats 4000000 in
theorem form_none (w : World) (r : Int) (h : r < 0 ∨ 1114111 < r ∨ (55296 ≤ r ∧ r ≤ 57343)) :
    Calls Tryd.prog 68 #[.int .i64 r] w fun e w' => e = .returned (.slice none 0 0) ∧ w' = w := by
  rcases h with h | h | ⟨h, h2⟩
  all_goals
    go_enter Tryd.func68, Tryd.ntmps68
    go_wp2
    go_ret
    exact ⟨rfl, rfl⟩
theorem row_new (w : World) (t : TypeId) (k : IntKind) (a : Array Value) (xs : List Int) (n : Nat) (h : a.toList = xs.map (Value.int k)) (hn : n = xs.length) (hm : n ≤ maxLen) : Row (w.alloc (.cells a t)) w.heap.size t k (.slice (some ⟨w.heap.size, 0, none⟩) n n) xs := by
  subst hn
  have hz : a.size = xs.length := by rw [← Array.length_toList, h, List.length_map]
  exact ⟨by simp, .inr ⟨w.heap.size, xs.length, a, rfl, Nat.le_refl _, heap_alloc_new w _, Nat.le_refl _, hm, by rw [hz]; omega, by rw [h, Nat.mul_one, List.take_of_length_le (by simp)]⟩⟩
set_option maxRecDepth 20000 in
set_option maxHeartbeats 4000000 in
theorem form_calls (w : World) (n : Nat) (h : Ch (n : Int)) :
    Calls Tryd.prog 68 #[.int .i64 n] w (GivesForm w (Lib.encodeRuneZ n)) := by
  unfold Ch at h
  by_cases h1 : n < 128
  · rw [show Lib.encodeRuneZ n = [((n : Nat) : Int)] from Lib.encodeRuneZ_one (by omega) (by omega)]
    go_enter Tryd.func68, Tryd.ntmps68
    go_wp2
    go_ret
    exact ⟨_, rfl, row_new _ _ _ _ _ _ rfl rfl (by decide), (Below.refl _ _).alloc (Nat.le_refl _) _⟩
  by_cases h2 : n < 2048
  · rw [Lib.encodeRuneZ_two (by omega) (by omega)]
    go_enter Tryd.func68, Tryd.ntmps68
    go_wp2
    go_ret
    exact ⟨_, rfl, row_new _ _ _ _ _ _ rfl rfl (by decide), (Below.refl _ _).alloc (Nat.le_refl _) _⟩
  by_cases h3 : n < 65536
  · rw [Lib.encodeRuneZ_three (by omega)]
    obtain ⟨D, hD⟩ : ∃ D : Nat, (n : Int) / 64 = (D : Int) := ⟨n / 64, by omega⟩
    obtain ⟨A, hA⟩ : ∃ A : Nat, (n : Int) / 4096 = (A : Int) := ⟨n / 4096, by omega⟩
    obtain ⟨E, hE⟩ : ∃ E : Nat, (D : Int) % 64 = (E : Int) := ⟨D % 64, by omega⟩
    obtain ⟨C, hC⟩ : ∃ C : Nat, (n : Int) % 64 = (C : Int) := ⟨n % 64, by omega⟩
    have hA15 : A ≤ 15 := by omega
    have hE63 : E ≤ 63 := by omega
    have hC63 : C ≤ 63 := by omega
    have hD4 : D ≤ 1023 := by omega
    rw [hD, hA, hE, hC]
    have d1 : decide ((n : Int) < 0) = false := by simp
    have d2 : decide ((1114111 : Int) < n) = false := by simp; omega
    have d5 : decide ((n : Int) < 128) = false := by simp; omega
    have d6 : decide ((n : Int) < 2048) = false := by simp; omega
    have d7 : decide ((n : Int) < 65536) = true := by simp; omega
    have hb : (n : Int) ≤ 65535 ∧ 0 ≤ (n : Int) := by omega
    obtain ⟨hb1, hb0⟩ := hb
    by_cases hs : n < 55296
    · have d3 : decide ((55296 : Int) ≤ n) = false := by simp; omega
      clear h h1 h2 h3 hs
      go_enter Tryd.func68, Tryd.ntmps68
      go_wp2
      go_ret
      exact ⟨_, rfl, row_new _ _ _ _ _ _ rfl rfl (by decide), (Below.refl _ _).alloc (Nat.le_refl _) _⟩
    · have d3 : decide ((55296 : Int) ≤ n) = true := by simp; omega
      have d4 : decide ((n : Int) ≤ 57343) = false := by simp; omega
      clear h h1 h2 h3 hs
      go_enter Tryd.func68, Tryd.ntmps68
      go_wp2
      go_ret
      exact ⟨_, rfl, row_new _ _ _ _ _ _ rfl rfl (by decide), (Below.refl _ _).alloc (Nat.le_refl _) _⟩
  · rw [Lib.encodeRuneZ_four (by omega) (by omega)]
    obtain ⟨F, hF⟩ : ∃ F : Nat, (n : Int) / 262144 = (F : Int) := ⟨n / 262144, by omega⟩
    obtain ⟨D, hD⟩ : ∃ D : Nat, (n : Int) / 64 = (D : Int) := ⟨n / 64, by omega⟩
    obtain ⟨A, hA⟩ : ∃ A : Nat, (n : Int) / 4096 = (A : Int) := ⟨n / 4096, by omega⟩
    obtain ⟨G, hG⟩ : ∃ G : Nat, (A : Int) % 64 = (G : Int) := ⟨A % 64, by omega⟩
    obtain ⟨E, hE⟩ : ∃ E : Nat, (D : Int) % 64 = (E : Int) := ⟨D % 64, by omega⟩
    obtain ⟨C, hC⟩ : ∃ C : Nat, (n : Int) % 64 = (C : Int) := ⟨n % 64, by omega⟩
    have hF4 : F ≤ 4 := by omega
    have hG63 : G ≤ 63 := by omega
    have hE63 : E ≤ 63 := by omega
    have hC63 : C ≤ 63 := by omega
    have hD4 : D ≤ 17407 := by omega
    have hA4 : A ≤ 271 := by omega
    rw [hF, hA, hG, hD, hE, hC]
    have d1 : decide ((n : Int) < 0) = false := by simp
    have d2 : decide ((1114111 : Int) < n) = false := by simp; omega
    have d3 : decide ((55296 : Int) ≤ n) = true := by simp; omega
    have d4 : decide ((n : Int) ≤ 57343) = false := by simp; omega
    have d5 : decide ((n : Int) < 128) = false := by simp; omega
    have d6 : decide ((n : Int) < 2048) = false := by simp; omega
    have d7 : decide ((n : Int) < 65536) = false := by simp; omega
    have hb : (n : Int) ≤ 1114111 ∧ 0 ≤ (n : Int) := by omega
    obtain ⟨hb1, hb0⟩ := hb
    clear h h1 h2 h3
    go_enter Tryd.func68, Tryd.ntmps68
    go_wp2
    go_ret
    exact ⟨_, rfl, row_new _ _ _ _ _ _ rfl rfl (by decide), (Below.refl _ _).alloc (Nat.le_refl _) _⟩
end Go.Proofs.YtfmpnfgegcgcaaaDoor
