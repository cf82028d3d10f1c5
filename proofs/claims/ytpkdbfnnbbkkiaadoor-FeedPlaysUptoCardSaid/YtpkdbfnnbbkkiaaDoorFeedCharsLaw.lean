/- What a Feed gives of a text that is characters all through. Plain. -/
import Derived.Test.YtpkdbfnnbbkkiaaDoorFeedEagerLaw
import Derived.Test.YtpkdbfnnbbkkiaaDoorPlacesLaw
import Derived.Test.YtpkdbfnnbbkkiaaDoorBackLaw
namespace Gim
open Go Go.Lib
theorem firstT_bound (b : Nat) : (b < 194 → firstT b % 8 ≤ 1) ∧ (b < 224 → firstT b % 8 ≤ 2) ∧ (b < 240 → firstT b % 8 ≤ 3) ∧ firstT b % 8 ≤ 4 := by
  unfold firstT
  repeat' split
  all_goals omega
theorem head_of {n m k : Nat} (hm : m < 256) (hk : firstT m % 8 ≤ k) (h13 : m = 13 ↔ n = 13) (h10 : m = 10 ↔ n = 10) : firstT (UInt8.ofNat m).toNat % 8 ≤ k ∧ ((((UInt8.ofNat m).toNat : Int) = 13) ↔ (n : Int) = 13) ∧ ((((UInt8.ofNat m).toNat : Int) = 10) ↔ (n : Int) = 10) := by
  have h := u8_10 hm
  have h2 : (UInt8.ofNat m).toNat = m := by omega
  rw [h2]
  exact ⟨hk, by omega, by omega⟩
theorem enc_head {r : Int} (h : Ch r) : ∃ b t, enc r = b :: t ∧ firstT b.toNat % 8 ≤ (enc r).length ∧ (((b.toNat : Int) = 13) ↔ r = 13) ∧ (((b.toNat : Int) = 10) ↔ r = 10) := by
  unfold Ch at h
  obtain ⟨n, rfl, ⟨_, e⟩ | ⟨_, _, e⟩ | ⟨_, _, e⟩ | ⟨_, _, e⟩⟩ := enc_cases (show Ch r from h)
  · exact ⟨_, _, e, by rw [e]; exact head_of (by omega) ((firstT_bound _).1 (by omega)) (by omega) (by omega)⟩
  · exact ⟨_, _, e, by rw [e]; exact head_of (by omega) ((firstT_bound _).2.1 (by omega)) (by omega) (by omega)⟩
  · exact ⟨_, _, e, by rw [e]; exact head_of (by omega) ((firstT_bound _).2.2.1 (by omega)) (by omega) (by omega)⟩
  · exact ⟨_, _, e, by rw [e]; exact head_of (by omega) (firstT_bound _).2.2.2 (by omega) (by omega)⟩
theorem encs_nil : encs [] = [] := rfl
theorem gt_bz_cons {b : UInt8} {t : List UInt8} : gt (bz (b :: t)) 0 = (b.toNat : Int) := by simp [gt, bz]
theorem first_char {r : Int} {m : List Int} (hr : Ch r) (h13 : r ≠ 13) (e : Bool) : firstB (bz (encs (r :: m))) e = (r, ((enc r).length : Int), 0) := by
  obtain ⟨b, t, he, hf, hb, _⟩ := enc_head hr
  have hl := enc_len hr
  have hlen : (bz (encs (r :: m))).length = (enc r).length + (encs m).length := by rw [bz_length, encs_cons, List.length_append]
  have hg : gt (bz (encs (r :: m))) 0 = (b.toNat : Int) := by rw [encs_cons, he, List.cons_append, gt_bz_cons]
  have hd : decB (bz (encs (r :: m))) = (r.toNat, (enc r).length) := by
    rw [decB_bz (by rw [encs_cons, he]; simp), encs_cons, dec_enc hr]
  have hfull : fullB (bz (encs (r :: m))) = true := by
    unfold fullB
    rw [if_neg (by omega), hlen]
    have : bn (bz (encs (r :: m))) 0 = b.toNat := by
      unfold bn
      rw [hg]
      simp
    rw [this]
    exact fullN_whole (by omega)
  have hr0 : 0 ≤ r := by unfold Ch at hr; omega
  rw [firstB_ne e (by omega) (by rw [hg]; exact fun hh => h13 (hb.1 hh)), if_neg (by rw [hfull]; decide), hd, if_neg]
  · show ((r.toNat : Int), ((enc r).length : Int), (0 : Int)) = _
    rw [Int.toNat_of_nonneg hr0]
  · rintro ⟨h1, h2⟩
    have := hl.2.2 h2
    simp only [] at h1
    omega
theorem enc13 : enc 13 = [13] := by decide
theorem enc10 : enc 10 = [10] := by decide
theorem first_crlf {m : List Int} (e : Bool) : firstB (bz (encs (13 :: 10 :: m))) e = (10, 2, 0) := by
  have h : bz (encs (13 :: 10 :: m)) = 13 :: 10 :: bz (encs m) := by rw [encs_cons, encs_cons, enc13, enc10]; simp [bz]
  rw [h, firstB_cr e (by simp) (by simp [gt]), if_pos ⟨by simp, by simp [gt]⟩]
theorem first_cr {m : List Int} (hm : ∀ x ∈ m, Ch x) (h10 : m.head? ≠ some 10) : firstB (bz (encs (13 :: m))) true = (10, 1, 0) := by
  have h : bz (encs (13 :: m)) = 13 :: bz (encs m) := by rw [encs_cons, enc13]; simp [bz]
  rw [h, firstB_cr true (by simp) (by simp [gt])]
  rw [if_neg, if_pos (.inr rfl)]
  rintro ⟨h1, h2⟩
  cases m with
  | nil => simp [encs, bz] at h1
  | cons c m =>
    obtain ⟨b, t, he, _, _, hb⟩ := enc_head (hm c List.mem_cons_self)
    rw [encs_cons, he] at h2
    have : gt (13 :: bz (b :: t ++ encs m)) 1 = (b.toNat : Int) := by simp [gt, bz]
    rw [this] at h2
    exact h10 (by rw [hb.1 h2]; rfl)
/-- the next character that a Feed gives: it, its width, what lies behind it -/
def turnC (r : Int) (m : List Int) : Int × Int × List Int :=
  if r = 13 then (if m.head? = some 10 then (10, 2, m.tail) else (10, 1, m)) else (r, ((enc r).length : Int), m)
theorem turn_drop {r : Int} {m : List Int} (hc : ∀ x ∈ r :: m, Ch x) : firstB (bz (encs (r :: m))) true = ((turnC r m).1, (turnC r m).2.1, 0) ∧ (bz (encs (r :: m))).drop (turnC r m).2.1.toNat = bz (encs (turnC r m).2.2) := by
  unfold turnC
  by_cases h13 : r = 13
  · subst h13
    rw [if_pos rfl]
    by_cases h10 : m.head? = some 10
    · rw [if_pos h10]
      cases m with
      | nil => simp at h10
      | cons c m =>
        simp only [List.head?_cons, Option.some.injEq] at h10
        subst h10
        refine ⟨first_crlf true, ?_⟩
        show (bz (encs (13 :: 10 :: m))).drop 2 = bz (encs m)
        rw [encs_cons, encs_cons, enc13, enc10]
        simp [bz]
    · rw [if_neg h10]
      refine ⟨first_cr (fun x hx => hc x (List.mem_cons_of_mem _ hx)) h10, ?_⟩
      show (bz (encs (13 :: m))).drop 1 = bz (encs m)
      rw [encs_cons, enc13]
      simp [bz]
  · rw [if_neg h13]
    refine ⟨first_char (hc r List.mem_cons_self) h13 true, ?_⟩
    show (bz (encs (r :: m))).drop ((enc r).length : Int).toNat = bz (encs m)
    rw [Int.toNat_natCast, encs_cons, bz_append, show (enc r).length = (bz (enc r)).length by rw [bz_length], List.drop_left]
theorem drain_turn {r : Int} {m : List Int} (hc : ∀ x ∈ r :: m, Ch x) (q : Pl) : drainB (bz (encs (r :: m))) q true =
    (((turnC r m).1, q, (turnC r m).2.1) :: (drainB (bz (encs (turnC r m).2.2)) (behind q (turnC r m).1 (turnC r m).2.1) true).1, (drainB (bz (encs (turnC r m).2.2)) (behind q (turnC r m).1 (turnC r m).2.1) true).2) := by
  obtain ⟨h1, h2⟩ := turn_drop hc
  rw [drainB_have (by rw [h1]), h1]
  simp only []
  rw [h2]
theorem turn_sub {r : Int} {m : List Int} : ∀ x ∈ (turnC r m).2.2, x ∈ r :: m := by
  intro x hx
  unfold turnC at hx
  split at hx
  · split at hx
    · exact List.mem_cons_of_mem _ (List.mem_of_mem_tail hx)
    · exact List.mem_cons_of_mem _ hx
  · exact List.mem_cons_of_mem _ hx
theorem turn_len {r : Int} {m : List Int} : (turnC r m).2.2.length ≤ m.length := by
  unfold turnC
  split
  · split
    · simp
    · simp
  · simp
theorem drain_all : ∀ (n : Nat) (l : List Int) (q : Pl), l.length ≤ n → (∀ x ∈ l, Ch x) → (drainB (bz (encs l)) q true).2.1 = []
  | n, [], q, _, _ => by rw [encs_nil, show bz [] = [] from rfl, drainB_stop (first_nil true)]
  | 0, r :: m, q, hn, _ => by simp at hn
  | n + 1, r :: m, q, hn, hc => by
    rw [drain_turn hc]
    exact drain_all n _ _ (by have := turn_len (r := r) (m := m); simp at hn; omega) (fun x hx => hc x (turn_sub x hx))
/-- the place ahead of Y, behind X -/
def plC (X Y : List Int) : Pl := (((encs X).length : Int), fC X Y.head? (0, 1, 1))
theorem plC_step (X : List Int) (r : Int) (m : List Int) : plC (X ++ [r]) m = ((((encs X).length + (enc r).length : Nat) : Int), stepC (plC X (r :: m)).2 (endC r m.head?)) := by
  unfold plC
  rw [encs_append, List.length_append, fC_app]
  rw [show (encs [r]).length = (enc r).length by simp [encs]]
  rfl
/-- the place behind the next character -/
theorem behind_turn (X : List Int) (r : Int) (m : List Int) (h10 : r ≠ 13 ∨ m.head? ≠ some 10) : behind (plC X (r :: m)) (turnC r m).1 (turnC r m).2.1 = plC (X ++ [r]) m := by
  rw [plC_step]
  have hp : (plC X (r :: m)).1 = ((encs X).length : Int) := rfl
  generalize plC X (r :: m) = P at hp ⊢
  obtain ⟨p1, p2, p3, p4⟩ := P
  have hp : p1 = ((encs X).length : Int) := hp
  unfold turnC behind stepC endC
  by_cases h13 : r = 13
  · subst h13
    have h10 : m.head? ≠ some 10 := h10.resolve_left (fun h => h rfl)
    rw [if_pos rfl, if_neg h10, enc13]
    simp [hp, h10]
  · rw [if_neg h13]
    by_cases hr : r = 10
    · subst hr
      rw [enc10]
      simp [hp]
    · simp [hr, h13, hp]
theorem behind_crlf (X m : List Int) : behind (plC X (13 :: 10 :: m)) 10 2 = plC (X ++ [13] ++ [10]) m := by
  rw [plC_step, plC_step]
  have hp : (plC X (13 :: 10 :: m)).1 = ((encs X).length : Int) := rfl
  generalize plC X (13 :: 10 :: m) = P at hp ⊢
  obtain ⟨p1, p2, p3, p4⟩ := P
  have hp : p1 = ((encs X).length : Int) := hp
  unfold behind stepC endC
  rw [encs_append, List.length_append, enc10, show (encs [13]).length = 1 by decide]
  simp [hp]
  omega
end Gim
