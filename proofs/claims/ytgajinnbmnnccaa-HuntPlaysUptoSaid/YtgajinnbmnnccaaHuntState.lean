/- What Truth answers of a Hunt, by the characters that came; Close; into, asked and awake of gimletlaw16. -/
import Derived.Test.YtgajinnbmnnccaaHuntNew
import Derived.Test.YtgajinnbmnnccaaOrd
namespace Go.Proofs.Ytgajinnbmnnccaa
open Go.RowKit Gim
/-- what is known of the comparison c with T and N where l has come -/
def tB (c : Int) (N : Nat) (T l : List Int) (whole : Bool) : Int :=
  if c = 0 then 2
  else if c = 1 then toldZ (whole && decide (l.length = T.length) && !offB l T) (offB l T || decide (T.length < l.length)) whole
  else if c = 2 then 2 - toldZ (whole && decide (l.length = T.length) && !offB l T) (offB l T || decide (T.length < l.length)) whole
  else if c = 3 then toldZ (!offB l T && decide (T.length ≤ l.length)) (offB l T) whole
  else if c = 4 then toldZ (whole && endsB l T) false whole
  else if c = 5 then toldZ (fndB l T) false whole
  else if c = 6 then toldZ (whole && decide (l.length = N)) (decide (N < l.length)) whole
  else if c = 7 then toldZ (decide (N < l.length)) false whole
  else toldZ (whole && decide (l.length < N)) (decide (N ≤ l.length)) whole
theorem mx_ends {l T : List Int} {k : Nat} (h : Mx l T k) : decide (k = T.length) = endsB l T := by
  rw [Bool.eq_iff_iff, decide_eq_true_eq]
  unfold endsB
  rw [Bool.and_eq_true, decide_eq_true_eq, ← isM_stands (Nat.le_refl _)]
  constructor
  · rintro rfl; exact h.1
  · intro hm
    have h1 := h.2 _ hm
    have h2 := h.1.2.1
    omega
theorem truth_tB {c : Int} {N : Nat} {T l : List Int} {k : Nat} {whole : Bool} (h : Mx l T k) : truthZ c N T.length (cameN l T N) k (offB l T) (fdB c l T) whole = tB c N T l whole := by
  have hc : cameN l T N = min l.length (max N T.length + 1) := rfl
  unfold truthZ tB
  rw [mx_ends h, show decide (cameN l T N = T.length) = decide (l.length = T.length) from decide_eq_decide.2 (by omega),
    show decide (T.length < cameN l T N) = decide (T.length < l.length) from decide_eq_decide.2 (by omega),
    show decide (T.length ≤ cameN l T N) = decide (T.length ≤ l.length) from decide_eq_decide.2 (by omega),
    show decide ((cameN l T N : Int) = N) = decide (l.length = N) from decide_eq_decide.2 (by omega),
    show decide ((N : Int) < cameN l T N) = decide (N < l.length) from decide_eq_decide.2 (by omega),
    show decide ((cameN l T N : Int) < N) = decide (l.length < N) from decide_eq_decide.2 (by omega),
    show decide ((N : Int) ≤ cameN l T N) = decide (N ≤ l.length) from decide_eq_decide.2 (by omega)]
  by_cases h5 : c = 5
  · subst h5
    rw [show fdB 5 l T = fndB l T by simp [fdB]]
  · simp only [h5, if_false]
theorem St.drewN {w : World} {B H : Nat} {c : Int} {N : Nat} {T : List Int} {tv bv : Value} {l : List Int} {whole : Bool} (h : St w B H c N T tv bv l whole) (n : Nat) : St (w.drewN n) B H c N T tv bv l whole := h.fr ((Fr.refl (fun _ => False) w).drewN n) (fun x => x) (fun _ _ x => x)
/-- Truth -/
theorem St.truth {w : World} {B H : Nat} {c : Int} {N : Nat} {T : List Int} {tv bv : Value} {l : List Int} {whole : Bool} (h : St w B H c N T tv bv l whole) (h0 : 0 ≤ c) (h8 : c ≤ 8) :
    Calls Try.prog 12 #[.pointer (some ⟨H, 0, none⟩)] w fun e w' => e = .returned (.int .i64 (tB c N T l whole)) ∧ ∃ m, w' = w.drewN m := by
  obtain ⟨k, hm, hk⟩ := h
  refine (truth_calls w B H c N T tv bv _ k _ _ whole hm h0 h8).mono ?_
  rintro e w' ⟨rfl, hw⟩
  rw [truth_tB hk]
  exact ⟨rfl, hw⟩
/-- Close -/
theorem St.close {w : World} {B H : Nat} {c : Int} {N : Nat} {T : List Int} {tv bv : Value} {l : List Int} {whole : Bool} (h : St w B H c N T tv bv l whole) :
    Calls Try.prog 11 #[.pointer (some ⟨H, 0, none⟩)] w (Adds w B H c N T tv bv l true (.int .i64 (if whole then 5 else 0))) := by
  obtain ⟨k, hm, hk⟩ := h
  refine (close_calls w B H c N T tv bv _ k _ _ whole hm).mono ?_
  rintro e w' ⟨rfl, hm', hf⟩
  exact ⟨rfl, hf, k, hm', hk⟩
/-- Add of a whole text -/
theorem ended_calls {w : World} {B H : Nat} {c : Int} {N : Nat} {T : List Int} {tv bv : Value} {l : List Int} (s : ByteArray) (h : St w B H c N T tv bv l true) :
    Calls Try.prog 10 #[.pointer (some ⟨H, 0, none⟩), .string s] w fun e w' => e = .returned (.int .i64 5) ∧ w' = w := by
  have c8 : w.cell? ⟨H, 8, none⟩ = some (.bool true) := by
    obtain ⟨k, hm, _⟩ := h
    simp [World.cell?, hm.hH]
  go_enter Try.func10, Try.ntmps10
  go_wp2
  go_ret
  exact ⟨rfl, rfl⟩
theorem Adds.st {w : World} {B H : Nat} {c : Int} {N : Nat} {T : List Int} {tv bv : Value} {l : List Int} {whole : Bool} {v : Value} {e : Ending} {w' : World} (h : Adds w B H c N T tv bv l whole v e w') : St w' B H c N T tv bv l whole := h.2.2
end Go.Proofs.Ytgajinnbmnnccaa
