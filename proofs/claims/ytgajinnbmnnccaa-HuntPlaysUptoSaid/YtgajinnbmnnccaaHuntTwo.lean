/- Where a Hunt lies; runes.Runes and runes.Join. -/
import Derived.Test.YtgajinnbmnnccaaHuntMono
import Derived.Test.YtgajinnbmnnccaaRsText
namespace Go.Proofs.Ytgajinnbmnnccaa
open Go.RowKit Gim
theorem rowfrv {p : Nat → Prop} {w w' : World} {B : Nat} {e : TypeId} {k : IntKind} {v : Value} {xs : List Int} (h : Row w B e k v xs) (hf : Fr p w w') (ho : ∀ g, v.ownBlock = some g → ¬ p g) : Row w' B e k v xs := by
  unfold Row World.ownsRow at *
  refine ⟨h.1, ?_⟩
  rcases h.2 with h2 | ⟨g, cap, cur, h1, h2, h3, h4⟩
  · exact .inl h2
  · refine .inr ⟨g, cap, cur, h1, h2, ?_, h4⟩
    rw [hf.block g (Array.getElem?_eq_some_iff.1 h3).1 (ho g (by rw [h1]; rfl))]
    exact h3
theorem St.frv {p : Nat → Prop} {w w' : World} {B H : Nat} {c : Int} {N : Nat} {T : List Int} {tv bv : Value} {l : List Int} {whole : Bool} (h : St w B H c N T tv bv l whole) (hf : Fr p w w') (hH : ¬ p H)
    (ht : ∀ g, tv.ownBlock = some g → ¬ p g) (hb : ∀ g, bv.ownBlock = some g → ¬ p g) : St w' B H c N T tv bv l whole := by
  obtain ⟨k, hm, hk⟩ := h
  exact ⟨k, ⟨(hf.block H (Array.getElem?_eq_some_iff.1 hm.hH).1 hH).trans hm.hH, rowfrv hm.rt hf ht, rowfrv hm.rb hf hb, hm.lt, Nat.le_trans hm.le hf.size⟩, hk⟩
theorem St.lts {w : World} {B H : Nat} {c : Int} {N : Nat} {T : List Int} {tv bv : Value} {l : List Int} {whole : Bool} (h : St w B H c N T tv bv l whole) :
    H < w.heap.size ∧ (∀ g, tv.ownBlock = some g → B ≤ g ∧ g < w.heap.size) ∧ (∀ g, bv.ownBlock = some g → B ≤ g ∧ g < w.heap.size) := by
  obtain ⟨k, hm, hk⟩ := h
  exact ⟨(Array.getElem?_eq_some_iff.1 hm.hH).1, hm.rt.lt, hm.rb.lt⟩
theorem St.below {w w' : World} {B H : Nat} {c : Int} {N : Nat} {T : List Int} {tv bv : Value} {l : List Int} {whole : Bool} (h : St w B H c N T tv bv l whole) (hb : Below w.heap.size w w') : St w' B H c N T tv bv l whole :=
  h.fr (Fr.of (p := fun _ => False) hb) (fun x => x) (fun _ _ x => x)
set_option maxHeartbeats 1000000 in
theorem runes_calls (s : ByteArray) (w : World) (hs : s.size ≤ 1099511627776) :
    Calls Try.prog 14 #[.string s] w (GivesRow w 21 .i32 (rs s)) := by
  go_enter Try.func14, Try.ntmps14
  go_wp2_with (refine wpList_convRunes _ rfl _ 9 41 21 rfl s rfl Try.underlying9 Try.underlying41 Try.underlying21 hs ?_; intro v w1 hrow hgrow)
  go_ret
  exact ⟨_, rfl, hrow, (Below.refl _ _).grown hgrow (Nat.le_refl _) (fun k hk => by cases hk)⟩
set_option maxHeartbeats 1000000 in
theorem join_calls (ao : Option Addr) (n cap : Nat) (xs : List Int) (w : World) (hr : Rd w .i32 ao n cap xs) :
    Calls Try.prog 16 #[.slice ao n cap] w fun e w' => e = .returned (.string (runesBytes xs)) ∧ w' = w := by
  have hcv := hr.conv (P := Try.prog) (src := 41) (dst := 9) (e := 21) Try.underlying41 Try.underlying21 Try.underlying9
  go_enter Try.func16, Try.ntmps16
  go_wp2
  go_ret
  exact ⟨rfl, rfl⟩
end Go.Proofs.Ytgajinnbmnnccaa
