/- gimletlaw03.WordsFound answers true of any two texts, and leaves them as they are: for texts of together at most 1048576 letters (the bulk of the second form). -/
import Derived.Test.YthangmacjiobhaaAwake
import Derived.Test.YthangmacjiobhaaRows
import Derived.ProofKit
import Derived.OpenShut
import Derived.ShutString
import Derived.JoinedCond
import Derived.ChangeOld
namespace Go.Proofs.Ythangmacjiobhaa.wordsFound
open Go.ChangeShapes Go.WideShapes Go.ChangeAt Go.RowKit Gim
open Go.ChangeMaps (open_string shut_string)

theorem own : ownKnob Try.prog.godebug = none := by kernel_rfl

set_option maxHeartbeats 400000 in
theorem walk (s t : ByteArray) (w : World) (hs : s.size ≤ 1099511627776) (ht : t.size ≤ 1099511627776) :
    Calls Try.prog 4 #[.string s, .string t] w fun e w' => e = .returned (.bool true) ∧ Below w.heap.size w w' := by
  go_enter Try.func4, Try.ntmps4
  go_wp2_with fail
  refine (awake _).mono ?_
  rintro e w1 ⟨rfl, h1⟩
  go_wp2_with fail
  refine (find _ _ _ hs ht).mono ?_
  rintro e w2 ⟨rfl, b2⟩
  have h2 := h1.trans (b2.mono h1.size)
  go_wp2_with fail
  refine (refFind _ _ _ hs ht).mono ?_
  rintro e w3 ⟨rfl, b3⟩
  have h3 := h2.trans (b3.mono h2.size)
  go_wp2_with fail
  refine (begins _ _ _ hs ht).mono ?_
  rintro e w4 ⟨rfl, b4⟩
  have h4 := h3.trans (b4.mono h3.size)
  go_wp2_with fail
  refine (refBegins _ _ _ hs ht).mono ?_
  rintro e w5 ⟨rfl, b5⟩
  have h5 := h4.trans (b5.mono h4.size)
  go_wp2_with fail
  refine (ends _ _ _ hs ht).mono ?_
  rintro e w6 ⟨rfl, b6⟩
  have h6 := h5.trans (b6.mono h5.size)
  go_wp2_with fail
  refine (refEnds _ _ _ hs ht).mono ?_
  rintro e w7 ⟨rfl, b7⟩
  have h7 := h6.trans (b7.mono h6.size)
  go_wp2_with fail
  go_ret
  exact ⟨rfl, h7⟩

set_option maxRecDepth 100000 in
theorem lifted (os : Os) (started : os.Started) (H : Type) (enc : TypeId × Value → H) (F : Stop.Interp) :
    ReturnsInHanded {} Try.checked os 4 .any ((Rows.OpenSpec.upto Rows.wordsFoundSpec).pre6 enc Try.prog Try.f4 Rows.wordsFoundUptoRow.domain false) (((Rows.OpenSpec.upto Rows.wordsFoundSpec).at F).post enc Try.prog Try.f4 false true false false) := by
  refine returnsInHanded_of_cond (C := Try.checked) (s := Rows.OpenSpec.upto Rows.wordsFoundSpec) (k := Rows.uptoSmall) rfl own started (by kernel_rfl) Try.func4
    (OpenSpec.witness (enc := enc) (C := Try.checked) (s := Rows.OpenSpec.upto Rows.wordsFoundSpec) (k := Rows.uptoSmall) rfl false ⟨#[], #[.string ByteArray.empty, .string ByteArray.empty], []⟩ 8 (by kernel_rfl) (by kernel_rfl) (by kernel_rfl)
      (x := ([.lit (.string []), .lit (.string [])], [], [])) (by kernel_rfl) rfl (by kernel_rfl)) ?_
  intro W base args ds gs before hval0 hW _ hk _
  have hval : ∀ (j : Nat) t v, Try.f4.params[j]? = some t → args[j]? = some v → Value.okWide Try.prog W .any base t v := hval0
  have hW' := hW
  obtain ⟨p, q, hA0, hV, rfl, hfz, hnd⟩ := hW
  have hA : DataW.TrodAll enc Try.prog W 0 (fun _ => true) true Try.f4.params.toList args.toList ds p := hA0
  rw [Try.params4] at hA hval
  obtain ⟨v0, vs0, d0, ds0, p0, q0, hargs, rfl, rfl, h0, r0⟩ := trodAll_cons hA
  obtain ⟨v1, vs1, d1, ds1, p1, q1, rfl, rfl, rfl, h1, r1⟩ := trodAll_cons r0
  obtain ⟨rfl, rfl, rfl⟩ := trodAll_nil r1
  obtain rfl : args = #[v0, v1] := by cases args; simp_all
  obtain ⟨rfl, rfl⟩ := trodVars_none hV
  obtain ⟨a0, rfl, rfl, rfl, w0⟩ := open_string Try.underlying9 (hval 0 9 v0 rfl rfl) h0
  obtain ⟨a1, rfl, rfl, rfl, w1⟩ := open_string Try.underlying9 (hval 1 9 v1 rfl rfl) h1
  clear hA0 hval0
  have hb := of_decide_eq_true hk
  simp only [Rows.uptoBulkAll, Rows.uptoBulk, List.append_nil, Array.length_toList] at hb
  have e0 : a0.data.size = a0.size := rfl
  have e1 : a1.data.size = a1.size := rfl
  simp only [List.append_nil] at hW'
  refine (walk a0 a1 W (by omega) (by omega)).mono fun e W' ⟨he, bel⟩ => ?_
  subst he
  exact ⟨_, rfl, _, _, _, [], _, [], hW', trodAll_mk1 (shut_bool Try.underlying4 _), (trodAll_cons_mk (shut_string Try.underlying9 w0) (trodAll_cons_mk (shut_string Try.underlying9 w1) trodAll_mk0)), rfl, bel.frame _, fun h => by cases h⟩

theorem over : Rows.wordsFoundUptoRow.holds Try.pinned (Rows.OpenSpec.upto Rows.wordsFoundSpec) :=
  OpenClaim.holds_of_cond 4 Try.f4 rfl rfl rfl rfl rfl rfl rfl ⟨rfl, rfl, rfl, rfl, rfl⟩ rfl rfl rfl rfl rfl (by kernel_rfl) Try.func4 (by kernel_rfl)
    (of_decide_eq_true (by kernel_rfl)) (by unfold Func.isWrapper; first | (rw [if_pos (by decide +kernel)]; kernel_rfl) | (rw [if_neg (by decide +kernel)]; exact ⟨rfl, rfl⟩))
    (fun os started H enc _ F => lifted os started H enc F)

theorem proved : Rows.WordsFoundUptoSaid := over
end Go.Proofs.Ythangmacjiobhaa.wordsFound
