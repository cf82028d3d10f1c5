/- (*Hopes).Take walked, of an event that comes next (printed by mktake2.py). -/
import Derived.Test.YtkhejkfjhddobaaGreatDoorHoLeaveM
import Derived.Test.YtkhejkfjhddobaaGreatDoorHoCloseM
set_option maxHeartbeats 32000000
namespace Gim
open Go Go.RowKit
theorem FitAt.same0 {w w' : World} {ats : List (ByteArray × ByteArray)} {a : Option Addr} {n cap : Nat} (h : FitAt w ats a n cap) (hs : w.heap.size ≤ w'.heap.size) (hk : 0 < n → ∀ b o, a = some ⟨b, o, none⟩ → b < w.heap.size → w'.heap[b]? = w.heap[b]?) : FitAt w' ats a n cap :=
 ⟨h.len, h.le, h.cap_le, fun j hj => by
  obtain ⟨b, o, e, h1, h2⟩ := h.fit j hj
  have hc : ∀ i, w'.cell? ⟨b, i, none⟩ = w.cell? ⟨b, i, none⟩ := fun i => by
   unfold World.cell?
   rw [hk (by omega) b o e h1]
  exact ⟨b, o, e, jt h1 hs, fun i x hx => ⟨(hc _).trans (h2 i x hx).1, (hc _).trans (h2 i x hx).2⟩⟩⟩
end Gim
namespace Go.Proofs.YtkhejkfjhddobaaGreatDoor
open Go.RowKit Gim
section
variable {n0 : Nat} {tg : Nat → Nat × Nat} {H K : Nat} {nd : NetD} {vF vX vK : Value} {fs : List FrS} {ps : List Nat} {vO : Value} {os : List (Int × Int × ByteArray)} {num : Int} {tx : Bool}
attribute [local go_sem ↓] Go.wp_at_zero Go.wp_at_succ
set_option maxRecDepth 100000 in
theorem take_open (w : World) (h : HoI n0 w tg H K nd vF vX vK fs ps vO os.length (osC os) num tx false) (hok : NetOk nd) (hn : fs.length ≤ 1048576) (hT : Laid w) (nm : ByteArray) (hs : nm.size ≤ 9223372036854775807) (hen : os.length ≤ 1048576) (hb : nameB nm = true) (h0 : 0 < os.length ∨ num = 0) (hnum : 0 ≤ num ∧ num ≤ 1099511627776)
  (ats : List (ByteArray × ByteArray)) (aa : Option Addr) (an ac : Nat) (c6 c7 : Int) (hA : FitAt w ats aa an ac) (hat : atsB ats = true) (hsz : ∀ x ∈ ats, x.1.size ≤ 9223372036854775807 ∧ x.2.size ≤ 1099511627776) (han : an ≤ 1099511627776) (hA6 : 0 < an → ∀ b o, aa = some ⟨b, o, none⟩ → (tg b).1 = 6) :
  Calls Tryz.prog 13 #[.pointer (some ⟨H, 0, none⟩), .agg #[.int .i64 0, .int .i64 num, .int .i64 ((os.length : Int) + 1), .string nm, .slice aa an ac, .string ⟨#[]⟩, .int .i64 c6, .int .i64 c7]] w fun e w' => e = .returned (.int .i64 0) ∧ ∃ vF' vX' ps' vO' tg', HoI n0 w' tg' H K nd vF' vX' (.slice none 0 0) (fs ++ [openF nd 1 nm ats]) ps' vO' (os.length + 1) (osC os ++ cellE num ((os.length : Int) + 1) nm) (num + 1) false false ∧ ExM w' tg' nd.preds.length vX' none ∧ Go6 tg tg' w w' := by
 obtain ⟨mn, ra, rc, pa, pc, h1, h2⟩ := h.hH
 obtain ⟨fa, fc, rfl, _⟩ := h.fr.r
 obtain ⟨xa, xn, xc, rfl⟩ := h.xs
 obtain ⟨ka, kn, kc, rfl⟩ := h.ks
 obtain ⟨W1, hW1⟩ := je (w.alloc (.cells #[.int .i64 0, .int .i64 num, .int .i64 ((os.length : Int) + 1), .string nm, .slice aa an ac, .string ⟨#[]⟩, .int .i64 c6, .int .i64 c7] 45))
 have b1 : Below w.heap.size w W1 := by rw [← hW1]; exact (jf _ _).alloc (jr _) _
 have hX1 : W1.heap[w.heap.size]? = some (.cells #[.int .i64 0, .int .i64 num, .int .i64 ((os.length : Int) + 1), .string nm, .slice aa an ac, .string ⟨#[]⟩, .int .i64 c6, .int .i64 c7] 45) := by rw [← hW1]; exact jw _ _
 have hHs := h.lt
 have hH1 := (b1.block H hHs).trans h1
 have hKs := jl h.ck.hK
 have HCT : Hid (∀ W, Below W1.heap.size W1 W → Calls Tryz.prog 30 #[.pointer (some ⟨K, 0, none⟩), .agg #[.int .i64 0, .int .i64 num, .int .i64 ((os.length : Int) + 1), .string nm, .slice aa an ac, .string ⟨#[]⟩, .int .i64 c6, .int .i64 c7]] W fun e w' => e = .returned (.bool true) ∧ (∃ vP, CkM 0 w w' K vO vP (os.length + 1) (osC os ++ cellE num ((os.length : Int) + 1) nm) (num + 1) false false) ∧ w'.heap[w.heap.size]? = W1.heap[w.heap.size]?) := jh fun W hW => by
  have hbw := b1.trans (hW.mono b1.size)
  have hck := h.ck.keep (W' := W) (tg' := tg) fun b hl _ => ⟨hbw.block b hl, rfl⟩
  have hfin : ∀ (e : Ending) (w' : World), (e = .returned (.bool true) ∧ ∃ vP, CkM 0 W w' K vO vP (os.length + 1) (osC os ++ cellE num ((os.length : Int) + 1) nm) (num + 1) false false) → e = .returned (.bool true) ∧ (∃ vP, CkM 0 w w' K vO vP (os.length + 1) (osC os ++ cellE num ((os.length : Int) + 1) nm) (num + 1) false false) ∧ w'.heap[w.heap.size]? = W1.heap[w.heap.size]? := by
   rintro e w' ⟨rfl, vP, hc⟩
   refine ⟨rfl, ⟨vP, (Fr.of hbw).trans hc.fr, hc.hK, hc.row, hc.at_.imp id fun e => ?_⟩, ?_⟩
   ·obtain ⟨j, e1, e2⟩ := e
    exact ⟨j, e1, ju hbw.size e2⟩
   ·have hXs := jl hX1
    refine (hc.fr.block _ (jt hXs hW.size) fun e => ?_).trans (hW.block _ hXs)
    rcases e with e | e
    ·omega
    ·have := (World.ownsRow.lt h.ck.row _ e).2
     omega
  exact (ctake_open nm W hck (hT.below hbw) hs hen hb h0 hnum ats aa an ac c6 c7 (hA.below hbw) hat (fun x hx => ⟨(hsz x hx).1, ju (hsz x hx).2 (by decide)⟩) han).mono hfin
 have hX1s : w.heap.size < W1.heap.size := jl hX1
 have q3 := jc hH1 3 rfl
 have hH1s : H < W1.heap.size := jl hH1
 have y0 := jc hX1 0 rfl; have y1 := jc hX1 1 rfl; have y2 := jc hX1 2 rfl; have y3 := jc hX1 3 rfl; have y4 := jc hX1 4 rfl; have y5 := jc hX1 5 rfl; have y6 := jc hX1 6 rfl; have y7 := jc hX1 7 rfl
 have HH := jh h
 have HX1 := jh hX1
 have HW1 := jh hW1
 have HOK := jh hok
 have HNF := jh hn
 have HB1 := jh b1
 have HA := jh hA
 have HA6 := jh hA6
 have HSZ := jh (fun x hx => (hsz x hx).2 : ∀ x ∈ ats, x.2.size ≤ 1099511627776)
 clear h h1 h2 hX1 b1 hW1 hH1 hok hn hT hs hen hb h0 hnum hA hat hsz han hA6
 go_enter Tryz.func13, Tryz.ntmps13
 go_upto_region 1 with fail
 rw [HW1.out]
 go_upto_region 3 with fail
 go_region_with (first
  | (go_at_call 30; refine (HCT.out _ (by first | exact jf _ _ | exact (jf _ _).drew)).mono ?_; rintro e w13 ⟨rfl, ⟨vP, hc⟩, hX⟩; have HC := jh hc; have HX := jh hX; clear hc hX))
 all_goals
  have hHI := HH.out.took HC.out
  obtain ⟨mn', ra', rc', pa', pc', g1, _⟩ := hHI.hH
  have q5 := jc g1 5 rfl; have q6 := jc g1 6 rfl
  have z5 := cells_free g1 5
  have z6 := cells_free g1 6
  have hX13 := HX.out.trans HX1.out
  have y0 := jc hX13 0 rfl; have y1 := jc hX13 1 rfl; have y2 := jc hX13 2 rfl; have y3 := jc hX13 3 rfl; have y4 := jc hX13 4 rfl; have y5 := jc hX13 5 rfl; have y6 := jc hX13 6 rfl; have y7 := jc hX13 7 rfl
  have hH13 : H < w13.heap.size := jl g1
  have hX13s : w.heap.size < w13.heap.size := jl hX13
  have hHX : w.heap.size ≠ H := by omega
  have HI := jh hHI
  have HG := jh g1
  clear hHI g1 hX13 q3
  go_wp2_with fail
  obtain ⟨WZ, hWZ⟩ := je ((((w13.setCell ⟨H, 5, none⟩ (.slice none 0 0)).setCell ⟨H, 6, none⟩ (.slice none 0 0)).alloc (.cells #[.func (.func 31) #[.pointer (some ⟨H, 0, none⟩)] #[], .func (.func 32) #[.pointer (some ⟨H, 0, none⟩)] #[], .func (.func 33) #[.pointer (some ⟨H, 0, none⟩)] #[]] 89)))
  have hfr : Fr (fun b => b = H) w13 WZ := by
   rw [← hWZ]
   exact (((Fr.refl (fun b => b = H) w13).set H 5 _ rfl).set H 6 _ rfl).trans (Fr.of ((jf _ _).alloc (jr _) _))
  have hIZ := HI.out.turn hfr (vX' := .slice none 0 0) (vK' := .slice none 0 0) ⟨_, _, _, rfl⟩ ⟨_, _, _, rfl⟩ (fun m va vb e => by
   rw [← hWZ, heap_alloc_old _ _ (by rw [jv, jv]; exact hH13), nset_at (nset_at e _) _]
   rfl)
  have hGZ : Go6 tg (tgU (tgT tg w.heap.size vP) w13.heap.size 6) w WZ := by
   refine Go6.trans (b := w13) (tg' := tgT tg w.heap.size vP) ⟨HC.out.fr.mono fun b hb => ?_, fun b hb => if_pos hb⟩ ⟨hfr.mono fun b hb => ?_, fun b hb => tgU_old hb⟩
   ·rcases hb with rfl | hb
    ·rw [HH.out.ck.tK]
     decide
    ·rw [HH.out.ck.tg4 b hb]
     decide
   ·rw [hb, HI.out.tH]
    decide
  have hAZ : FitAt WZ ats aa an ac := HA.out.same0 hGZ.fr.size fun h0 b o e hb => hGZ.fr.block b hb (by rw [HA6.out h0 b o e]; decide)
  have hM := opened2_calls 0 num ((os.length : Int) + 1) nm (.string ⟨#[]⟩) (.int .i64 c6) (.int .i64 c7) WZ ats aa an ac hIZ HOK.out HNF.out hAZ HSZ.out
  have HM := jh hM
  have HGZ := jh hGZ
  have HIZ := jh hIZ
  rw [hWZ]
  clear hM hIZ hGZ hfr hWZ
  refine HM.out.mono ?_
  rintro e w16 ⟨rfl, vP2, F, tgo, ho, hh⟩
  have HFIN : Hid (∃ vF' vX' ps' vO' tg', HoI n0 w16 tg' H K nd vF' vX' (.slice none 0 0) (fs ++ [openF nd 1 nm ats]) ps' vO' (os.length + 1) (osC os ++ cellE num ((os.length : Int) + 1) nm) (num + 1) false false ∧ ExM w16 tg' nd.preds.length vX' none ∧ Go6 tg tg' w w16) := jh (by
   refine ⟨vP2, _, _, vP, _, HIZ.out.opn ho hh, rfl, HGZ.out.trans ⟨ho.fr.mono fun b hb => ?_, fun b hb => if_pos hb⟩⟩
   rcases hb with rfl | hb
   ·rw [HIZ.out.tH]
    decide
   ·rw [HIZ.out.fr.tg2 b hb]
    decide)
  clear ho hh
  clear q5 q6 z5 z6 y0 y1 y2 y3 y4 y5 y6 y7
  go_wp2_with fail
  go_ret
  exact ⟨rfl, HFIN.out⟩
set_option maxRecDepth 100000 in
theorem take_text (w : World) (h : HoI n0 w tg H K nd vF vX vK fs ps vO os.length (osC os) num false false) (hok : NetOk nd) (hn : fs.length ≤ 1048576) (hT : Laid w) (s : ByteArray) (hs : s.size ≤ 2 ^ 62) (hen : os.length ≤ 1048576) (hb : textsB s = true) (hne : ¬ s = ⟨#[]⟩) (h0 : 0 < os.length) (hnum : 0 ≤ num ∧ num ≤ 1099511627776)
  (aa : Option Addr) (ac : Nat) (c6 c7 : Int) (hfl : 0 < fs.length) (hhu : ∀ f ∈ fs, HunsOk s f) :
  Calls Tryz.prog 13 #[.pointer (some ⟨H, 0, none⟩), .agg #[.int .i64 1, .int .i64 num, .int .i64 ((os.length : Int) + 1), .string ⟨#[]⟩, .slice aa 0 ac, .string s, .int .i64 c6, .int .i64 c7]] w fun e w' => e = .returned (.int .i64 0) ∧ ∃ vF' vX' ps' vO' tg', HoI n0 w' tg' H K nd vF' vX' (.slice none 0 0) (leaveFs nd false (fs.map (addFr s)) (addFr s (openF nd 2 ByteArray.empty []))).1 ps' vO' os.length (osC os) (num + 1) true false ∧ ExM w' tg' nd.preds.length vX' (some (leaveFs nd false (fs.map (addFr s)) (addFr s (openF nd 2 ByteArray.empty []))).2) ∧ Go6 tg tg' w w' := by
 obtain ⟨mn, ra, rc, pa, pc, h1, h2⟩ := h.hH
 obtain ⟨fa, fc, rfl, _⟩ := h.fr.r
 obtain ⟨xa, xn, xc, rfl⟩ := h.xs
 obtain ⟨ka, kn, kc, rfl⟩ := h.ks
 obtain ⟨W1, hW1⟩ := je (w.alloc (.cells #[.int .i64 1, .int .i64 num, .int .i64 ((os.length : Int) + 1), .string ⟨#[]⟩, .slice aa 0 ac, .string s, .int .i64 c6, .int .i64 c7] 45))
 have b1 : Below w.heap.size w W1 := by rw [← hW1]; exact (jf _ _).alloc (jr _) _
 have hX1 : W1.heap[w.heap.size]? = some (.cells #[.int .i64 1, .int .i64 num, .int .i64 ((os.length : Int) + 1), .string ⟨#[]⟩, .slice aa 0 ac, .string s, .int .i64 c6, .int .i64 c7] 45) := by rw [← hW1]; exact jw _ _
 have hHs := h.lt
 have hH1 := (b1.block H hHs).trans h1
 have hKs := jl h.ck.hK
 have HCT : Hid (∀ W, Below W1.heap.size W1 W → Calls Tryz.prog 30 #[.pointer (some ⟨K, 0, none⟩), .agg #[.int .i64 1, .int .i64 num, .int .i64 ((os.length : Int) + 1), .string ⟨#[]⟩, .slice aa 0 ac, .string s, .int .i64 c6, .int .i64 c7]] W fun e w' => e = .returned (.bool true) ∧ (∃ vP, CkM 0 w w' K vO vP os.length (osC os) (num + 1) true false) ∧ w'.heap[w.heap.size]? = W1.heap[w.heap.size]?) := jh fun W hW => by
  have hbw := b1.trans (hW.mono b1.size)
  have hck := h.ck.keep (W' := W) (tg' := tg) fun b hl _ => ⟨hbw.block b hl, rfl⟩
  have hfin : ∀ (e : Ending) (w' : World), (e = .returned (.bool true) ∧ ∃ vP, CkM 0 W w' K vO vP os.length (osC os) (num + 1) true false) → e = .returned (.bool true) ∧ (∃ vP, CkM 0 w w' K vO vP os.length (osC os) (num + 1) true false) ∧ w'.heap[w.heap.size]? = W1.heap[w.heap.size]? := by
   rintro e w' ⟨rfl, vP, hc⟩
   refine ⟨rfl, ⟨vP, (Fr.of hbw).trans hc.fr, hc.hK, hc.row, hc.at_.imp id fun e => ?_⟩, ?_⟩
   ·obtain ⟨j, e1, e2⟩ := e
    exact ⟨j, e1, ju hbw.size e2⟩
   ·have hXs := jl hX1
    refine (hc.fr.block _ (jt hXs hW.size) fun e => ?_).trans (hW.block _ hXs)
    rcases e with e | e
    ·omega
    ·have := (World.ownsRow.lt h.ck.row _ e).2
     omega
  refine (ctake_text s W hck (hT.below hbw) (ju hs (by decide)) hen hb hne h0 hnum aa ac c6 c7).mono fun e w' hx => hfin e w' ⟨hx.1, vO, hx.2⟩
 have hX1s : w.heap.size < W1.heap.size := jl hX1
 have q3 := jc hH1 3 rfl
 have hH1s : H < W1.heap.size := jl hH1
 have y0 := jc hX1 0 rfl; have y1 := jc hX1 1 rfl; have y2 := jc hX1 2 rfl; have y3 := jc hX1 3 rfl; have y4 := jc hX1 4 rfl; have y5 := jc hX1 5 rfl; have y6 := jc hX1 6 rfl; have y7 := jc hX1 7 rfl
 have HH := jh h
 have HX1 := jh hX1
 have HW1 := jh hW1
 have HOK := jh hok
 have HNF := jh hn
 have HB1 := jh b1
 have HFL := jh hfl
 have HHU := jh hhu
 have HS := jh hs
 clear h h1 h2 hX1 b1 hW1 hH1 hok hn hT hs hen hb hne h0 hnum hfl hhu
 go_enter Tryz.func13, Tryz.ntmps13
 go_upto_region 1 with fail
 rw [HW1.out]
 go_upto_region 3 with fail
 go_region_with (first
  | (go_at_call 30; refine (HCT.out _ (by first | exact jf _ _ | exact (jf _ _).drew)).mono ?_; rintro e w13 ⟨rfl, ⟨vP, hc⟩, hX⟩; have HC := jh hc; have HX := jh hX; clear hc hX))
 all_goals
  have hHI := HH.out.took HC.out
  obtain ⟨mn', ra', rc', pa', pc', g1, _⟩ := hHI.hH
  have q5 := jc g1 5 rfl; have q6 := jc g1 6 rfl
  have z5 := cells_free g1 5
  have z6 := cells_free g1 6
  have hX13 := HX.out.trans HX1.out
  have y0 := jc hX13 0 rfl; have y1 := jc hX13 1 rfl; have y2 := jc hX13 2 rfl; have y3 := jc hX13 3 rfl; have y4 := jc hX13 4 rfl; have y5 := jc hX13 5 rfl; have y6 := jc hX13 6 rfl; have y7 := jc hX13 7 rfl
  have hH13 : H < w13.heap.size := jl g1
  have hX13s : w.heap.size < w13.heap.size := jl hX13
  have hHX : w.heap.size ≠ H := by omega
  have HI := jh hHI
  have HG := jh g1
  clear hHI g1 hX13 q3
  go_wp2_with fail
  obtain ⟨WZ, hWZ⟩ := je ((((w13.setCell ⟨H, 5, none⟩ (.slice none 0 0)).setCell ⟨H, 6, none⟩ (.slice none 0 0)).alloc (.cells #[.func (.func 31) #[.pointer (some ⟨H, 0, none⟩)] #[], .func (.func 32) #[.pointer (some ⟨H, 0, none⟩)] #[], .func (.func 33) #[.pointer (some ⟨H, 0, none⟩)] #[]] 89)))
  have hfr : Fr (fun b => b = H) w13 WZ := by
   rw [← hWZ]
   exact (((Fr.refl (fun b => b = H) w13).set H 5 _ rfl).set H 6 _ rfl).trans (Fr.of ((jf _ _).alloc (jr _) _))
  have hIZ := HI.out.turn hfr (vX' := .slice none 0 0) (vK' := .slice none 0 0) ⟨_, _, _, rfl⟩ ⟨_, _, _, rfl⟩ (fun m va vb e => by
   rw [← hWZ, heap_alloc_old _ _ (by rw [jv, jv]; exact hH13), nset_at (nset_at e _) _]
   rfl)
  have hGZ : Go6 tg (tgU (tgT tg w.heap.size vP) w13.heap.size 6) w WZ := by
   refine Go6.trans (b := w13) (tg' := tgT tg w.heap.size vP) ⟨HC.out.fr.mono fun b hb => ?_, fun b hb => if_pos hb⟩ ⟨hfr.mono fun b hb => ?_, fun b hb => tgU_old hb⟩
   ·rcases hb with rfl | hb
    ·rw [HH.out.ck.tK]
     decide
    ·rw [HH.out.ck.tg4 b hb]
     decide
   ·rw [hb, HI.out.tH]
    decide
  have hM := toldH_calls (.int .i64 1) (.int .i64 num) (.int .i64 ((os.length : Int) + 1)) (.string ⟨#[]⟩) (.slice aa 0 ac) (.int .i64 c6) (.int .i64 c7) s WZ hIZ HOK.out HFL.out HNF.out HHU.out HS.out
  have HM := jh hM
  have HGZ := jh hGZ
  have HIZ := jh hIZ
  rw [hWZ]
  clear hM hIZ hGZ hfr hWZ
  refine HM.out.mono ?_
  rintro e w16 ⟨rfl, vX', tg', hI16, hE16, hG16⟩
  have HFIN : Hid (∃ vF' vX' ps' vO' tg', HoI n0 w16 tg' H K nd vF' vX' (.slice none 0 0) (leaveFs nd false (fs.map (addFr s)) (addFr s (openF nd 2 ByteArray.empty []))).1 ps' vO' os.length (osC os) (num + 1) true false ∧ ExM w16 tg' nd.preds.length vX' (some (leaveFs nd false (fs.map (addFr s)) (addFr s (openF nd 2 ByteArray.empty []))).2) ∧ Go6 tg tg' w w16) := jh ⟨_, vX', _, vP, tg', hI16, hE16, HGZ.out.trans hG16⟩
  clear hI16 hE16 hG16
  clear q5 q6 z5 z6 y0 y1 y2 y3 y4 y5 y6 y7
  go_wp2_with fail
  go_ret
  exact ⟨rfl, HFIN.out⟩
set_option maxRecDepth 100000 in
theorem take_close (w : World) (h : HoI n0 w tg H K nd vF vX vK fs ps vO os.length (osC os) num tx false) (hok : NetOk nd) (hn : fs.length ≤ 1048576) (n d : Int) (nm : ByteArray) (p : Nat) (hp : os.length = p + 1) (ho : os.getD p zo = (n, d, nm)) (hpl : p ≤ 1048576)
  (aa : Option Addr) (ac : Nat) (c6 c7 : Int) (hfl : fs.length = p + 2) :
  Calls Tryz.prog 13 #[.pointer (some ⟨H, 0, none⟩), .agg #[.int .i64 2, .int .i64 n, .int .i64 d, .string nm, .slice aa 0 ac, .string ⟨#[]⟩, .int .i64 c6, .int .i64 c7]] w fun e w' => e = .returned (.int .i64 0) ∧ ∃ vF' vX' ps' vO' tg', HoI n0 w' tg' H K nd vF' vX' (.slice none 0 0) (leaveFs nd (decide (p = 0)) fs.dropLast (fs.getD (p + 1) fr0)).1 ps' vO' p (osC os.dropLast) num false (decide (p = 0)) ∧ ExM w' tg' nd.preds.length vX' (some (leaveFs nd (decide (p = 0)) fs.dropLast (fs.getD (p + 1) fr0)).2) ∧ Go6 tg tg' w w' := by
 obtain ⟨mn, ra, rc, pa, pc, h1, h2⟩ := h.hH
 obtain ⟨fa, fc, rfl, _⟩ := h.fr.r
 obtain ⟨xa, xn, xc, rfl⟩ := h.xs
 obtain ⟨ka, kn, kc, rfl⟩ := h.ks
 obtain ⟨W1, hW1⟩ := je (w.alloc (.cells #[.int .i64 2, .int .i64 n, .int .i64 d, .string nm, .slice aa 0 ac, .string ⟨#[]⟩, .int .i64 c6, .int .i64 c7] 45))
 have b1 : Below w.heap.size w W1 := by rw [← hW1]; exact (jf _ _).alloc (jr _) _
 have hX1 : W1.heap[w.heap.size]? = some (.cells #[.int .i64 2, .int .i64 n, .int .i64 d, .string nm, .slice aa 0 ac, .string ⟨#[]⟩, .int .i64 c6, .int .i64 c7] 45) := by rw [← hW1]; exact jw _ _
 have hHs := h.lt
 have hH1 := (b1.block H hHs).trans h1
 have hKs := jl h.ck.hK
 have HCT : Hid (∀ W, Below W1.heap.size W1 W → Calls Tryz.prog 30 #[.pointer (some ⟨K, 0, none⟩), .agg #[.int .i64 2, .int .i64 n, .int .i64 d, .string nm, .slice aa 0 ac, .string ⟨#[]⟩, .int .i64 c6, .int .i64 c7]] W fun e w' => e = .returned (.bool true) ∧ (∃ vP, CkM 0 w w' K vO vP p (osC os.dropLast) num false (decide (p = 0))) ∧ w'.heap[w.heap.size]? = W1.heap[w.heap.size]?) := jh fun W hW => by
  have hbw := b1.trans (hW.mono b1.size)
  have hck := h.ck.keep (W' := W) (tg' := tg) fun b hl _ => ⟨hbw.block b hl, rfl⟩
  have hfin : ∀ (e : Ending) (w' : World), (e = .returned (.bool true) ∧ ∃ vP, CkM 0 W w' K vO vP p (osC os.dropLast) num false (decide (p = 0))) → e = .returned (.bool true) ∧ (∃ vP, CkM 0 w w' K vO vP p (osC os.dropLast) num false (decide (p = 0))) ∧ w'.heap[w.heap.size]? = W1.heap[w.heap.size]? := by
   rintro e w' ⟨rfl, vP, hc⟩
   refine ⟨rfl, ⟨vP, (Fr.of hbw).trans hc.fr, hc.hK, hc.row, hc.at_.imp id fun e => ?_⟩, ?_⟩
   ·obtain ⟨j, e1, e2⟩ := e
    exact ⟨j, e1, ju hbw.size e2⟩
   ·have hXs := jl hX1
    refine (hc.fr.block _ (jt hXs hW.size) fun e => ?_).trans (hW.block _ hXs)
    rcases e with e | e
    ·omega
    ·have := (World.ownsRow.lt h.ck.row _ e).2
     omega
  exact (ctake_close aa ac c6 c7 p n d nm W hck hp ho hpl).mono hfin
 have hX1s : w.heap.size < W1.heap.size := jl hX1
 have q3 := jc hH1 3 rfl
 have hH1s : H < W1.heap.size := jl hH1
 have y0 := jc hX1 0 rfl; have y1 := jc hX1 1 rfl; have y2 := jc hX1 2 rfl; have y3 := jc hX1 3 rfl; have y4 := jc hX1 4 rfl; have y5 := jc hX1 5 rfl; have y6 := jc hX1 6 rfl; have y7 := jc hX1 7 rfl
 have HH := jh h
 have HX1 := jh hX1
 have HW1 := jh hW1
 have HOK := jh hok
 have HNF := jh hn
 have HB1 := jh b1
 have HFL := jh hfl
 have HPL := jh hpl
 clear h h1 h2 hX1 b1 hW1 hH1 hok hn hp ho hpl hfl
 go_enter Tryz.func13, Tryz.ntmps13
 go_upto_region 1 with fail
 rw [HW1.out]
 go_upto_region 3 with fail
 go_region_with (first
  | (go_at_call 30; refine (HCT.out _ (by first | exact jf _ _ | exact (jf _ _).drew)).mono ?_; rintro e w13 ⟨rfl, ⟨vP, hc⟩, hX⟩; have HC := jh hc; have HX := jh hX; clear hc hX))
 all_goals
  have hHI := HH.out.took HC.out
  obtain ⟨mn', ra', rc', pa', pc', g1, _⟩ := hHI.hH
  have q5 := jc g1 5 rfl; have q6 := jc g1 6 rfl
  have z5 := cells_free g1 5
  have z6 := cells_free g1 6
  have hX13 := HX.out.trans HX1.out
  have y0 := jc hX13 0 rfl; have y1 := jc hX13 1 rfl; have y2 := jc hX13 2 rfl; have y3 := jc hX13 3 rfl; have y4 := jc hX13 4 rfl; have y5 := jc hX13 5 rfl; have y6 := jc hX13 6 rfl; have y7 := jc hX13 7 rfl
  have hH13 : H < w13.heap.size := jl g1
  have hX13s : w.heap.size < w13.heap.size := jl hX13
  have hHX : w.heap.size ≠ H := by omega
  have HI := jh hHI
  have HG := jh g1
  clear hHI g1 hX13 q3
  go_wp2_with fail
  obtain ⟨WZ, hWZ⟩ := je ((((w13.setCell ⟨H, 5, none⟩ (.slice none 0 0)).setCell ⟨H, 6, none⟩ (.slice none 0 0)).alloc (.cells #[.func (.func 31) #[.pointer (some ⟨H, 0, none⟩)] #[], .func (.func 32) #[.pointer (some ⟨H, 0, none⟩)] #[], .func (.func 33) #[.pointer (some ⟨H, 0, none⟩)] #[]] 89)))
  have hfr : Fr (fun b => b = H) w13 WZ := by
   rw [← hWZ]
   exact (((Fr.refl (fun b => b = H) w13).set H 5 _ rfl).set H 6 _ rfl).trans (Fr.of ((jf _ _).alloc (jr _) _))
  have hIZ := HI.out.turn hfr (vX' := .slice none 0 0) (vK' := .slice none 0 0) ⟨_, _, _, rfl⟩ ⟨_, _, _, rfl⟩ (fun m va vb e => by
   rw [← hWZ, heap_alloc_old _ _ (by rw [jv, jv]; exact hH13), nset_at (nset_at e _) _]
   rfl)
  have hGZ : Go6 tg (tgU (tgT tg w.heap.size vP) w13.heap.size 6) w WZ := by
   refine Go6.trans (b := w13) (tg' := tgT tg w.heap.size vP) ⟨HC.out.fr.mono fun b hb => ?_, fun b hb => if_pos hb⟩ ⟨hfr.mono fun b hb => ?_, fun b hb => tgU_old hb⟩
   ·rcases hb with rfl | hb
    ·rw [HH.out.ck.tK]
     decide
    ·rw [HH.out.ck.tg4 b hb]
     decide
   ·rw [hb, HI.out.tH]
    decide
  have hM := closed_calls (.int .i64 2) (.int .i64 n) (.int .i64 d) (.string nm) (.slice aa 0 ac) (.string ⟨#[]⟩) (.int .i64 c6) (.int .i64 c7) WZ (p + 1) hIZ HOK.out HFL.out (Nat.succ_pos p) (by have := HNF.out; have := HFL.out; omega)
  have HM := jh hM
  have HGZ := jh hGZ
  have HIZ := jh hIZ
  rw [hWZ]
  clear hM hIZ hGZ hfr hWZ
  refine HM.out.mono ?_
  rintro e w16 ⟨rfl, vF', vX', tg', hI16, hE16, hG16⟩
  have HFIN : Hid (∃ vF' vX' ps' vO' tg', HoI n0 w16 tg' H K nd vF' vX' (.slice none 0 0) (leaveFs nd (decide (p = 0)) fs.dropLast (fs.getD (p + 1) fr0)).1 ps' vO' p (osC os.dropLast) num false (decide (p = 0)) ∧ ExM w16 tg' nd.preds.length vX' (some (leaveFs nd (decide (p = 0)) fs.dropLast (fs.getD (p + 1) fr0)).2) ∧ Go6 tg tg' w w16) := jh ⟨vF', vX', _, vP, tg', hI16, hE16, HGZ.out.trans hG16⟩
  clear hI16 hE16 hG16
  clear q5 q6 z5 z6 y0 y1 y2 y3 y4 y5 y6 y7
  go_wp2_with fail
  go_ret
  exact ⟨rfl, HFIN.out⟩
end
end Go.Proofs.YtkhejkfjhddobaaGreatDoor
