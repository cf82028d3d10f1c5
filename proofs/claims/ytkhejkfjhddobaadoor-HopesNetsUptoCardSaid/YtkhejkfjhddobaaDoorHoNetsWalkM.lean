/- gimletlaw18.HopesNets walked. -/
import Derived.Test.YtkhejkfjhddobaaDoorHoAwakeLawM
import Derived.BigRegion
import Derived.Test.YtkhejkfjhddobaaDoorRows
import Derived.Deep.Strs
import Derived.Lib.SmallJoins
import Derived.ChangeSlices
import Derived.OpenShut
import Derived.ProofKit
section
namespace Go.Proofs.YtkhejkfjhddobaaDoor
open Go.RowKit Gim
set_option maxRecDepth 100000 in
set_option maxHeartbeats 32000000 in
theorem hopesNets_calls (nd : NetD) (ra : Option Addr) (rc : Nat) (pa : Option Addr) (pc : Nat) (k n d f t : Int) (nm tx : ByteArray) (ea : Option Addr) (el ec : Nat) (i j : Int) (w : World) (hR : FitRowS w nd.rows ra nd.rows.length rc) (hP : FitPredS w nd.preds pa nd.preds.length pc) (hT : Laid w) (hl : NLim nd) :
    Calls Tryd.prog 3 #[.agg #[.int .i64 nd.main, .slice ra nd.rows.length rc, .slice pa nd.preds.length pc, .int .i64 k, .int .i64 n, .int .i64 d, .string nm, .slice ea el ec, .string tx, .int .i64 f, .int .i64 t, .int .i64 i, .int .i64 j]] w fun e w' => e = .returned (.bool true) ∧ Below w.heap.size w w' := by
  obtain ⟨mn, hmn⟩ : ∃ mn, nd.main = mn := ⟨_, rfl⟩
  obtain ⟨nr, hnr⟩ : ∃ nr, nd.rows.length = nr := ⟨_, rfl⟩
  obtain ⟨np, hnp⟩ : ∃ np, nd.preds.length = np := ⟨_, rfl⟩
  obtain ⟨W1, hW1⟩ : ∃ W1, w.alloc (.cells #[.int .i64 mn, .slice ra nr rc, .slice pa np pc, .int .i64 k, .int .i64 n, .int .i64 d, .string nm, .slice ea el ec, .string tx, .int .i64 f, .int .i64 t, .int .i64 i, .int .i64 j] 31) = W1 := ⟨_, rfl⟩
  have b1 : Below w.heap.size w W1 := by rw [← hW1]; exact (Below.refl _ _).alloc (Nat.le_refl _) _
  have hX1 : W1.heap[w.heap.size]? = some (.cells #[.int .i64 mn, .slice ra nr rc, .slice pa np pc, .int .i64 k, .int .i64 n, .int .i64 d, .string nm, .slice ea el ec, .string tx, .int .i64 f, .int .i64 t, .int .i64 i, .int .i64 j] 31) := by rw [← hW1]; exact heap_alloc_new _ _
  have HA := Lib.hid (awake_calls W1 (hT.below b1))
  have HNEW : Hid (∀ W, Below w.heap.size w W → Calls Tryd.prog 5 #[.agg #[.int .i64 mn, .slice ra nr rc, .slice pa np pc]] W (NewP W nd)) := Lib.hid fun W hb => by
    have := new_h_calls nd ra rc pa pc W (hR.below hb) (hP.below hb) (hT.below hb) hl
    rw [hmn, hnr, hnp] at this
    exact this
  have HCK : Hid (∀ W, Below w.heap.size w W → Calls Tryd.prog 6 #[.agg #[.int .i64 mn, .slice ra nr rc, .slice pa np pc]] W fun e w' => Below W.heap.size W w' ∧ ((∃ ts, netPath nd = some ts) ∧ e = .returned (.int .i64 0) ∨ netPath nd = none ∧ e = .returned (.int .i64 6))) := Lib.hid fun W hb => by
    have := netCheck_calls nd ra rc pa pc W (hR.below hb) (hP.below hb) (hT.below hb) hl
    rw [hmn, hnr, hnp] at this
    exact this
  rw [hmn, hnr, hnp]
  have HB1 := Lib.hid b1
  have HX1 := Lib.hid hX1
  have HW1 := Lib.hid hW1
  have h1s : w.heap.size < W1.heap.size := (Array.getElem?_eq_some_iff.1 hX1).1
  clear hR hP hT hl hmn hnr hnp hW1 b1 hX1
  go_enter Tryd.func3, Tryd.ntmps3
  go_upto_region 1 with fail
  rw [HW1.out]
  go_wp2_with fail
  refine HA.out.mono ?_
  rintro e w2 ⟨rfl, hb2⟩
  have hX2 := (hb2.block _ h1s).trans HX1.out
  have HB2 := Lib.hid (HB1.out.trans (hb2.mono HB1.out.size))
  have HX2 := Lib.hid hX2
  have x0 : w2.cell? ⟨w.heap.size, 0, none⟩ = some (.int .i64 mn) := by simp [World.cell?, hX2]
  have x1 : w2.cell? ⟨w.heap.size, 1, none⟩ = some (.slice ra nr rc) := by simp [World.cell?, hX2]
  have x2 : w2.cell? ⟨w.heap.size, 2, none⟩ = some (.slice pa np pc) := by simp [World.cell?, hX2]
  have x3 : w2.cell? ⟨w.heap.size, 3, none⟩ = some (.int .i64 k) := by simp [World.cell?, hX2]
  have x4 : w2.cell? ⟨w.heap.size, 4, none⟩ = some (.int .i64 n) := by simp [World.cell?, hX2]
  have x5 : w2.cell? ⟨w.heap.size, 5, none⟩ = some (.int .i64 d) := by simp [World.cell?, hX2]
  have x6 : w2.cell? ⟨w.heap.size, 6, none⟩ = some (.string nm) := by simp [World.cell?, hX2]
  have x7 : w2.cell? ⟨w.heap.size, 7, none⟩ = some (.slice ea el ec) := by simp [World.cell?, hX2]
  have x8 : w2.cell? ⟨w.heap.size, 8, none⟩ = some (.string tx) := by simp [World.cell?, hX2]
  have x9 : w2.cell? ⟨w.heap.size, 9, none⟩ = some (.int .i64 f) := by simp [World.cell?, hX2]
  have x10 : w2.cell? ⟨w.heap.size, 10, none⟩ = some (.int .i64 t) := by simp [World.cell?, hX2]
  have x11 : w2.cell? ⟨w.heap.size, 11, none⟩ = some (.int .i64 i) := by simp [World.cell?, hX2]
  have x12 : w2.cell? ⟨w.heap.size, 12, none⟩ = some (.int .i64 j) := by simp [World.cell?, hX2]
  have h2s : w.heap.size < w2.heap.size := (Array.getElem?_eq_some_iff.1 hX2).1
  clear hb2 hX2
  go_upto_region 3 with fail
  go_cut [3, 4, 5, 6] from 14 to 21 (fun v3 v4 v5 v6 wx => ∃ N E, v3 = .pointer (some ⟨N, 0, none⟩) ∧ v4 = .pointer (some ⟨E, 0, none⟩) ∧ v5 = .int .i64 i ∧ v6 = .int .i64 j ∧ Below w2.heap.size w2 wx ∧ wx.heap[N]? = some (.cells #[.int .i64 mn, .slice ra nr rc, .slice pa np pc] 25) ∧ wx.heap[E]? = some (.cells #[.int .i64 k, .int .i64 n, .int .i64 d, .string nm, .slice ea el ec, .string tx, .int .i64 f, .int .i64 t] 29))
  case first =>
    go_region
    all_goals
      go_wp2_with fail
      go_meet
      first
        | exact ⟨w2.heap.size, w2.heap.size + 1, rfl, rfl, rfl, rfl, ((alloc2 w2 _ _).2.2.2).drew, (alloc2 w2 _ _).1, (alloc2 w2 _ _).2.1⟩
        | exact ⟨w2.heap.size + 1, w2.heap.size, rfl, rfl, rfl, rfl, ((alloc2 w2 _ _).2.2.2).drew, (alloc2 w2 _ _).2.1, (alloc2 w2 _ _).1⟩
  case rest =>
  obtain ⟨N, E, rfl, rfl, rfl, rfl, hb3, hN, hE⟩ := hcut
  have HBC := Lib.hid (HB2.out.trans (hb3.mono HB2.out.size))
  have y0 : wc.cell? ⟨N, 0, none⟩ = some (.int .i64 mn) := by simp [World.cell?, hN]
  have y1 : wc.cell? ⟨N, 1, none⟩ = some (.slice ra nr rc) := by simp [World.cell?, hN]
  have y2 : wc.cell? ⟨N, 2, none⟩ = some (.slice pa np pc) := by simp [World.cell?, hN]
  have hNs : N < wc.heap.size := (Array.getElem?_eq_some_iff.1 hN).1
  have HNX := Lib.hid hN
  have HEX := Lib.hid hE
  have hEs : E < wc.heap.size := (Array.getElem?_eq_some_iff.1 hE).1
  clear x0 x1 x2 x3 x4 x5 x6 x7 x8 x9 x10 x11 x12 hb3 hN hE HA
  go_upto_region 4 with fail
  go_wp2_with fail
  refine (HNEW.out _ HBC.out).mono ?_
  rintro e w4 ⟨hb4, h⟩
  have hN4 := (hb4.block N hNs).trans HNX.out
  have hE4 := (hb4.block E hEs).trans HEX.out
  have y0 : w4.cell? ⟨N, 0, none⟩ = some (.int .i64 mn) := by simp [World.cell?, hN4]
  have y1 : w4.cell? ⟨N, 1, none⟩ = some (.slice ra nr rc) := by simp [World.cell?, hN4]
  have y2 : w4.cell? ⟨N, 2, none⟩ = some (.slice pa np pc) := by simp [World.cell?, hN4]
  have hN4s : N < w4.heap.size := (Array.getElem?_eq_some_iff.1 hN4).1
  have hE4s : E < w4.heap.size := (Array.getElem?_eq_some_iff.1 hE4).1
  have HB4 := Lib.hid (HBC.out.trans (hb4.mono HBC.out.size))
  have HE4 := Lib.hid hE4
  have HC4 := Lib.hid (HCK.out w4 HB4.out)
  clear hb4 hN4 hE4
  rcases h with ⟨hno, rfl⟩ | ⟨⟨ts, hts⟩, H, K, F, G, mn', va, vb, lo, hi, tg, rfl, hM⟩
  · have HNO := Lib.hid hno
    clear hno
    go_wp2_with fail
    refine HC4.out.mono ?_
    rintro e w5 ⟨hb5, h⟩
    rcases h with ⟨⟨ts, hts⟩, rfl⟩ | ⟨_, rfl⟩
    · exact absurd (HNO.out.symm.trans hts) (by simp)
    have hE5 := (hb5.block E hE4s).trans HE4.out
    have e0 : w5.cell? ⟨E, 0, none⟩ = some (.int .i64 k) := by simp [World.cell?, hE5]
    have e1 : w5.cell? ⟨E, 1, none⟩ = some (.int .i64 n) := by simp [World.cell?, hE5]
    have e2 : w5.cell? ⟨E, 2, none⟩ = some (.int .i64 d) := by simp [World.cell?, hE5]
    have e3 : w5.cell? ⟨E, 3, none⟩ = some (.string nm) := by simp [World.cell?, hE5]
    have e4 : w5.cell? ⟨E, 4, none⟩ = some (.slice ea el ec) := by simp [World.cell?, hE5]
    have e5 : w5.cell? ⟨E, 5, none⟩ = some (.string tx) := by simp [World.cell?, hE5]
    have e6 : w5.cell? ⟨E, 6, none⟩ = some (.int .i64 f) := by simp [World.cell?, hE5]
    have e7 : w5.cell? ⟨E, 7, none⟩ = some (.int .i64 t) := by simp [World.cell?, hE5]
    have hE5s : E < w5.heap.size := (Array.getElem?_eq_some_iff.1 hE5).1
    have HB5 := Lib.hid (HB4.out.trans (hb5.mono HB4.out.size))
    clear hE5 hb5 y0 y1 y2
    go_wp2_with fail
    refine (truth_nil i j w5).mono ?_
    rintro e w6 ⟨rfl, rfl⟩
    go_wp2_with fail
    refine (take_nil _ _ _ _ _ _ _ _ _).mono ?_
    rintro e w7 ⟨rfl, hb7⟩
    have HB7 := Lib.hid (HB5.out.trans (hb7.mono HB5.out.size))
    clear hb7
    go_wp2_with fail
    refine (entries_nil w7).mono ?_
    rintro e w8 ⟨rfl, rfl⟩
    go_wp2_with fail
    go_ret
    exact ⟨rfl, HB7.out⟩
  · have HTS := Lib.hid hts
    clear hts hM
    go_wp2_with fail
    refine HC4.out.mono ?_
    rintro e w5 ⟨hb5, h⟩
    rcases h with ⟨_, rfl⟩ | ⟨hno, rfl⟩
    rotate_left
    · exact absurd (hno.symm.trans HTS.out) (by simp)
    have hE5 := (hb5.block E hE4s).trans HE4.out
    have e0 : w5.cell? ⟨E, 0, none⟩ = some (.int .i64 k) := by simp [World.cell?, hE5]
    have e1 : w5.cell? ⟨E, 1, none⟩ = some (.int .i64 n) := by simp [World.cell?, hE5]
    have e2 : w5.cell? ⟨E, 2, none⟩ = some (.int .i64 d) := by simp [World.cell?, hE5]
    have e3 : w5.cell? ⟨E, 3, none⟩ = some (.string nm) := by simp [World.cell?, hE5]
    have e4 : w5.cell? ⟨E, 4, none⟩ = some (.slice ea el ec) := by simp [World.cell?, hE5]
    have e5 : w5.cell? ⟨E, 5, none⟩ = some (.string tx) := by simp [World.cell?, hE5]
    have e6 : w5.cell? ⟨E, 6, none⟩ = some (.int .i64 f) := by simp [World.cell?, hE5]
    have e7 : w5.cell? ⟨E, 7, none⟩ = some (.int .i64 t) := by simp [World.cell?, hE5]
    have hE5s : E < w5.heap.size := (Array.getElem?_eq_some_iff.1 hE5).1
    have HB5 := Lib.hid (HB4.out.trans (hb5.mono HB4.out.size))
    clear hE5 hb5 y0 y1 y2
    go_wp2_with fail
    refine (truth_nil i j w5).mono ?_
    rintro e w6 ⟨rfl, rfl⟩
    go_wp2_with fail
    refine (take_nil _ _ _ _ _ _ _ _ _).mono ?_
    rintro e w7 ⟨rfl, hb7⟩
    have HB7 := Lib.hid (HB5.out.trans (hb7.mono HB5.out.size))
    clear hb7
    go_wp2_with fail
    refine (entries_nil w7).mono ?_
    rintro e w8 ⟨rfl, rfl⟩
    go_wp2_with fail
    go_ret
    exact ⟨rfl, HB7.out⟩
end Go.Proofs.YtkhejkfjhddobaaDoor

end

section
namespace Go.Proofs.YtkhejkfjhddobaaDoor
open Go.RowKit Gim Go.WideShapes Go.ChangeShapes Go.ChangeAt
set_option maxRecDepth 100000
section
variable {H : Type} {enc : TypeId × Value → H} {W : World}
theorem addr_add2 (a : Addr) (m j : Nat) : (a.add m).add j = a.add (m + j) := by
  unfold Addr.add
  by_cases h1 : m = 0 <;> by_cases h2 : j = 0 <;> simp [h1, h2, Nat.add_assoc]
theorem addr_plain {a : Addr} {v : Value} (h : W.cell? a = some v) : a.spot = none ∧ a.block < W.heap.size := by
  unfold World.cell? at h
  split at h
  · rename_i c hh
    refine ⟨?_, (Array.getElem?_eq_some_iff.1 hh).1⟩
    cases hp : a.spot with
    | none => rfl
    | some v => rw [hp] at h; simp at h
  · simp at h
theorem h_bulk_pos (d : DataW H) : 1 ≤ Rows.uptoBulk d := by
  cases d with
  | lit l => cases l <;> simp [Rows.uptoBulk]
  | _ => simp [Rows.uptoBulk]
theorem h_bulk_len : ∀ l : List (DataW H), l.length ≤ Rows.uptoBulkAll l
  | [] => Nat.zero_le _
  | d :: r => by
    have h1 := h_bulk_pos d
    have h2 := h_bulk_len r
    simp only [Rows.uptoBulkAll, List.length_cons]
    omega
theorem h_bulk_mem : ∀ {l : List (DataW H)} {i : Nat} {d : DataW H}, l[i]? = some d → Rows.uptoBulk d ≤ Rows.uptoBulkAll l
  | [], i, d, h => by simp at h
  | e :: r, 0, d, h => by
    simp only [List.getElem?_cons_zero, Option.some.injEq] at h
    subst h
    simp only [Rows.uptoBulkAll]
    omega
  | e :: r, i + 1, d, h => by
    rw [List.getElem?_cons_succ] at h
    have := h_bulk_mem h
    simp only [Rows.uptoBulkAll]
    omega
theorem ints_cells {fuel : Nat} {c : Value} {y : DataW H × List MemPlace} (h : DataW.trod enc Tryd.prog W 0 (fun _ => true) true fuel 81 [c] = some y) : ∃ a len cap zs, c = .slice a len cap ∧ Rd W .i64 a len cap zs ∧ len ≤ Rows.uptoBulk y.1 := by
  rcases open_ints Tryd.underlying81 Tryd.underlying3 (by kernel_rfl) h with ⟨hcs, _⟩ | ⟨x, l, c', zs, hcs, _, hl, hm, hz, hx, hcell, hwz⟩
  · exact ⟨none, 0, 0, [], by simpa using hcs, ⟨rfl, by omega, by unfold maxLen; omega, fun j hj => by omega⟩, Nat.zero_le _⟩
  · simp only [if_true] at hz
    refine ⟨_, l, c', _, by simpa using hcs, rd_of_cells hl hm (by omega) hcell, ?_⟩
    have h1 := h_bulk_len (H := H) (lits .i64 (zs.take l))
    have h2 : (lits (H := H) .i64 (zs.take l)).length = min l zs.length := by simp [lits]
    rw [hx]
    simp only [Rows.uptoBulk]
    omega
theorem row_cells {fuel : Nat} {cs : List Value} {y : DataW H × List MemPlace} (h : DataW.trod enc Tryd.prog W 0 (fun _ => true) true fuel 83 cs = some y) (hl : cs.length = 4) :
    ∃ (ax ts : Int) (nm : ByteArray) (a : Option Addr) (n cap : Nat) (zs : List Int), cs = [.int .i64 ax, .int .i64 ts, .string nm, .slice a n cap] ∧ Rd W .i64 a n cap zs ∧ 1 + nm.size + n ≤ Rows.uptoBulk y.1 := by
  obtain ⟨xs, n, hn, hx, _, hlen, hf⟩ := DataW.trod_struct Tryd.underlying83 h
  match xs, hlen, cs, hl with
  | [y0, y1, y2, y3], _, [a, b, c, d], _ =>
    have e0 : Tryd.prog.cellsOf 9 = 1 := by kernel_rfl
    have e1 : Tryd.prog.cellsOf 45 = 1 := by kernel_rfl
    have e2 : Tryd.prog.cellsOf 46 = 1 := by kernel_rfl
    have e3 : Tryd.prog.cellsOf 81 = 1 := by kernel_rfl
    have h0 : DataW.trod enc Tryd.prog W 0 (fun _ => true) true n 45 [a] = some y0 := by simpa [e1] using hf 0 _ rfl
    have h1 : DataW.trod enc Tryd.prog W 0 (fun _ => true) true n 46 [b] = some y1 := by simpa [e2] using hf 1 _ rfl
    have h2 : DataW.trod enc Tryd.prog W 0 (fun _ => true) true n 9 [c] = some y2 := by simpa [e0] using hf 2 _ rfl
    have h3 : DataW.trod enc Tryd.prog W 0 (fun _ => true) true n 81 [d] = some y3 := by simpa [e3] using hf 3 _ rfl
    obtain ⟨k, hk, _, _⟩ := DataW.trod_int Tryd.underlying45 h0
    obtain ⟨q, hq, _, _⟩ := DataW.trod_int Tryd.underlying46 h1
    obtain ⟨s, hs, hs2, _⟩ := DataW.trod_string Tryd.underlying9 h2
    obtain ⟨sa, sn, sc, zs, hd, hR, hbk⟩ := ints_cells h3
    simp only [List.cons.injEq, and_true] at hk hq hs
    refine ⟨k, q, s, sa, sn, sc, zs, by rw [hk, hq, hs, hd], hR, ?_⟩
    have e : s.data.toList.length = s.size := rfl
    rw [hx, hs2]
    simp only [List.map_cons, List.map_nil, Rows.uptoBulk, Rows.uptoBulkAll]
    omega
theorem open_rows {fuel : Nat} {cs : List Value} {x : DataW H × List MemPlace} (h : DataW.trod enc Tryd.prog W 0 (fun _ => true) true fuel 22 cs = some x) :
    ∃ rs a n cap, cs = [.slice a n cap] ∧ FitRowS W rs a n cap ∧ n + 1 ≤ Rows.uptoBulk x.1 ∧ ∀ r ∈ rs, 1 + r.nm.size + r.ps.length ≤ Rows.uptoBulk x.1 := by
  rcases DataW.trod_slice Tryd.underlying22 h with h0 | ⟨a, len, cap, elems, rest, n, hn, rfl, hxe, hb, hl, hm, hlen, hel, _⟩
  · exact ⟨[], none, 0, 0, h0.1, ⟨rfl, Nat.le_refl _, Nat.zero_le _, fun j hj => absurd hj (Nat.not_lt_zero _)⟩, h_bulk_pos _, fun r hr => by cases hr⟩
  have e4 : Tryd.prog.cellsOf 83 = 4 := by kernel_rfl
  have hbe : ∀ i (hil : i < len), Rows.uptoBulk (elems[i]'(by omega)).1 ≤ Rows.uptoBulkAll (elems.map (·.1)) := fun i hil => h_bulk_mem (i := i) (by rw [List.getElem?_map, List.getElem?_eq_getElem (by omega)]; rfl)
  have elem : ∀ i (hil : i < len), ∃ (ax ts : Int) (nm : ByteArray) (sa : Option Addr) (sn sc : Nat) (zs : List Int), W.cell? (a.add (i * 4)) = some (.int .i64 ax) ∧ W.cell? (a.add (i * 4 + 1)) = some (.int .i64 ts) ∧ W.cell? (a.add (i * 4 + 2)) = some (.string nm) ∧ W.cell? (a.add (i * 4 + 3)) = some (.slice sa sn sc) ∧ Rd W .i64 sa sn sc zs ∧ 1 + nm.size + zs.length ≤ Rows.uptoBulk (elems[i]'(by omega)).1 := by
    intro i hil
    have hi := hel i hil
    rw [e4, show elems[i]? = some (elems[i]'(by omega)) from List.getElem?_eq_getElem _, Option.bind_eq_some_iff] at hi
    obtain ⟨cs', hcs, hy⟩ := hi
    obtain ⟨_, hl4, hc⟩ := World.cells?_some hcs
    obtain ⟨ax, ts, nm, sa, sn, sc, zs, rfl, hR, hbk⟩ := row_cells hy hl4
    have k0 := hc 0 (by omega)
    have k1 := hc 1 (by omega)
    have k2 := hc 2 (by omega)
    have k3 := hc 3 (by omega)
    rw [addr_add2] at k0 k1 k2 k3
    exact ⟨ax, ts, nm, sa, sn, sc, zs, k0, k1, k2, k3, hR, by rw [hR.len]; exact hbk⟩
  have hs : 0 < len → a.spot = none ∧ a.block < W.heap.size := by
    intro h0
    obtain ⟨ax, _, _, _, _, _, _, k0, _⟩ := elem 0 h0
    exact addr_plain (v := .int .i64 ax) (by simpa [Addr.add] using k0)
  have each : ∀ i : Fin len, ∃ f : RowD, a.spot = none ∧ FitRow W f a.block (a.off + i * 4) ∧ 1 + f.nm.size + f.ps.length ≤ Rows.uptoBulk (elems[i.1]'(by omega)).1 := by
    intro ⟨i, hil⟩
    obtain ⟨ax, ts, nm, sa, sn, sc, zs, k0, k1, k2, k3, hR, hbk⟩ := elem i hil
    have hs := hs (by omega)
    obtain ⟨b, o, p⟩ := a
    simp only at hs
    obtain ⟨rfl, hbs⟩ := hs
    rw [Addr.add_lit] at k0 k1 k2 k3
    exact ⟨⟨ax, ts, nm, zs⟩, rfl, ⟨hbs, k0, k1, k2, sa, sn, sc, k3, hR⟩, hbk⟩
  obtain ⟨f, hf⟩ := Classical.axiomOfChoice each
  have hbl := h_bulk_len (elems.map (·.1))
  rw [List.length_map] at hbl
  refine ⟨List.ofFn f, some a, len, cap, rfl, ⟨by rw [List.length_ofFn], hl, hm, fun j hj => ?_⟩, ?_, fun r hr => ?_⟩
  · obtain ⟨b, o, p⟩ := a
    have hp := (hf ⟨j, hj⟩).1
    simp only at hp
    subst hp
    refine ⟨b, o, rfl, fun i g hg => ?_⟩
    rw [List.getElem?_ofFn] at hg
    split at hg
    · rename_i hlt
      cases hg
      exact (hf ⟨i, hlt⟩).2.1
    · cases hg
  · rw [hxe]
    simp only [Rows.uptoBulk]
    omega
  · obtain ⟨i, hi⟩ := List.mem_iff_getElem?.1 hr
    rw [List.getElem?_ofFn] at hi
    split at hi
    · rename_i hlt
      cases hi
      refine Nat.le_trans (hf ⟨i, hlt⟩).2.2 (Nat.le_trans (hbe i hlt) ?_)
      rw [hxe]
      simp only [Rows.uptoBulk]
      omega
    · cases hi
theorem pred_cells {fuel : Nat} {cs : List Value} {y : DataW H × List MemPlace} (h : DataW.trod enc Tryd.prog W 0 (fun _ => true) true fuel 94 cs = some y) (hl : cs.length = 8) :
    ∃ (op : Int) (a : Option Addr) (n cap : Nat) (zs : List Int) (first count : Int) (attr : ByteArray) (cmp : Int) (txt : ByteArray) (num : Int), cs = [.int .i64 op, .slice a n cap, .int .i64 first, .int .i64 count, .string attr, .int .i64 cmp, .string txt, .int .i64 num] ∧ Rd W .i64 a n cap zs ∧ 1 + attr.size + txt.size + n ≤ Rows.uptoBulk y.1 ∧ (Lit.int .i64 first).wf = true ∧ (Lit.int .i64 count).wf = true := by
  obtain ⟨xs, n, hn, hx, _, hlen, hf⟩ := DataW.trod_struct Tryd.underlying94 h
  match xs, hlen, cs, hl with
  | [y0, y1, y2, y3, y4, y5, y6, y7], _, [c0, c1, c2, c3, c4, c5, c6, c7], _ =>
    have e0 : Tryd.prog.cellsOf 9 = 1 := by kernel_rfl
    have e1 : Tryd.prog.cellsOf 44 = 1 := by kernel_rfl
    have e2 : Tryd.prog.cellsOf 53 = 1 := by kernel_rfl
    have e3 : Tryd.prog.cellsOf 81 = 1 := by kernel_rfl
    have e6 : Tryd.prog.cellsOf 3 = 1 := by kernel_rfl
    have h0 : DataW.trod enc Tryd.prog W 0 (fun _ => true) true n 44 [c0] = some y0 := by simpa [e1] using hf 0 _ rfl
    have h1 : DataW.trod enc Tryd.prog W 0 (fun _ => true) true n 81 [c1] = some y1 := by simpa [e3] using hf 1 _ rfl
    have h2 : DataW.trod enc Tryd.prog W 0 (fun _ => true) true n 3 [c2] = some y2 := by simpa [e6] using hf 2 _ rfl
    have h3 : DataW.trod enc Tryd.prog W 0 (fun _ => true) true n 3 [c3] = some y3 := by simpa [e6] using hf 3 _ rfl
    have h4 : DataW.trod enc Tryd.prog W 0 (fun _ => true) true n 9 [c4] = some y4 := by simpa [e0] using hf 4 _ rfl
    have h5 : DataW.trod enc Tryd.prog W 0 (fun _ => true) true n 53 [c5] = some y5 := by simpa [e2] using hf 5 _ rfl
    have h6 : DataW.trod enc Tryd.prog W 0 (fun _ => true) true n 9 [c6] = some y6 := by simpa [e0] using hf 6 _ rfl
    have h7 : DataW.trod enc Tryd.prog W 0 (fun _ => true) true n 3 [c7] = some y7 := by simpa [e6] using hf 7 _ rfl
    obtain ⟨op, ho, _, _⟩ := DataW.trod_int Tryd.underlying44 h0
    obtain ⟨first, hf1, _, hw1⟩ := DataW.trod_int Tryd.underlying3 h2
    obtain ⟨count, hc1, _, hw2⟩ := DataW.trod_int Tryd.underlying3 h3
    obtain ⟨cmp, hcm, _, _⟩ := DataW.trod_int Tryd.underlying53 h5
    obtain ⟨num, hnu, _, _⟩ := DataW.trod_int Tryd.underlying3 h7
    obtain ⟨s, hs, hs2, _⟩ := DataW.trod_string Tryd.underlying9 h4
    obtain ⟨t, ht, ht2, _⟩ := DataW.trod_string Tryd.underlying9 h6
    obtain ⟨sa, sn, sc, zs, hd, hR, hbk⟩ := ints_cells h1
    simp only [List.cons.injEq, and_true] at ho hf1 hc1 hcm hnu hs ht
    refine ⟨op, sa, sn, sc, zs, first, count, s, cmp, t, num, by rw [ho, hd, hf1, hc1, hs, hcm, ht, hnu], hR, ?_, hw1, hw2⟩
    have e : s.data.toList.length = s.size := rfl
    have e' : t.data.toList.length = t.size := rfl
    rw [hx, hs2, ht2]
    simp only [List.map_cons, List.map_nil, Rows.uptoBulk, Rows.uptoBulkAll]
    omega
theorem open_preds {fuel : Nat} {cs : List Value} {x : DataW H × List MemPlace} (h : DataW.trod enc Tryd.prog W 0 (fun _ => true) true fuel 23 cs = some x) :
    ∃ rs a n cap, cs = [.slice a n cap] ∧ FitPredS W rs a n cap ∧ n + 1 ≤ Rows.uptoBulk x.1 ∧ ∀ r ∈ rs, 1 + r.attr.size + r.txt.size + r.args.length ≤ Rows.uptoBulk x.1 ∧ (Lit.int .i64 r.first).wf = true ∧ (Lit.int .i64 r.count).wf = true := by
  rcases DataW.trod_slice Tryd.underlying23 h with h0 | ⟨a, len, cap, elems, rest, n, hn, rfl, hxe, hb, hl, hm, hlen, hel, _⟩
  · exact ⟨[], none, 0, 0, h0.1, ⟨rfl, Nat.le_refl _, Nat.zero_le _, fun j hj => absurd hj (Nat.not_lt_zero _)⟩, h_bulk_pos _, fun r hr => by cases hr⟩
  have e4 : Tryd.prog.cellsOf 94 = 8 := by kernel_rfl
  have hbe : ∀ i (hil : i < len), Rows.uptoBulk (elems[i]'(by omega)).1 ≤ Rows.uptoBulkAll (elems.map (·.1)) := fun i hil => h_bulk_mem (i := i) (by rw [List.getElem?_map, List.getElem?_eq_getElem (by omega)]; rfl)
  have elem : ∀ i (hil : i < len), ∃ (op : Int) (sa : Option Addr) (sn sc : Nat) (zs : List Int) (first count : Int) (attr : ByteArray) (cmp : Int) (txt : ByteArray) (num : Int), W.cell? (a.add (i * 8)) = some (.int .i64 op) ∧ W.cell? (a.add (i * 8 + 1)) = some (.slice sa sn sc) ∧ W.cell? (a.add (i * 8 + 2)) = some (.int .i64 first) ∧ W.cell? (a.add (i * 8 + 3)) = some (.int .i64 count) ∧ W.cell? (a.add (i * 8 + 4)) = some (.string attr) ∧ W.cell? (a.add (i * 8 + 5)) = some (.int .i64 cmp) ∧ W.cell? (a.add (i * 8 + 6)) = some (.string txt) ∧ W.cell? (a.add (i * 8 + 7)) = some (.int .i64 num) ∧ Rd W .i64 sa sn sc zs ∧ 1 + attr.size + txt.size + zs.length ≤ Rows.uptoBulk (elems[i]'(by omega)).1 ∧ (Lit.int .i64 first).wf = true ∧ (Lit.int .i64 count).wf = true := by
    intro i hil
    have hi := hel i hil
    rw [e4, show elems[i]? = some (elems[i]'(by omega)) from List.getElem?_eq_getElem _, Option.bind_eq_some_iff] at hi
    obtain ⟨cs', hcs, hy⟩ := hi
    obtain ⟨_, hl4, hc⟩ := World.cells?_some hcs
    obtain ⟨op, sa, sn, sc, zs, first, count, attr, cmp, txt, num, rfl, hR, hbk, hw1, hw2⟩ := pred_cells hy hl4
    have k0 := hc 0 (by omega)
    have k1 := hc 1 (by omega)
    have k2 := hc 2 (by omega)
    have k3 := hc 3 (by omega)
    have k4 := hc 4 (by omega)
    have k5 := hc 5 (by omega)
    have k6 := hc 6 (by omega)
    have k7 := hc 7 (by omega)
    rw [addr_add2] at k0 k1 k2 k3 k4 k5 k6 k7
    exact ⟨op, sa, sn, sc, zs, first, count, attr, cmp, txt, num, k0, k1, k2, k3, k4, k5, k6, k7, hR, by rw [hR.len]; exact hbk, hw1, hw2⟩
  have hs : 0 < len → a.spot = none ∧ a.block < W.heap.size := by
    intro h0
    obtain ⟨ax, _, _, _, _, _, _, _, _, _, _, k0, _⟩ := elem 0 h0
    exact addr_plain (v := .int .i64 ax) (by simpa [Addr.add] using k0)
  have each : ∀ i : Fin len, ∃ f : PredD, a.spot = none ∧ FitPred W f a.block (a.off + i * 8) ∧ (1 + f.attr.size + f.txt.size + f.args.length ≤ Rows.uptoBulk (elems[i.1]'(by omega)).1 ∧ (Lit.int .i64 f.first).wf = true ∧ (Lit.int .i64 f.count).wf = true) := by
    intro ⟨i, hil⟩
    obtain ⟨op, sa, sn, sc, zs, first, count, attr, cmp, txt, num, k0, k1, k2, k3, k4, k5, k6, k7, hR, hbk, hw1, hw2⟩ := elem i hil
    have hs := hs (by omega)
    obtain ⟨b, o, p⟩ := a
    simp only at hs
    obtain ⟨rfl, hbs⟩ := hs
    rw [Addr.add_lit] at k0 k1 k2 k3 k4 k5 k6 k7
    exact ⟨⟨op, zs, first, count, attr, cmp, txt, num⟩, rfl, ⟨hbs, k0, k2, k3, k4, k5, k6, k7, sa, sn, sc, k1, hR⟩, hbk, hw1, hw2⟩
  obtain ⟨f, hf⟩ := Classical.axiomOfChoice each
  have hbl := h_bulk_len (elems.map (·.1))
  rw [List.length_map] at hbl
  refine ⟨List.ofFn f, some a, len, cap, rfl, ⟨by rw [List.length_ofFn], hl, hm, fun j hj => ?_⟩, ?_, fun r hr => ?_⟩
  · obtain ⟨b, o, p⟩ := a
    have hp := (hf ⟨j, hj⟩).1
    simp only at hp
    subst hp
    refine ⟨b, o, rfl, fun i g hg => ?_⟩
    rw [List.getElem?_ofFn] at hg
    split at hg
    · rename_i hlt
      cases hg
      exact (hf ⟨i, hlt⟩).2.1
    · cases hg
  · rw [hxe]
    simp only [Rows.uptoBulk]
    omega
  · obtain ⟨i, hi⟩ := List.mem_iff_getElem?.1 hr
    rw [List.getElem?_ofFn] at hi
    split at hi
    · rename_i hlt
      cases hi
      refine ⟨Nat.le_trans (hf ⟨i, hlt⟩).2.2.1 (Nat.le_trans (hbe i hlt) ?_), (hf ⟨i, hlt⟩).2.2.2⟩
      rw [hxe]
      simp only [Rows.uptoBulk]
      omega
    · cases hi
end
end Go.Proofs.YtkhejkfjhddobaaDoor

end

section
namespace Gim
open Go Go.RowKit
theorem array13h {α : Type} {a : Array α} (h : a.size = 13) : ∃ c0 c1 c2 c3 c4 c5 c6 c7 c8 c9 c10 c11 c12, a = #[c0, c1, c2, c3, c4, c5, c6, c7, c8, c9, c10, c11, c12] := by
  obtain ⟨l⟩ := a
  match l, h with
  | [c0, c1, c2, c3, c4, c5, c6, c7, c8, c9, c10, c11, c12], _ => exact ⟨c0, c1, c2, c3, c4, c5, c6, c7, c8, c9, c10, c11, c12, rfl⟩
theorem inR_of {x : Int} (h : (Lit.int .i64 x).wf = true) : InR x := by
  simp [Lit.wf, IntKind.min, IntKind.max, IntKind.signed, IntKind.bits] at h
  unfold InR
  omega
end Gim
namespace Go.Proofs.YtkhejkfjhddobaaDoor
open Go.RowKit Gim Go.WideShapes Go.ChangeShapes Go.ChangeAt
set_option maxRecDepth 100000
section
variable {H : Type} {enc : TypeId × Value → H} {W : World}
theorem net_cells {fuel : Nat} {cs : List Value} {y : DataW H × List MemPlace} (h : DataW.trod enc Tryd.prog W 0 (fun _ => true) true fuel 25 cs = some y) (hl : cs.length = 3) (hb : Rows.uptoBulk y.1 ≤ 1048576) :
    ∃ (nd : NetD) (ra : Option Addr) (rc : Nat) (pa : Option Addr) (pc : Nat), cs = [.int .i64 nd.main, .slice ra nd.rows.length rc, .slice pa nd.preds.length pc] ∧ FitRowS W nd.rows ra nd.rows.length rc ∧ FitPredS W nd.preds pa nd.preds.length pc ∧ NLim nd := by
  obtain ⟨xs, n, hn, hx, _, hlen, hf⟩ := DataW.trod_struct Tryd.underlying25 h
  match xs, hlen, cs, hl with
  | [y0, y1, y2], _, [c0, c1, c2], _ =>
    have e0 : Tryd.prog.cellsOf 3 = 1 := by kernel_rfl
    have e1 : Tryd.prog.cellsOf 22 = 1 := by kernel_rfl
    have e2 : Tryd.prog.cellsOf 23 = 1 := by kernel_rfl
    have h0 : DataW.trod enc Tryd.prog W 0 (fun _ => true) true n 3 [c0] = some y0 := by simpa [e0] using hf 0 _ rfl
    have h1 : DataW.trod enc Tryd.prog W 0 (fun _ => true) true n 22 [c1] = some y1 := by simpa [e1] using hf 1 _ rfl
    have h2 : DataW.trod enc Tryd.prog W 0 (fun _ => true) true n 23 [c2] = some y2 := by simpa [e2] using hf 2 _ rfl
    obtain ⟨mn, hm, _, hw⟩ := DataW.trod_int Tryd.underlying3 h0
    obtain ⟨rs, ra, rn, rc, hr, hFr, hrb, hre⟩ := open_rows h1
    obtain ⟨ps, pa, pn, pc, hp, hFp, hpb, hpe⟩ := open_preds h2
    have hr1 := hFr.len
    have hp1 := hFp.len
    subst hr1
    subst hp1
    simp only [List.cons.injEq, and_true] at hm hr hp
    have hbb : Rows.uptoBulk y1.1 + Rows.uptoBulk y2.1 ≤ 1048576 := by
      rw [hx] at hb
      simp only [List.map_cons, List.map_nil, Rows.uptoBulk, Rows.uptoBulkAll] at hb
      omega
    refine ⟨⟨mn, rs, ps⟩, ra, rc, pa, pc, by rw [hm, hr, hp], hFr, hFp, ⟨by show rs.length + ps.length ≤ _; omega, fun k => ?_, fun k => ?_, fun k => ?_, inR_of hw, ⟨by decide, fun k => ?_, fun k => ?_⟩⟩⟩
    · show (ps.getD k zp).args.length ≤ _
      by_cases hk : k < ps.length
      · have := (hpe _ (List.mem_of_getElem? (get_getD hk zp))).1
        omega
      · rw [List.getD_eq_getElem?_getD, List.getElem?_eq_none (by omega)]
        exact Nat.zero_le _
    · show (rs.getD k zr).ps.length ≤ _
      by_cases hk : k < rs.length
      · have := hre _ (List.mem_of_getElem? (get_getD hk zr))
        omega
      · rw [List.getD_eq_getElem?_getD, List.getElem?_eq_none (by omega)]
        exact Nat.zero_le _
    · show InR (ps.getD k zp).first ∧ InR (ps.getD k zp).count
      by_cases hk : k < ps.length
      · have := (hpe _ (List.mem_of_getElem? (get_getD hk zp))).2
        exact ⟨inR_of this.1, inR_of this.2⟩
      · rw [List.getD_eq_getElem?_getD, List.getElem?_eq_none (by omega)]
        exact ⟨⟨by decide, by decide⟩, by decide, by decide⟩
    · show 1 + (ps.getD k zp).attr.size + (ps.getD k zp).txt.size ≤ _
      by_cases hk : k < ps.length
      · have := (hpe _ (List.mem_of_getElem? (get_getD hk zp))).1
        omega
      · rw [List.getD_eq_getElem?_getD, List.getElem?_eq_none (by omega)]
        show 1 + ByteArray.empty.size + ByteArray.empty.size ≤ _
        decide
    · show 1 + (rs.getD k zr).nm.size ≤ _
      by_cases hk : k < rs.length
      · have := hre _ (List.mem_of_getElem? (get_getD hk zr))
        omega
      · rw [List.getD_eq_getElem?_getD, List.getElem?_eq_none (by omega)]
        show 1 + ByteArray.empty.size ≤ _
        decide
theorem event_cells {fuel : Nat} {cs : List Value} {y : DataW H × List MemPlace} (h : DataW.trod enc Tryd.prog W 0 (fun _ => true) true fuel 29 cs = some y) (hl : cs.length = 8) :
    ∃ (k n d f t : Int) (nm tx : ByteArray) (ea : Option Addr) (el ec : Nat), cs = [.int .i64 k, .int .i64 n, .int .i64 d, .string nm, .slice ea el ec, .string tx, .int .i64 f, .int .i64 t] := by
  obtain ⟨xs, n, hn, hx, _, hlen, hf⟩ := DataW.trod_struct Tryd.underlying29 h
  match xs, hlen, cs, hl with
  | [y0, y1, y2, y3, y4, y5, y6, y7], _, [c0, c1, c2, c3, c4, c5, c6, c7], _ =>
    have e0 : Tryd.prog.cellsOf 9 = 1 := by kernel_rfl
    have e1 : Tryd.prog.cellsOf 26 = 1 := by kernel_rfl
    have e3 : Tryd.prog.cellsOf 27 = 1 := by kernel_rfl
    have e6 : Tryd.prog.cellsOf 3 = 1 := by kernel_rfl
    have h0 : DataW.trod enc Tryd.prog W 0 (fun _ => true) true n 26 [c0] = some y0 := by simpa [e1] using hf 0 _ rfl
    have h1 : DataW.trod enc Tryd.prog W 0 (fun _ => true) true n 3 [c1] = some y1 := by simpa [e6] using hf 1 _ rfl
    have h2 : DataW.trod enc Tryd.prog W 0 (fun _ => true) true n 3 [c2] = some y2 := by simpa [e6] using hf 2 _ rfl
    have h3 : DataW.trod enc Tryd.prog W 0 (fun _ => true) true n 9 [c3] = some y3 := by simpa [e0] using hf 3 _ rfl
    have h4 : DataW.trod enc Tryd.prog W 0 (fun _ => true) true n 27 [c4] = some y4 := by simpa [e3] using hf 4 _ rfl
    have h5 : DataW.trod enc Tryd.prog W 0 (fun _ => true) true n 9 [c5] = some y5 := by simpa [e0] using hf 5 _ rfl
    have h6 : DataW.trod enc Tryd.prog W 0 (fun _ => true) true n 3 [c6] = some y6 := by simpa [e6] using hf 6 _ rfl
    have h7 : DataW.trod enc Tryd.prog W 0 (fun _ => true) true n 3 [c7] = some y7 := by simpa [e6] using hf 7 _ rfl
    obtain ⟨k, hk, _, _⟩ := DataW.trod_int Tryd.underlying26 h0
    obtain ⟨m, hm, _, _⟩ := DataW.trod_int Tryd.underlying3 h1
    obtain ⟨d, hd, _, _⟩ := DataW.trod_int Tryd.underlying3 h2
    obtain ⟨s, hs, _, _⟩ := DataW.trod_string Tryd.underlying9 h3
    obtain ⟨t, ht, _, _⟩ := DataW.trod_string Tryd.underlying9 h5
    obtain ⟨f, hf', _, _⟩ := DataW.trod_int Tryd.underlying3 h6
    obtain ⟨u, hu, _, _⟩ := DataW.trod_int Tryd.underlying3 h7
    obtain ⟨ea, el, ec, he⟩ : ∃ a l c, [c4] = [Value.slice a l c] := by
      rcases DataW.trod_slice Tryd.underlying27 h4 with h0 | ⟨a, len, cap, elems, rest, n, hn, hc, _⟩
      · exact ⟨_, _, _, h0.1⟩
      · exact ⟨_, _, _, hc⟩
    simp only [List.cons.injEq, and_true] at hk hm hd hs ht hf' hu he
    exact ⟨k, m, d, f, u, s, t, ea, el, ec, by rw [hk, hm, hd, hs, he, ht, hf', hu]⟩
theorem open_four {r : Reach} {b0 : Nat} {v : Value} {d : DataW H} {p : List MemPlace} (hv : Value.okWide Tryd.prog W r b0 31 v) (h : DataW.Trod enc Tryd.prog W 0 (fun _ => true) true 31 v d p) (hb : Rows.uptoBulk d ≤ 1048576) :
    ∃ (nd : NetD) (ra : Option Addr) (rc : Nat) (pa : Option Addr) (pc : Nat) (k n dd f t : Int) (nm tx : ByteArray) (ea : Option Addr) (el ec : Nat) (i j : Int),
      v = .agg #[.int .i64 nd.main, .slice ra nd.rows.length rc, .slice pa nd.preds.length pc, .int .i64 k, .int .i64 n, .int .i64 dd, .string nm, .slice ea el ec, .string tx, .int .i64 f, .int .i64 t, .int .i64 i, .int .i64 j] ∧ FitRowS W nd.rows ra nd.rows.length rc ∧ FitPredS W nd.preds pa nd.preds.length pc ∧ NLim nd := by
  obtain ⟨cs, rfl, hsz⟩ := okWide_struct Tryd.underlying31 hv
  obtain ⟨c0, c1, c2, c3, c4, c5, c6, c7, c8, c9, c10, c11, c12, rfl⟩ := array13h (hsz.trans (by kernel_rfl))
  obtain ⟨fuel, hf⟩ := h
  obtain ⟨y0, y1, y2, y3, n, hx, _, h0, h1, h2, h3⟩ := Go.Joins.trod_struct4 Tryd.underlying31 hf
  have e3 : Tryd.prog.cellsOf 25 = 3 := by kernel_rfl
  have e8 : Tryd.prog.cellsOf 29 = 8 := by kernel_rfl
  have e1 : Tryd.prog.cellsOf 3 = 1 := by kernel_rfl
  have k0 : DataW.trod enc Tryd.prog W 0 (fun _ => true) true n 25 [c0, c1, c2] = some y0 := by simpa [e3, Value.cells] using h0
  have k1 : DataW.trod enc Tryd.prog W 0 (fun _ => true) true n 29 [c3, c4, c5, c6, c7, c8, c9, c10] = some y1 := by simpa [e3, e8, Value.cells] using h1
  have k2 : DataW.trod enc Tryd.prog W 0 (fun _ => true) true n 3 [c11] = some y2 := by simpa [e3, e8, e1, Value.cells] using h2
  have k3 : DataW.trod enc Tryd.prog W 0 (fun _ => true) true n 3 [c12] = some y3 := by simpa [e3, e8, e1, Value.cells] using h3
  simp only [Prod.mk.injEq] at hx
  have hb0 : Rows.uptoBulk y0.1 ≤ 1048576 := by
    rw [hx.1] at hb
    simp only [Rows.uptoBulk, Rows.uptoBulkAll] at hb
    omega
  obtain ⟨nd, ra, rc, pa, pc, hn, hR, hP, hL⟩ := net_cells k0 rfl hb0
  obtain ⟨k, m, dd, f, t, nm, tx, ea, el, ec, he⟩ := event_cells k1 rfl
  obtain ⟨i, hi, _, _⟩ := DataW.trod_int Tryd.underlying3 k2
  obtain ⟨j, hj, _, _⟩ := DataW.trod_int Tryd.underlying3 k3
  simp only [List.cons.injEq, and_true] at hn he hi hj
  obtain ⟨rfl, rfl, rfl⟩ := hn
  obtain ⟨rfl, rfl, rfl, rfl, rfl, rfl, rfl, rfl⟩ := he
  subst hi hj
  exact ⟨nd, ra, rc, pa, pc, k, m, dd, f, t, nm, tx, ea, el, ec, i, j, rfl, hR, hP, hL⟩
end
end Go.Proofs.YtkhejkfjhddobaaDoor

end

