/- The walk of gimlettop.WholeFeeds: it answers true. -/
import Derived.Test.YtpkdbfnnbbkkiaaDoorFeedCutter
import Derived.Test.YtpkdbfnnbbkkiaaDoorFeedWholeWalk
import Derived.Test.YtpkdbfnnbbkkiaaDoorFeedEagerWalk
namespace Gim
open Go Go.Lib
set_option maxRecDepth 100000 in
theorem drain_demo : drainB [195, 169, 13, 10] (0, 0, 1, 1) true = ([(233, (0, 0, 1, 1), 2), (10, (2, 1, 1, 2), 2)], [], (4, 3, 2, 1)) := by kernel_rfl
theorem extract_nums (xs : List Int) (p : Nat) : (strOfNums xs).extract 0 p = strOfNums (xs.take p) := by
  apply ByteArray.ext
  apply Array.ext'
  show ((strOfNums xs).extract 0 p).data.toList = _
  rw [ByteArray.data_extract]
  simp [strOfNums, List.map_take]
end Gim
namespace Go.Proofs.YtpkdbfnnbbkkiaaDoor
open Go.RowKit Gim
theorem run_runes_len {P : Program} (src dst e : TypeId) (s : ByteArray) (hs : P.underlying src = some .string) (hd : P.underlying dst = some (.slice e)) (he : P.underlying e = some (.int .i32)) :
    ∃ (gc : World → Nat) (ob : World → Obj), ∀ W, (convert src dst (.string s)).run P W = .ok (.slice (some ⟨W.heap.size, 0, none⟩) (rs s).length (gc W)) (W.drew.alloc (ob W)) := by
  have hsize : (Conv.runesFrom s s.size 0 #[]).size = (rs s).length := by rw [convRunes_eq]; simp
  refine ⟨fun W => grownCap W (rs s).length 0 e, fun W => .cells (Conv.runesFrom s s.size 0 #[] ++ Array.replicate (grownCap W (rs s).length 0 e - (rs s).length) (.int .i32 0)) e, fun W => ?_⟩
  have h := run_runes_any (P := P) W src dst e s hs hd he
  rw [hsize] at h
  exact h
set_option maxRecDepth 100000 in
set_option maxHeartbeats 8000000 in
theorem wholeFeeds_calls (w : World) (ao : Option Addr) (n cap : Nat) (b : List Int) (h : Rd w .u8 ao n cap b) (hby : ∀ x ∈ b, 0 ≤ x ∧ x ≤ 255) (hn : n ≤ 274877906944) (ao2 : Option Addr) (n2 cap2 : Nat) (cs : List Int) (h2 : Rd w .i64 ao2 n2 cap2 cs) (hn2 : n2 ≤ 274877906944) (hT : U8 w) :
    Calls Tryd.prog 3 #[.slice ao n cap, .slice ao2 n2 cap2] w fun e w' => e = .returned (.bool true) ∧ Below w.heap.size w w' := by
  have HBY := Lib.hid hby
  have HT := Lib.hid hT
  have H := Lib.hid h
  have H2 := Lib.hid h2
  have HL := Lib.hid h.len
  -- the demonstration
  have d1 := rd_new w 5 (0, 0) [195] (by decide)
  have g1 : Below w.heap.size w (w.alloc (.cells ([195].map (Value.int .u8)).toArray 5)) := (Below.refl _ _).alloc (Nat.le_refl _) _
  have z1 : (w.alloc (.cells ([195].map (Value.int .u8)).toArray 5)).heap.size = w.heap.size + 1 := by simp
  obtain ⟨w1, hw1⟩ : ∃ w1, Hid (w1 = w.alloc (.cells ([195].map (Value.int .u8)).toArray 5)) := ⟨_, rfl⟩
  rw [← hw1.out] at d1 g1 z1
  have d2 := rd_new w1 5 (0, 0) [169, 13] (by decide)
  have g2 : Below w1.heap.size w1 (w1.alloc (.cells ([169, 13].map (Value.int .u8)).toArray 5)) := (Below.refl _ _).alloc (Nat.le_refl _) _
  have z2 : (w1.alloc (.cells ([169, 13].map (Value.int .u8)).toArray 5)).heap.size = w1.heap.size + 1 := by simp
  obtain ⟨w2, hw2⟩ : ∃ w2, Hid (w2 = w1.alloc (.cells ([169, 13].map (Value.int .u8)).toArray 5)) := ⟨_, rfl⟩
  rw [← hw2.out] at d2 g2 z2
  have d3 := rd_new w2 5 (0, 0) [10] (by decide)
  have g3 : Below w2.heap.size w2 (w2.alloc (.cells ([10].map (Value.int .u8)).toArray 5)) := (Below.refl _ _).alloc (Nat.le_refl _) _
  have z3 : (w2.alloc (.cells ([10].map (Value.int .u8)).toArray 5)).heap.size = w2.heap.size + 1 := by simp
  obtain ⟨w3, hw3⟩ : ∃ w3, Hid (w3 = w2.alloc (.cells ([10].map (Value.int .u8)).toArray 5)) := ⟨_, rfl⟩
  rw [← hw3.out] at d3 g3 z3
  have g4 : Below w3.heap.size w3 (w3.alloc (.cells #[.slice (some ⟨w.heap.size, 0, none⟩) 1 1, .slice (some ⟨w1.heap.size, 0, none⟩) 2 2, .slice (some ⟨w2.heap.size, 0, none⟩) 1 1] 22)) := (Below.refl _ _).alloc (Nat.le_refl _) _
  have y4 := heap_alloc_new w3 (.cells #[.slice (some ⟨w.heap.size, 0, none⟩) 1 1, .slice (some ⟨w1.heap.size, 0, none⟩) 2 2, .slice (some ⟨w2.heap.size, 0, none⟩) 1 1] 22)
  have s3 : w3.heap.size < (w3.alloc (.cells #[.slice (some ⟨w.heap.size, 0, none⟩) 1 1, .slice (some ⟨w1.heap.size, 0, none⟩) 2 2, .slice (some ⟨w2.heap.size, 0, none⟩) 1 1] 22)).heap.size := by simp
  obtain ⟨w4, hw4⟩ : ∃ w4, Hid (w4 = w3.alloc (.cells #[.slice (some ⟨w.heap.size, 0, none⟩) 1 1, .slice (some ⟨w1.heap.size, 0, none⟩) 2 2, .slice (some ⟨w2.heap.size, 0, none⟩) 1 1] 22)) := ⟨_, rfl⟩
  rw [← hw4.out] at g4 y4 s3
  have rds : RdS w4 (some ⟨w3.heap.size, 0, none⟩) 3 3 [[195], [169, 13], [10]] := by
    refine ⟨rfl, Nat.le_refl _, by unfold maxLen; omega, fun _ _ => ⟨_, _, rfl, s3, fun i hi => ?_⟩⟩
    have c : ∀ j, w4.cell? ⟨w3.heap.size, 0 + j, none⟩ = (#[Value.slice (some ⟨w.heap.size, 0, none⟩) 1 1, .slice (some ⟨w1.heap.size, 0, none⟩) 2 2, .slice (some ⟨w2.heap.size, 0, none⟩) 1 1] : Array Value)[j]? := fun j => by
      unfold World.cell?
      rw [y4, Nat.zero_add]
      rfl
    match i, hi with
    | 0, _ => exact ⟨_, _, _, c 0, ((d1.below g2).below g3).below g4, fun x hx => (by have hx : x ∈ [195] := hx; rw [List.mem_singleton.1 hx]; decide), fun hh => (by cases hh)⟩
    | 1, _ => exact ⟨_, _, _, c 1, (d2.below g3).below g4, fun x hx => (by have hx : x ∈ [169, 13] := hx; simp at hx; omega), fun hh => (by cases hh)⟩
    | 2, _ => exact ⟨_, _, _, c 2, d3.below g4, fun x hx => (by have hx : x ∈ [10] := hx; rw [List.mem_singleton.1 hx]; decide), fun hh => by cases hh⟩
  have g14 : Below w.heap.size w w4 := g1.trans ((g2.mono (by omega)).trans ((g3.mono (by omega)).trans (g4.mono (by omega))))
  have hR1 := read_calls w4 _ _ _ _ rds (by decide) (by decide) (HT.out.below g14)
  unfold ReadP at hR1
  rw [show ([[195], [169, 13], [10]] : List (List Int)).flatten = [195, 169, 13, 10] from rfl, drain_demo] at hR1
  have e4 : w4 = ((((w.alloc (Obj.cells #[.int .u8 195] 5)).alloc (Obj.cells #[.int .u8 169, .int .u8 13] 5)).alloc (Obj.cells #[.int .u8 10] 5)).alloc (Obj.cells #[.slice (some ⟨w.heap.size, 0, none⟩) 1 1, .slice (some ⟨w.heap.size + 1, 0, none⟩) 2 2, .slice (some ⟨w.heap.size + 1 + 1, 0, none⟩) 1 1] 22)) := by
    rw [hw4.out, z2, z1, hw3.out, hw2.out, hw1.out]
    rfl
  have E4 := Lib.hid e4
  have Z3 := Lib.hid (show w.heap.size + 1 + 1 + 1 = w3.heap.size by omega)
  have HR1 := Lib.hid hR1
  have G14 := Lib.hid g14
  clear hR1 rds g1 g2 g3 g4 d1 d2 d3 y4 g14 s3 e4 z1 z2 z3
  -- what the two reads come to
  obtain ⟨D, hD⟩ : ∃ D, Hid (D = drainB b (0, 0, 1, 1) true) := ⟨_, rfl⟩
  obtain ⟨fh, hfh⟩ : ∃ fh, Hid (fh = (firstB D.2.1 true).2.2) := ⟨_, rfl⟩
  have hDl := drain_len true _ b (0, 0, 1, 1) (Nat.le_refl _)
  rw [← hD.out] at hDl
  have hPR : ∀ (w' : World) (b' : Below w.heap.size w w') (a : Option Addr) (m c : Nat) (es : List Int) (he : Rd w' .i64 a m c es) (hm : m ≤ 274877906944), Calls Tryd.prog 9 #[.slice ao n cap, .slice a m c] w' (CutP w' b) := by
    intro w' b' a m c es he hm
    exact cutter_calls w' ao n cap b (H.out.below b') HBY.out hn a m c es he hm
  have hRR : ∀ (w' : World) (b' : Below w.heap.size w w') (a : Option Addr) (c : Nat) (L : List (List Int)) (hL : RdS w' a L.length c L) (hf : L.flatten = b) (hl : L.length ≤ b.length), Calls Tryd.prog 8 #[.slice a L.length c] w' fun E w2 =>
      ∃ vs, E = .returned (.tuple #[vs, .int .i64 fh, .agg #[.int .i64 D.2.2.1, .int .i64 D.2.2.2.1, .int .i64 D.2.2.2.2.1, .int .i64 D.2.2.2.2.2], .bool true]) ∧ Row6 w2 w'.heap.size vs D.1 ∧ Below w'.heap.size w' w2 := by
    intro w' b' a c L hL hf hl
    have hlb := HL.out
    have := read_calls w' a L.length c L hL (by omega) (by rw [hf]; omega) (HT.out.below b')
    unfold ReadP at this
    rw [hf, ← hD.out, ← hfh.out] at this
    exact this
  have HPR := Lib.hid hPR
  have HRR := Lib.hid hRR
  obtain ⟨ds, D1, p1, p2, p3, p4⟩ := D
  simp only [] at HRR hDl hfh
  obtain ⟨M, hM⟩ : ∃ M, Hid (M = ds.length) := ⟨_, rfl⟩
  rw [← hM.out] at hDl
  have hMn : M ≤ 274877906944 := by have := HL.out; omega
  clear hPR hRR h h2 hby hT
  go_enter Tryd.func3, Tryd.ntmps3
  go_wp2_with fail
  rw [← E4.out, Z3.out]
  refine HR1.out.mono ?_
  rintro e w5 ⟨v5, rfl, row5, b5⟩
  clear HR1 E4 Z3 hw1 hw2 hw3 hw4
  obtain ⟨ao5, cap5, rfl, rd5, _⟩ := row5.rd
  have g5 := G14.out.trans (b5.mono G14.out.size)
  have g6 := g5.alloc g5.size (Obj.cells #[.int .i64 4, .int .i64 3, .int .i64 2, .int .i64 1] 27)
  have rd6 := rd5.below ((Below.refl w5.heap.size w5).alloc (Nat.le_refl _) (Obj.cells #[.int .i64 4, .int .i64 3, .int .i64 2, .int .i64 1] 27))
  clear g5 rd5 row5 b5 G14
  go_upto_region 2 with fail
  generalize w5.alloc (Obj.cells #[.int .i64 4, .int .i64 3, .int .i64 2, .int .i64 1] 27) = w6 at g6 rd6 ⊢
  obtain ⟨g', c0, e0, hc0, l0, l1, l2, l3, l4, l5⟩ := rd6.get (i := 0) (by decide)
  obtain ⟨g'', c1, e1, hc1, m0, m1, m2, m3, m4, m5⟩ := rd6.get (i := 1) (by decide)
  subst e0
  injection e1 with e1
  injection e1 with e1
  subst e1
  obtain rfl := Option.some.inj hc0
  obtain rfl := Option.some.inj hc1
  simp only [Nat.zero_mul, Nat.one_mul, Nat.zero_add] at l0 l1 l2 l3 l4 l5 m0 m1 m2 m3 m4 m5
  clear hc0 hc1
  have G6 := Lib.hid g6
  clear g6 rd6
  go_wp2_with fail
  refine (HPR.out w6 G6.out _ _ _ [] (rd_nil _ _) (by decide)).mono ?_
  rintro e w7 ⟨a7, c7, L7, rfl, rds7, hf7, hl7, b7⟩
  have G7 := Lib.hid (G6.out.trans (b7.mono G6.out.size))
  have HR := Lib.hid (HRR.out w7 G7.out a7 c7 L7 rds7 hf7 hl7)
  clear rds7 hf7 hl7 b7
  go_wp2_with fail
  refine HR.out.mono ?_
  rintro e w8 ⟨v8, rfl, row8, b8⟩
  clear HR
  obtain ⟨ao8, cap8, rfl, rd8, _⟩ := row8.rd
  have G8 := G7.out.trans (b8.mono G7.out.size)
  have G9 := Lib.hid (G8.alloc G8.size (Obj.cells #[.int .i64 p1, .int .i64 p2, .int .i64 p3, .int .i64 p4] 27))
  have rd9 := rd8.below ((Below.refl w8.heap.size w8).alloc (Nat.le_refl _) (Obj.cells #[.int .i64 p1, .int .i64 p2, .int .i64 p3, .int .i64 p4] 27))
  have y9 := heap_alloc_new w8 (Obj.cells #[.int .i64 p1, .int .i64 p2, .int .i64 p3, .int .i64 p4] 27)
  rw [← hM.out] at rd9 ⊢
  clear G8 rd8 row8 b8
  go_upto_region 5 with fail
  generalize w8.alloc (Obj.cells #[.int .i64 p1, .int .i64 p2, .int .i64 p3, .int .i64 p4] 27) = w9 at G9 rd9 y9 ⊢
  generalize w8.heap.size = C9 at y9 ⊢
  generalize w7.heap.size = B9 at rd9
  go_wp2_with fail
  refine (HPR.out w9 G9.out _ _ _ _ (H2.out.below G9.out) hn2).mono ?_
  rintro e wa ⟨aa, ca, La, rfl, rdsa, hfa, hla, ba⟩
  have Ga := Lib.hid (G9.out.trans (ba.mono G9.out.size))
  have HR := Lib.hid (HRR.out wa Ga.out aa ca La rdsa hfa hla)
  have HBA := Lib.hid ba
  clear rdsa hfa hla ba
  go_wp2_with fail
  refine HR.out.mono ?_
  rintro e wb ⟨vb, rfl, rowb, bb⟩
  clear HR
  obtain ⟨aob, capb, rfl, rdb, _⟩ := rowb.rd
  have Gb := Ga.out.trans (bb.mono Ga.out.size)
  have b9b := HBA.out.trans (bb.mono HBA.out.size)
  have b9c := b9b.alloc b9b.size (Obj.cells #[.int .i64 p1, .int .i64 p2, .int .i64 p3, .int .i64 p4] 27)
  have Gc := Lib.hid (Gb.alloc Gb.size (Obj.cells #[.int .i64 p1, .int .i64 p2, .int .i64 p3, .int .i64 p4] 27))
  have rdc := rdb.below ((Below.refl wb.heap.size wb).alloc (Nat.le_refl _) (Obj.cells #[.int .i64 p1, .int .i64 p2, .int .i64 p3, .int .i64 p4] 27))
  have rd9c := rd9.below b9c
  have yc := (b9c.block C9 (Array.getElem?_eq_some_iff.1 y9).1).trans y9
  have zc := heap_alloc_new wb (Obj.cells #[.int .i64 p1, .int .i64 p2, .int .i64 p3, .int .i64 p4] 27)
  rw [← hM.out] at rdc ⊢
  clear Gb rdb rowb bb b9b b9c rd9 y9 HBA
  go_upto_region 6 with fail
  generalize wb.alloc (Obj.cells #[.int .i64 p1, .int .i64 p2, .int .i64 p3, .int .i64 p4] 27) = W at Gc rdc rd9c yc zc ⊢
  generalize wb.heap.size = CC at zc ⊢
  generalize wa.heap.size = BA at rdc
  have q0 : W.cell? ⟨C9, 0, none⟩ = some (.int .i64 p1) := by simp [World.cell?, yc]
  have q1 : W.cell? ⟨C9, 1, none⟩ = some (.int .i64 p2) := by simp [World.cell?, yc]
  have q2 : W.cell? ⟨C9, 2, none⟩ = some (.int .i64 p3) := by simp [World.cell?, yc]
  have q3 : W.cell? ⟨C9, 3, none⟩ = some (.int .i64 p4) := by simp [World.cell?, yc]
  have r0 : W.cell? ⟨CC, 0, none⟩ = some (.int .i64 p1) := by simp [World.cell?, zc]
  have r1 : W.cell? ⟨CC, 1, none⟩ = some (.int .i64 p2) := by simp [World.cell?, zc]
  have r2 : W.cell? ⟨CC, 2, none⟩ = some (.int .i64 p3) := by simp [World.cell?, zc]
  have r3 : W.cell? ⟨CC, 3, none⟩ = some (.int .i64 p4) := by simp [World.cell?, zc]
  go_wp2_with fail
  go_loopw [102] (fun v102 wr => ∃ i : Nat, v102 = .int .i64 i ∧ i ≤ M ∧ Drew W wr) (fun u102 _ => M - (RowKit.intOf u102).toNat)
  case atStart => exact ⟨0, rfl, Nat.zero_le _, Drew.refl _⟩
  case round =>
    obtain ⟨i, rfl, hi, hd⟩ := hrel
    by_cases hil : i < M
    · have hil' : (i : Int) < M := by omega
      obtain ⟨g5, c, rfl, hc5, l0, l1, l2, l3, l4, l5⟩ := (rd9c.below (hd.below _)).get hil
      obtain ⟨g6, c', rfl, hc6, m0, m1, m2, m3, m4, m5⟩ := (rdc.below (hd.below _)).get hil
      obtain rfl : c = c' := by rw [hc5] at hc6; exact Option.some.inj hc6
      obtain ⟨d0, ⟨d1, d2, d3, d4⟩, d5⟩ := c
      simp only [] at l0 l1 l2 l3 l4 l5 m0 m1 m2 m3 m4 m5
      clear hc5 hc6
      go_wp2_with fail
      go_quiet (fail)
      go_wp2
      go_roundw
      case rel => exact ⟨i + 1, by go_num, hil, hd.drewN _⟩
      case measure => simp [RowKit.intOf]; omega
    · have hil' : ¬ (i : Int) < M := by omega
      obtain ⟨WR, rfl⟩ : ∃ WR, WR = wr := ⟨_, rfl⟩
      have GW := Lib.hid (Gc.out.trans ((hd.below _).mono Gc.out.size))
      have rdW := rd9c.below (hd.below _)
      have hcv := (H.out.below GW.out).convB (P := Tryd.prog) (src := 22) (dst := 9) Tryd.underlying22 Tryd.underlying5 Tryd.underlying9
      obtain ⟨s, hs⟩ : ∃ s, Hid (s = strOfNums b) := ⟨_, rfl⟩
      have hsz : s.size = n := by rw [hs.out, strOfNums_size, HL.out]
      have HSZ := Lib.hid hsz
      rw [← hs.out] at hcv
      obtain ⟨K, hK⟩ : ∃ K, Hid (K = WR.heap.size) := ⟨_, rfl⟩
      have hsn : s.size ≤ 274877906944 := by omega
      clear hsz rd9c rdc yc zc q0 q1 q2 q3 r0 r1 r2 r3 hd
      go_wp2_with fail
      rw [← hK.out]
      have HW0 : Hid (WS b ds (D1, p1, p2, p3, p4) 0 0 0) := Lib.hid (by have := WS.start b; rw [← hD.out] at this; exact this)
      clear hcv
      go_loopw [17, 19] (fun v17 v19 wx => ∃ (p nn : Nat) (was : Int), v17 = .int .i64 nn ∧ v19 = .int .i32 was ∧ wx.heap[K]? = some (.stringIter s p) ∧ Below K WR wx ∧ nn ≤ M ∧ Hid (WS b ds (D1, p1, p2, p3, p4) p was nn)) (fun _ _ wx => s.size - wx.iterPos K)
      case atStart => exact ⟨0, 0, 0, rfl, rfl, by rw [hK.out]; exact World.iter_heap WR s 0, by rw [hK.out]; exact (Below.refl _ _).alloc (Nat.le_refl _) _, Nat.zero_le _, HW0⟩
      case round =>
        obtain ⟨p, nn, was, rfl, rfl, hit, hbx, hnM, HW⟩ := hrel
        have hpos0 := iterPos_of hit
        by_cases hp : p < s.size
        · obtain ⟨W1, hnx, hw1⟩ := next_some (P := Tryd.prog) hit hp
          have hbx2 := hw1.below _ _ hbx (Nat.le_refl _)
          have hpx : p < b.length := by rw [HL.out, ← HSZ.out]; exact hp
          have hdec : Utf8.decode s p = decB (b.drop p) := by rw [hs.out]; exact dec_str HBY.out hpx
          have hwd := decB_width (xs := b.drop p) (by rw [List.length_drop]; omega)
          have hRD := HW.out.round HBY.out hpx
          rw [hdec] at hnx hw1
          generalize decB (b.drop p) = dp at hnx hw1 hRD hwd
          obtain ⟨rn, wd⟩ := dp
          simp only [] at hnx hw1 hRD hwd
          have HWD := Lib.hid hwd
          obtain ⟨r, hr⟩ : ∃ r : Int, Hid (r = (rn : Int)) := ⟨_, rfl⟩
          rw [← hr.out] at hRD
          simp only [← hr.out] at hnx
          clear hwd hit hbx hdec HW
          rcases hRD with ⟨h10, h13, hS⟩ | ⟨hno, ⟨hdr, hbad, hnw⟩ | ⟨q, w', hget, hnl, hq1, hq2, hS⟩⟩
          · subst h10
            subst h13
            have HS := Lib.hid hS
            clear hS
            go_wp2_with fail
            go_roundw
            case rel => exact ⟨_, nn, 10, rfl, rfl, hw1.it, hbx2, hnM, HS⟩
            case measure => have := HWD.out; rw [hw1.at_, hpos0]; omega
          · have hnM2 : nn = M := by
              have hx := List.drop_eq_nil_iff.1 hdr
              have := hM.out
              omega
            have hfe : fh = 2 := by rw [hfh.out]; exact hbad
            subst hnM2
            subst hfe
            have HNW := Lib.hid hnw
            have GB := Lib.hid (GW.out.trans (hbx2.mono (by rw [hK.out]; exact GW.out.size)))
            have hWC := whole_calls b HBY.out (by rw [HL.out]; exact hn) W1
            rw [← hs.out] at hWC
            have HWC := Lib.hid hWC
            clear hWC hdr hbad hnw
            by_cases h10 : r = 10
            · have h13 : ¬ was = 13 := fun hh => hno ⟨h10, hh⟩
              have h13b : (was == 13) = false := beq_eq_false_iff_ne.2 h13
              subst h10
              go_wp2_with fail
              refine HWC.out.mono ?_
              rintro e wz ⟨rfl, bz⟩
              rw [HNW.out]
              clear HWC
              go_wp2_with fail
              go_ret
              exact ⟨by first | rfl | simp, GB.out.trans (bz.mono GB.out.size)⟩
            · have h10b : (r == 10) = false := beq_eq_false_iff_ne.2 h10
              go_wp2_with fail
              refine HWC.out.mono ?_
              rintro e wz ⟨rfl, bz⟩
              rw [HNW.out]
              clear HWC
              go_wp2_with fail
              go_ret
              exact ⟨by first | rfl | simp, GB.out.trans (bz.mono GB.out.size)⟩
          · have hnl2 : nn < M := by have := hM.out; omega
            have hnl' : (nn : Int) < M := by omega
            have hnq : ((nn : Int) == M) = false := beq_eq_false_iff_ne.2 (by omega)
            have rdx := rdW.below (show Below WR.heap.size WR W1 by rw [← hK.out]; exact hbx2)
            obtain ⟨g5, c, rfl, hc5, l0, l1, l2, l3, l4, l5⟩ := rdx.get hnl2
            rw [hget] at hc5
            obtain rfl := Option.some.inj hc5
            simp only [] at l0 l1 l2 l3 l4 l5
            rw [hq1] at l1
            rw [hq2] at l2
            have HS := Lib.hid hS
            clear hS hget hc5 hq1 hq2 l3 l4 l5
            by_cases h10 : r = 10
            · have h13 : ¬ was = 13 := fun hh => hno ⟨h10, hh⟩
              have h13b : (was == 13) = false := beq_eq_false_iff_ne.2 h13
              subst h10
              rw [if_neg (by decide)] at l0
              obtain ⟨gc, ob, hcr⟩ := run_runes_len (P := Tryd.prog) 9 34 21 (s.extract 0 p) Tryd.underlying9 Tryd.underlying34 Tryd.underlying21
              have hrl : (rs (s.extract 0 p)).length = (rs (strOfNums (b.take p))).length := by rw [hs.out, extract_nums]
              rw [hrl] at hcr
              obtain ⟨kk, hkk⟩ : ∃ kk, Hid (kk = (rs (strOfNums (b.take p))).length) := ⟨_, rfl⟩
              rw [← hkk.out] at hcr l2
              have hps : p ≤ s.size := Nat.le_of_lt hp
              have HX := Lib.hid hbx2
              have HW1 := Lib.hid hw1
              clear hrl hbx2 hw1
              go_wp2_with fail
              refine wp_region_held_drew (S := fun W => W.cell? ⟨g5, nn * 6, none⟩ = some (.int .i32 10) ∧ W.cell? ⟨g5, nn * 6 + 1, none⟩ = some (.int .i64 p) ∧ W.cell? ⟨g5, nn * 6 + 2, none⟩ = some (.int .i64 kk)) (by kernel_rfl) ?_ (fun hHeld => ?_)
              · (first | go_keep | exact ⟨by assumption, by assumption, by assumption⟩)
              refine wpAnyH_take (i := 0) (oi := ({ dst := some 137, op := Op.move (Operand.tmp 9), type := 24, pos := "top04.go:164", after := #[], guard := none } : Oper)) (v := ?va0) rfl (by kernel_rfl) (by kernel_rfl) (by kernel_rfl) (fun _ _ _ h => h) (Or.inl ⟨by rfl, ?ya0⟩) (by assumption) ?ra0
              case ya0 => (intro w9 hSw; (try dsimp only at hSw); go_simp; all_goals with_reducible rfl)
              try simp only [Act.put, List.setIfInBounds_toArray, List.set_cons_zero, List.set_cons_succ]
              refine wpAnyH_take (i := 1) (oi := ({ dst := some 138, op := Op.move (Operand.tmp 17), type := 3, pos := "top04.go:164", after := #[], guard := none } : Oper)) (v := ?va1) rfl (by kernel_rfl) (by kernel_rfl) (by kernel_rfl) (fun _ _ _ h => h) (Or.inl ⟨by rfl, ?ya1⟩) (by assumption) ?ra1
              case ya1 => (intro w9 hSw; (try dsimp only at hSw); go_simp; all_goals with_reducible rfl)
              try simp only [Act.put, List.setIfInBounds_toArray, List.set_cons_zero, List.set_cons_succ]
              refine wpAnyH_take (i := 2) (oi := ({ dst := some 139, op := Op.indexAddr 24 (Operand.tmp 137) (Operand.tmp 138), type := 0, pos := "top04.go:164", after := #[{ on := 0, ground := Ground.data }, { on := 1, ground := Ground.data }], guard := none } : Oper)) (v := ?va2) rfl (by kernel_rfl) (by kernel_rfl) (by kernel_rfl) (fun _ _ _ h => h) (Or.inl ⟨by rfl, ?ya2⟩) (by assumption) ?ra2
              case ya2 => (intro w9 hSw; (try dsimp only at hSw); go_simp; all_goals with_reducible rfl)
              try simp only [Act.put, List.setIfInBounds_toArray, List.set_cons_zero, List.set_cons_succ]
              refine wpAnyH_take (i := 3) (oi := ({ dst := some 140, op := Op.fieldAddr 32 (Operand.tmp 139) 0, type := 0, pos := "top04.go:164", after := #[{ on := 2, ground := Ground.data }], guard := none } : Oper)) (v := ?va3) rfl (by kernel_rfl) (by kernel_rfl) (by kernel_rfl) (fun _ _ _ h => h) (Or.inl ⟨by rfl, ?ya3⟩) (by assumption) ?ra3
              case ya3 => (intro w9 hSw; (try dsimp only at hSw); go_simp; all_goals with_reducible rfl)
              try simp only [Act.put, List.setIfInBounds_toArray, List.set_cons_zero, List.set_cons_succ]
              refine wpAnyH_take (i := 4) (oi := ({ dst := some 141, op := Op.load 21 (Operand.tmp 140), type := 21, pos := "top04.go:164", after := #[{ on := 3, ground := Ground.data }], guard := none } : Oper)) (v := ?va4) rfl (by kernel_rfl) (by kernel_rfl) (by kernel_rfl) (fun _ _ _ h => h) (Or.inl ⟨by rfl, ?ya4⟩) (by assumption) ?ra4
              case ya4 => (intro w9 hSw; (try dsimp only at hSw); go_simp; all_goals with_reducible rfl)
              try simp only [Act.put, List.setIfInBounds_toArray, List.set_cons_zero, List.set_cons_succ]
              refine wpAnyH_take (i := 5) (oi := ({ dst := some 142, op := Op.move (Operand.tmp 21), type := 21, pos := "top04.go:164", after := #[], guard := none } : Oper)) (v := ?va5) rfl (by kernel_rfl) (by kernel_rfl) (by kernel_rfl) (fun _ _ _ h => h) (Or.inl ⟨by rfl, ?ya5⟩) (by assumption) ?ra5
              case ya5 => (intro w9 hSw; (try dsimp only at hSw); go_simp; all_goals with_reducible rfl)
              try simp only [Act.put, List.setIfInBounds_toArray, List.set_cons_zero, List.set_cons_succ]
              refine wpAnyH_take (i := 6) (oi := ({ dst := some 143, op := Op.binOp BinOp.neq 21 (Operand.tmp 141) (Operand.tmp 142) 21, type := 4, pos := "top04.go:164", after := #[{ on := 4, ground := Ground.data }, { on := 5, ground := Ground.data }], guard := none } : Oper)) (v := ?va6) rfl (by kernel_rfl) (by kernel_rfl) (by kernel_rfl) (fun _ _ _ h => h) (Or.inl ⟨by rfl, ?ya6⟩) (by assumption) ?ra6
              case ya6 => (intro w9 hSw; (try dsimp only at hSw); go_simp; all_goals with_reducible rfl)
              try simp only [Act.put, List.setIfInBounds_toArray, List.set_cons_zero, List.set_cons_succ]
              refine wpAnyH_take (i := 7) (oi := ({ dst := some 144, op := Op.move (Operand.tmp 143), type := 4, pos := "top04.go:164", after := #[{ on := 6, ground := Ground.data }], guard := none } : Oper)) (v := ?va7) rfl (by kernel_rfl) (by kernel_rfl) (by kernel_rfl) (fun _ _ _ h => h) (Or.inl ⟨by rfl, ?ya7⟩) (by assumption) ?ra7
              case ya7 => (intro w9 hSw; (try dsimp only at hSw); go_simp; all_goals with_reducible rfl)
              try simp only [Act.put, List.setIfInBounds_toArray, List.set_cons_zero, List.set_cons_succ]
              refine wpAnyH_take (i := 8) (oi := ({ dst := some 145, op := Op.move (Operand.tmp 9), type := 24, pos := "top04.go:164", after := #[{ on := 7, ground := Ground.guard }], guard := some (7, false) } : Oper)) (v := ?va8) rfl (by kernel_rfl) (by kernel_rfl) (by kernel_rfl) (fun _ _ _ h => h) (Or.inl ⟨by rfl, ?ya8⟩) (by assumption) ?ra8
              case ya8 => (intro w9 hSw; (try dsimp only at hSw); go_simp; all_goals with_reducible rfl)
              try simp only [Act.put, List.setIfInBounds_toArray, List.set_cons_zero, List.set_cons_succ]
              refine wpAnyH_take (i := 9) (oi := ({ dst := some 146, op := Op.move (Operand.tmp 17), type := 3, pos := "top04.go:164", after := #[{ on := 7, ground := Ground.guard }], guard := some (7, false) } : Oper)) (v := ?va9) rfl (by kernel_rfl) (by kernel_rfl) (by kernel_rfl) (fun _ _ _ h => h) (Or.inl ⟨by rfl, ?ya9⟩) (by assumption) ?ra9
              case ya9 => (intro w9 hSw; (try dsimp only at hSw); go_simp; all_goals with_reducible rfl)
              try simp only [Act.put, List.setIfInBounds_toArray, List.set_cons_zero, List.set_cons_succ]
              refine wpAnyH_take (i := 10) (oi := ({ dst := some 147, op := Op.indexAddr 24 (Operand.tmp 145) (Operand.tmp 146), type := 0, pos := "top04.go:164", after := #[{ on := 8, ground := Ground.data }, { on := 9, ground := Ground.data }, { on := 7, ground := Ground.guard }], guard := some (7, false) } : Oper)) (v := ?va10) rfl (by kernel_rfl) (by kernel_rfl) (by kernel_rfl) (fun _ _ _ h => h) (Or.inl ⟨by rfl, ?ya10⟩) (by assumption) ?ra10
              case ya10 => (intro w9 hSw; (try dsimp only at hSw); go_simp; all_goals with_reducible rfl)
              try simp only [Act.put, List.setIfInBounds_toArray, List.set_cons_zero, List.set_cons_succ]
              refine wpAnyH_take (i := 11) (oi := ({ dst := some 148, op := Op.fieldAddr 32 (Operand.tmp 147) 1, type := 0, pos := "top04.go:164", after := #[{ on := 10, ground := Ground.data }, { on := 7, ground := Ground.guard }], guard := some (7, false) } : Oper)) (v := ?va11) rfl (by kernel_rfl) (by kernel_rfl) (by kernel_rfl) (fun _ _ _ h => h) (Or.inl ⟨by rfl, ?ya11⟩) (by assumption) ?ra11
              case ya11 => (intro w9 hSw; (try dsimp only at hSw); go_simp; all_goals with_reducible rfl)
              try simp only [Act.put, List.setIfInBounds_toArray, List.set_cons_zero, List.set_cons_succ]
              refine wpAnyH_take (i := 12) (oi := ({ dst := some 149, op := Op.fieldAddr 27 (Operand.tmp 148) 0, type := 0, pos := "top04.go:164", after := #[{ on := 11, ground := Ground.data }, { on := 7, ground := Ground.guard }], guard := some (7, false) } : Oper)) (v := ?va12) rfl (by kernel_rfl) (by kernel_rfl) (by kernel_rfl) (fun _ _ _ h => h) (Or.inl ⟨by rfl, ?ya12⟩) (by assumption) ?ra12
              case ya12 => (intro w9 hSw; (try dsimp only at hSw); go_simp; all_goals with_reducible rfl)
              try simp only [Act.put, List.setIfInBounds_toArray, List.set_cons_zero, List.set_cons_succ]
              refine wpAnyH_take (i := 13) (oi := ({ dst := some 150, op := Op.load 3 (Operand.tmp 149), type := 3, pos := "top04.go:164", after := #[{ on := 12, ground := Ground.data }, { on := 7, ground := Ground.guard }], guard := some (7, false) } : Oper)) (v := ?va13) rfl (by kernel_rfl) (by kernel_rfl) (by kernel_rfl) (fun _ _ _ h => h) (Or.inl ⟨by rfl, ?ya13⟩) (by assumption) ?ra13
              case ya13 => (intro w9 hSw; (try dsimp only at hSw); go_simp; all_goals with_reducible rfl)
              try simp only [Act.put, List.setIfInBounds_toArray, List.set_cons_zero, List.set_cons_succ]
              refine wpAnyH_take (i := 14) (oi := ({ dst := some 151, op := Op.move (Operand.tmp 20), type := 3, pos := "top04.go:164", after := #[{ on := 7, ground := Ground.guard }], guard := some (7, false) } : Oper)) (v := ?va14) rfl (by kernel_rfl) (by kernel_rfl) (by kernel_rfl) (fun _ _ _ h => h) (Or.inl ⟨by rfl, ?ya14⟩) (by assumption) ?ra14
              case ya14 => (intro w9 hSw; (try dsimp only at hSw); go_simp; all_goals with_reducible rfl)
              try simp only [Act.put, List.setIfInBounds_toArray, List.set_cons_zero, List.set_cons_succ]
              refine wpAnyH_take (i := 15) (oi := ({ dst := some 152, op := Op.binOp BinOp.neq 3 (Operand.tmp 150) (Operand.tmp 151) 3, type := 4, pos := "top04.go:164", after := #[{ on := 13, ground := Ground.data }, { on := 14, ground := Ground.data }, { on := 7, ground := Ground.guard }], guard := some (7, false) } : Oper)) (v := ?va15) rfl (by kernel_rfl) (by kernel_rfl) (by kernel_rfl) (fun _ _ _ h => h) (Or.inl ⟨by rfl, ?ya15⟩) (by assumption) ?ra15
              case ya15 => (intro w9 hSw; (try dsimp only at hSw); go_simp; all_goals with_reducible rfl)
              try simp only [Act.put, List.setIfInBounds_toArray, List.set_cons_zero, List.set_cons_succ]
              refine wpAnyH_take (i := 16) (oi := ({ dst := some 153, op := Op.pick (Operand.tmp 144) (Operand.const (Value.bool true)) (Operand.tmp 152), type := 4, pos := "top04.go:164", after := #[{ on := 7, ground := Ground.data }, { on := 15, ground := Ground.data }], guard := none } : Oper)) (v := ?va16) rfl (by kernel_rfl) (by kernel_rfl) (by kernel_rfl) (fun _ _ _ h => h) (Or.inl ⟨by rfl, ?ya16⟩) (by assumption) ?ra16
              case ya16 => (intro w9 hSw; (try dsimp only at hSw); go_simp; all_goals with_reducible rfl)
              try simp only [Act.put, List.setIfInBounds_toArray, List.set_cons_zero, List.set_cons_succ]
              refine wpAnyH_take (i := 17) (oi := ({ dst := some 154, op := Op.move (Operand.tmp 153), type := 4, pos := "top04.go:164", after := #[{ on := 16, ground := Ground.data }, { on := 7, ground := Ground.chain }], guard := none } : Oper)) (v := ?va17) rfl (by kernel_rfl) (by kernel_rfl) (by kernel_rfl) (fun _ _ _ h => h) (Or.inl ⟨by rfl, ?ya17⟩) (by assumption) ?ra17
              case ya17 => (intro w9 hSw; (try dsimp only at hSw); go_simp; all_goals with_reducible rfl)
              try simp only [Act.put, List.setIfInBounds_toArray, List.set_cons_zero, List.set_cons_succ]
              refine wpAnyH_take (i := 18) (oi := ({ dst := some 155, op := Op.move (Operand.tmp 9), type := 24, pos := "top04.go:164", after := #[{ on := 17, ground := Ground.guard }], guard := some (17, false) } : Oper)) (v := ?va18) rfl (by kernel_rfl) (by kernel_rfl) (by kernel_rfl) (fun _ _ _ h => h) (Or.inl ⟨by rfl, ?ya18⟩) (by assumption) ?ra18
              case ya18 => (intro w9 hSw; (try dsimp only at hSw); go_simp; all_goals with_reducible rfl)
              try simp only [Act.put, List.setIfInBounds_toArray, List.set_cons_zero, List.set_cons_succ]
              refine wpAnyH_take (i := 19) (oi := ({ dst := some 156, op := Op.move (Operand.tmp 17), type := 3, pos := "top04.go:164", after := #[{ on := 17, ground := Ground.guard }], guard := some (17, false) } : Oper)) (v := ?va19) rfl (by kernel_rfl) (by kernel_rfl) (by kernel_rfl) (fun _ _ _ h => h) (Or.inl ⟨by rfl, ?ya19⟩) (by assumption) ?ra19
              case ya19 => (intro w9 hSw; (try dsimp only at hSw); go_simp; all_goals with_reducible rfl)
              try simp only [Act.put, List.setIfInBounds_toArray, List.set_cons_zero, List.set_cons_succ]
              refine wpAnyH_take (i := 20) (oi := ({ dst := some 157, op := Op.indexAddr 24 (Operand.tmp 155) (Operand.tmp 156), type := 0, pos := "top04.go:164", after := #[{ on := 18, ground := Ground.data }, { on := 19, ground := Ground.data }, { on := 17, ground := Ground.guard }], guard := some (17, false) } : Oper)) (v := ?va20) rfl (by kernel_rfl) (by kernel_rfl) (by kernel_rfl) (fun _ _ _ h => h) (Or.inl ⟨by rfl, ?ya20⟩) (by assumption) ?ra20
              case ya20 => (intro w9 hSw; (try dsimp only at hSw); go_simp; all_goals with_reducible rfl)
              try simp only [Act.put, List.setIfInBounds_toArray, List.set_cons_zero, List.set_cons_succ]
              refine wpAnyH_take (i := 21) (oi := ({ dst := some 158, op := Op.fieldAddr 32 (Operand.tmp 157) 1, type := 0, pos := "top04.go:164", after := #[{ on := 20, ground := Ground.data }, { on := 17, ground := Ground.guard }], guard := some (17, false) } : Oper)) (v := ?va21) rfl (by kernel_rfl) (by kernel_rfl) (by kernel_rfl) (fun _ _ _ h => h) (Or.inl ⟨by rfl, ?ya21⟩) (by assumption) ?ra21
              case ya21 => (intro w9 hSw; (try dsimp only at hSw); go_simp; all_goals with_reducible rfl)
              try simp only [Act.put, List.setIfInBounds_toArray, List.set_cons_zero, List.set_cons_succ]
              refine wpAnyH_take (i := 22) (oi := ({ dst := some 159, op := Op.fieldAddr 27 (Operand.tmp 158) 1, type := 0, pos := "top04.go:164", after := #[{ on := 21, ground := Ground.data }, { on := 17, ground := Ground.guard }], guard := some (17, false) } : Oper)) (v := ?va22) rfl (by kernel_rfl) (by kernel_rfl) (by kernel_rfl) (fun _ _ _ h => h) (Or.inl ⟨by rfl, ?ya22⟩) (by assumption) ?ra22
              case ya22 => (intro w9 hSw; (try dsimp only at hSw); go_simp; all_goals with_reducible rfl)
              try simp only [Act.put, List.setIfInBounds_toArray, List.set_cons_zero, List.set_cons_succ]
              refine wpAnyH_take (i := 23) (oi := ({ dst := some 160, op := Op.load 3 (Operand.tmp 159), type := 3, pos := "top04.go:164", after := #[{ on := 22, ground := Ground.data }, { on := 17, ground := Ground.guard }], guard := some (17, false) } : Oper)) (v := ?va23) rfl (by kernel_rfl) (by kernel_rfl) (by kernel_rfl) (fun _ _ _ h => h) (Or.inl ⟨by rfl, ?ya23⟩) (by assumption) ?ra23
              case ya23 => (intro w9 hSw; (try dsimp only at hSw); go_simp; all_goals with_reducible rfl)
              try simp only [Act.put, List.setIfInBounds_toArray, List.set_cons_zero, List.set_cons_succ]
              refine wpAnyH_take (i := 24) (oi := ({ dst := some 161, op := Op.move (Operand.tmp 18), type := 9, pos := "top04.go:164", after := #[{ on := 17, ground := Ground.guard }], guard := some (17, false) } : Oper)) (v := ?va24) rfl (by kernel_rfl) (by kernel_rfl) (by kernel_rfl) (fun _ _ _ h => h) (Or.inl ⟨by rfl, ?ya24⟩) (by assumption) ?ra24
              case ya24 => (intro w9 hSw; (try dsimp only at hSw); go_simp; all_goals with_reducible rfl)
              try simp only [Act.put, List.setIfInBounds_toArray, List.set_cons_zero, List.set_cons_succ]
              refine wpAnyH_take (i := 25) (oi := ({ dst := some 162, op := Op.move (Operand.tmp 20), type := 3, pos := "top04.go:164", after := #[{ on := 17, ground := Ground.guard }], guard := some (17, false) } : Oper)) (v := ?va25) rfl (by kernel_rfl) (by kernel_rfl) (by kernel_rfl) (fun _ _ _ h => h) (Or.inl ⟨by rfl, ?ya25⟩) (by assumption) ?ra25
              case ya25 => (intro w9 hSw; (try dsimp only at hSw); go_simp; all_goals with_reducible rfl)
              try simp only [Act.put, List.setIfInBounds_toArray, List.set_cons_zero, List.set_cons_succ]
              refine wpAnyH_take (i := 26) (oi := ({ dst := some 163, op := Op.slice 9 (Operand.tmp 161) none (some (Operand.tmp 162)) none, type := 9, pos := "top04.go:164", after := #[{ on := 24, ground := Ground.data }, { on := 25, ground := Ground.data }, { on := 17, ground := Ground.guard }], guard := some (17, false) } : Oper)) (v := ?va26) rfl (by kernel_rfl) (by kernel_rfl) (by kernel_rfl) (fun _ _ _ h => h) (Or.inl ⟨by rfl, ?ya26⟩) (by assumption) ?ra26
              case ya26 => (intro w9 hSw; (try dsimp only at hSw); go_simp; all_goals with_reducible rfl)
              try simp only [Act.put, List.setIfInBounds_toArray, List.set_cons_zero, List.set_cons_succ]
              refine wpAnyH_ready (rs := [27]) (by kernel_rfl) (by simp) ?_
              refine AllReadyH.cons (o := ({ dst := some 164, op := Op.convert 9 34 (Operand.tmp 163), type := 34, pos := "top04.go:164", after := #[{ on := 26, ground := Ground.data }, { on := 17, ground := Ground.guard }], guard := some (17, false) } : Oper)) rfl (fun K9 hK9 => ?_) AllReadyH.nil
              go_simp
              refine hK9.out _ _ ?_ (fun hHeld2 => ?_)
              · (first | go_keep | exact ⟨by assumption, by assumption, by assumption⟩)
              clear hK9 K9
              try simp only [Act.put, List.setIfInBounds_toArray, List.set_cons_zero, List.set_cons_succ]
              refine wpAnyH_take (i := 28) (oi := ({ dst := some 165, op := Op.call { callee := Callee.builtin Builtin.len, args := #[Operand.tmp 164], argTypes := #[34] }, type := 3, pos := "top04.go:164", after := #[{ on := 27, ground := Ground.data }, { on := 17, ground := Ground.guard }], guard := some (17, false) } : Oper)) (v := ?va28) rfl (by kernel_rfl) (by kernel_rfl) (by kernel_rfl) (fun _ _ _ h => h) (Or.inl ⟨by rfl, ?ya28⟩) (by assumption) ?ra28
              case ya28 => (intro w9 hSw; (try dsimp only at hSw); go_simp; all_goals with_reducible rfl)
              try simp only [Act.put, List.setIfInBounds_toArray, List.set_cons_zero, List.set_cons_succ]
              refine wpAnyH_take (i := 29) (oi := ({ dst := some 166, op := Op.binOp BinOp.neq 3 (Operand.tmp 160) (Operand.tmp 165) 3, type := 4, pos := "top04.go:164", after := #[{ on := 23, ground := Ground.data }, { on := 28, ground := Ground.data }, { on := 17, ground := Ground.guard }], guard := some (17, false) } : Oper)) (v := ?va29) rfl (by kernel_rfl) (by kernel_rfl) (by kernel_rfl) (fun _ _ _ h => h) (Or.inl ⟨by rfl, ?ya29⟩) (by assumption) ?ra29
              case ya29 => (intro w9 hSw; (try dsimp only at hSw); go_simp; all_goals with_reducible rfl)
              try simp only [Act.put, List.setIfInBounds_toArray, List.set_cons_zero, List.set_cons_succ]
              refine wpAnyH_take (i := 30) (oi := ({ dst := some 167, op := Op.pick (Operand.tmp 154) (Operand.const (Value.bool true)) (Operand.tmp 166), type := 4, pos := "top04.go:164", after := #[{ on := 17, ground := Ground.data }, { on := 29, ground := Ground.data }], guard := none } : Oper)) (v := ?va30) rfl (by kernel_rfl) (by kernel_rfl) (by kernel_rfl) (fun _ _ _ h => h) (Or.inl ⟨by rfl, ?ya30⟩) (by assumption) ?ra30
              case ya30 => (intro w9 hSw; (try dsimp only at hSw); go_simp; all_goals with_reducible rfl)
              try simp only [Act.put, List.setIfInBounds_toArray, List.set_cons_zero, List.set_cons_succ]
              refine wpAnyH_done (by kernel_rfl) ?_ _
              have bX : Below W1.heap.size W1 (W1.alloc (ob W1.drew)).drew.drew := (((Below.refl _ _).alloc (Nat.le_refl _) _).trans (((Drew.refl _).drewN 1).below _)).trans (((Drew.refl _).drewN 1).below _)
              generalize (W1.alloc (ob W1.drew)).drew.drew = W2 at bX ⊢
              have hKl : K < W1.heap.size := (Array.getElem?_eq_some_iff.1 HW1.out.it).1
              have it2 := (bX.block K hKl).trans HW1.out.it
              have bx3 := HX.out.trans (bX.mono (Nat.le_of_lt hKl))
              clear bX hcr
              go_wp2_with fail
              go_roundw
              case rel => exact ⟨_, nn + 1, 10, by go_num, rfl, it2, bx3, hnl2, HS⟩
              case measure =>
                have h1 := iterPos_of it2
                have := HWD.out
                rw [hpos0, h1]
                omega
            · have h10b : (r == 10) = false := beq_eq_false_iff_ne.2 h10
              by_cases h13 : r = 13
              · subst h13
                rw [if_pos rfl] at l0
                obtain ⟨gc, ob, hcr⟩ := run_runes_len (P := Tryd.prog) 9 34 21 (s.extract 0 p) Tryd.underlying9 Tryd.underlying34 Tryd.underlying21
                have hrl : (rs (s.extract 0 p)).length = (rs (strOfNums (b.take p))).length := by rw [hs.out, extract_nums]
                rw [hrl] at hcr
                obtain ⟨kk, hkk⟩ : ∃ kk, Hid (kk = (rs (strOfNums (b.take p))).length) := ⟨_, rfl⟩
                rw [← hkk.out] at hcr l2
                have hps : p ≤ s.size := Nat.le_of_lt hp
                have HX := Lib.hid hbx2
                have HW1 := Lib.hid hw1
                clear hrl hbx2 hw1
                go_wp2_with fail
                refine wp_region_held_drew (S := fun W => W.cell? ⟨g5, nn * 6, none⟩ = some (.int .i32 10) ∧ W.cell? ⟨g5, nn * 6 + 1, none⟩ = some (.int .i64 p) ∧ W.cell? ⟨g5, nn * 6 + 2, none⟩ = some (.int .i64 kk)) (by kernel_rfl) ?_ (fun hHeld => ?_)
                · (first | go_keep | exact ⟨by assumption, by assumption, by assumption⟩)
                refine wpAnyH_take (i := 0) (oi := ({ dst := some 137, op := Op.move (Operand.tmp 9), type := 24, pos := "top04.go:164", after := #[], guard := none } : Oper)) (v := ?vb0) rfl (by kernel_rfl) (by kernel_rfl) (by kernel_rfl) (fun _ _ _ h => h) (Or.inl ⟨by rfl, ?yb0⟩) (by assumption) ?rb0
                case yb0 => (intro w9 hSw; (try dsimp only at hSw); go_simp; all_goals with_reducible rfl)
                try simp only [Act.put, List.setIfInBounds_toArray, List.set_cons_zero, List.set_cons_succ]
                refine wpAnyH_take (i := 1) (oi := ({ dst := some 138, op := Op.move (Operand.tmp 17), type := 3, pos := "top04.go:164", after := #[], guard := none } : Oper)) (v := ?vb1) rfl (by kernel_rfl) (by kernel_rfl) (by kernel_rfl) (fun _ _ _ h => h) (Or.inl ⟨by rfl, ?yb1⟩) (by assumption) ?rb1
                case yb1 => (intro w9 hSw; (try dsimp only at hSw); go_simp; all_goals with_reducible rfl)
                try simp only [Act.put, List.setIfInBounds_toArray, List.set_cons_zero, List.set_cons_succ]
                refine wpAnyH_take (i := 2) (oi := ({ dst := some 139, op := Op.indexAddr 24 (Operand.tmp 137) (Operand.tmp 138), type := 0, pos := "top04.go:164", after := #[{ on := 0, ground := Ground.data }, { on := 1, ground := Ground.data }], guard := none } : Oper)) (v := ?vb2) rfl (by kernel_rfl) (by kernel_rfl) (by kernel_rfl) (fun _ _ _ h => h) (Or.inl ⟨by rfl, ?yb2⟩) (by assumption) ?rb2
                case yb2 => (intro w9 hSw; (try dsimp only at hSw); go_simp; all_goals with_reducible rfl)
                try simp only [Act.put, List.setIfInBounds_toArray, List.set_cons_zero, List.set_cons_succ]
                refine wpAnyH_take (i := 3) (oi := ({ dst := some 140, op := Op.fieldAddr 32 (Operand.tmp 139) 0, type := 0, pos := "top04.go:164", after := #[{ on := 2, ground := Ground.data }], guard := none } : Oper)) (v := ?vb3) rfl (by kernel_rfl) (by kernel_rfl) (by kernel_rfl) (fun _ _ _ h => h) (Or.inl ⟨by rfl, ?yb3⟩) (by assumption) ?rb3
                case yb3 => (intro w9 hSw; (try dsimp only at hSw); go_simp; all_goals with_reducible rfl)
                try simp only [Act.put, List.setIfInBounds_toArray, List.set_cons_zero, List.set_cons_succ]
                refine wpAnyH_take (i := 4) (oi := ({ dst := some 141, op := Op.load 21 (Operand.tmp 140), type := 21, pos := "top04.go:164", after := #[{ on := 3, ground := Ground.data }], guard := none } : Oper)) (v := ?vb4) rfl (by kernel_rfl) (by kernel_rfl) (by kernel_rfl) (fun _ _ _ h => h) (Or.inl ⟨by rfl, ?yb4⟩) (by assumption) ?rb4
                case yb4 => (intro w9 hSw; (try dsimp only at hSw); go_simp; all_goals with_reducible rfl)
                try simp only [Act.put, List.setIfInBounds_toArray, List.set_cons_zero, List.set_cons_succ]
                refine wpAnyH_take (i := 5) (oi := ({ dst := some 142, op := Op.move (Operand.tmp 21), type := 21, pos := "top04.go:164", after := #[], guard := none } : Oper)) (v := ?vb5) rfl (by kernel_rfl) (by kernel_rfl) (by kernel_rfl) (fun _ _ _ h => h) (Or.inl ⟨by rfl, ?yb5⟩) (by assumption) ?rb5
                case yb5 => (intro w9 hSw; (try dsimp only at hSw); go_simp; all_goals with_reducible rfl)
                try simp only [Act.put, List.setIfInBounds_toArray, List.set_cons_zero, List.set_cons_succ]
                refine wpAnyH_take (i := 6) (oi := ({ dst := some 143, op := Op.binOp BinOp.neq 21 (Operand.tmp 141) (Operand.tmp 142) 21, type := 4, pos := "top04.go:164", after := #[{ on := 4, ground := Ground.data }, { on := 5, ground := Ground.data }], guard := none } : Oper)) (v := ?vb6) rfl (by kernel_rfl) (by kernel_rfl) (by kernel_rfl) (fun _ _ _ h => h) (Or.inl ⟨by rfl, ?yb6⟩) (by assumption) ?rb6
                case yb6 => (intro w9 hSw; (try dsimp only at hSw); go_simp; all_goals with_reducible rfl)
                try simp only [Act.put, List.setIfInBounds_toArray, List.set_cons_zero, List.set_cons_succ]
                refine wpAnyH_take (i := 7) (oi := ({ dst := some 144, op := Op.move (Operand.tmp 143), type := 4, pos := "top04.go:164", after := #[{ on := 6, ground := Ground.data }], guard := none } : Oper)) (v := ?vb7) rfl (by kernel_rfl) (by kernel_rfl) (by kernel_rfl) (fun _ _ _ h => h) (Or.inl ⟨by rfl, ?yb7⟩) (by assumption) ?rb7
                case yb7 => (intro w9 hSw; (try dsimp only at hSw); go_simp; all_goals with_reducible rfl)
                try simp only [Act.put, List.setIfInBounds_toArray, List.set_cons_zero, List.set_cons_succ]
                refine wpAnyH_take (i := 8) (oi := ({ dst := some 145, op := Op.move (Operand.tmp 9), type := 24, pos := "top04.go:164", after := #[{ on := 7, ground := Ground.guard }], guard := some (7, false) } : Oper)) (v := ?vb8) rfl (by kernel_rfl) (by kernel_rfl) (by kernel_rfl) (fun _ _ _ h => h) (Or.inl ⟨by rfl, ?yb8⟩) (by assumption) ?rb8
                case yb8 => (intro w9 hSw; (try dsimp only at hSw); go_simp; all_goals with_reducible rfl)
                try simp only [Act.put, List.setIfInBounds_toArray, List.set_cons_zero, List.set_cons_succ]
                refine wpAnyH_take (i := 9) (oi := ({ dst := some 146, op := Op.move (Operand.tmp 17), type := 3, pos := "top04.go:164", after := #[{ on := 7, ground := Ground.guard }], guard := some (7, false) } : Oper)) (v := ?vb9) rfl (by kernel_rfl) (by kernel_rfl) (by kernel_rfl) (fun _ _ _ h => h) (Or.inl ⟨by rfl, ?yb9⟩) (by assumption) ?rb9
                case yb9 => (intro w9 hSw; (try dsimp only at hSw); go_simp; all_goals with_reducible rfl)
                try simp only [Act.put, List.setIfInBounds_toArray, List.set_cons_zero, List.set_cons_succ]
                refine wpAnyH_take (i := 10) (oi := ({ dst := some 147, op := Op.indexAddr 24 (Operand.tmp 145) (Operand.tmp 146), type := 0, pos := "top04.go:164", after := #[{ on := 8, ground := Ground.data }, { on := 9, ground := Ground.data }, { on := 7, ground := Ground.guard }], guard := some (7, false) } : Oper)) (v := ?vb10) rfl (by kernel_rfl) (by kernel_rfl) (by kernel_rfl) (fun _ _ _ h => h) (Or.inl ⟨by rfl, ?yb10⟩) (by assumption) ?rb10
                case yb10 => (intro w9 hSw; (try dsimp only at hSw); go_simp; all_goals with_reducible rfl)
                try simp only [Act.put, List.setIfInBounds_toArray, List.set_cons_zero, List.set_cons_succ]
                refine wpAnyH_take (i := 11) (oi := ({ dst := some 148, op := Op.fieldAddr 32 (Operand.tmp 147) 1, type := 0, pos := "top04.go:164", after := #[{ on := 10, ground := Ground.data }, { on := 7, ground := Ground.guard }], guard := some (7, false) } : Oper)) (v := ?vb11) rfl (by kernel_rfl) (by kernel_rfl) (by kernel_rfl) (fun _ _ _ h => h) (Or.inl ⟨by rfl, ?yb11⟩) (by assumption) ?rb11
                case yb11 => (intro w9 hSw; (try dsimp only at hSw); go_simp; all_goals with_reducible rfl)
                try simp only [Act.put, List.setIfInBounds_toArray, List.set_cons_zero, List.set_cons_succ]
                refine wpAnyH_take (i := 12) (oi := ({ dst := some 149, op := Op.fieldAddr 27 (Operand.tmp 148) 0, type := 0, pos := "top04.go:164", after := #[{ on := 11, ground := Ground.data }, { on := 7, ground := Ground.guard }], guard := some (7, false) } : Oper)) (v := ?vb12) rfl (by kernel_rfl) (by kernel_rfl) (by kernel_rfl) (fun _ _ _ h => h) (Or.inl ⟨by rfl, ?yb12⟩) (by assumption) ?rb12
                case yb12 => (intro w9 hSw; (try dsimp only at hSw); go_simp; all_goals with_reducible rfl)
                try simp only [Act.put, List.setIfInBounds_toArray, List.set_cons_zero, List.set_cons_succ]
                refine wpAnyH_take (i := 13) (oi := ({ dst := some 150, op := Op.load 3 (Operand.tmp 149), type := 3, pos := "top04.go:164", after := #[{ on := 12, ground := Ground.data }, { on := 7, ground := Ground.guard }], guard := some (7, false) } : Oper)) (v := ?vb13) rfl (by kernel_rfl) (by kernel_rfl) (by kernel_rfl) (fun _ _ _ h => h) (Or.inl ⟨by rfl, ?yb13⟩) (by assumption) ?rb13
                case yb13 => (intro w9 hSw; (try dsimp only at hSw); go_simp; all_goals with_reducible rfl)
                try simp only [Act.put, List.setIfInBounds_toArray, List.set_cons_zero, List.set_cons_succ]
                refine wpAnyH_take (i := 14) (oi := ({ dst := some 151, op := Op.move (Operand.tmp 20), type := 3, pos := "top04.go:164", after := #[{ on := 7, ground := Ground.guard }], guard := some (7, false) } : Oper)) (v := ?vb14) rfl (by kernel_rfl) (by kernel_rfl) (by kernel_rfl) (fun _ _ _ h => h) (Or.inl ⟨by rfl, ?yb14⟩) (by assumption) ?rb14
                case yb14 => (intro w9 hSw; (try dsimp only at hSw); go_simp; all_goals with_reducible rfl)
                try simp only [Act.put, List.setIfInBounds_toArray, List.set_cons_zero, List.set_cons_succ]
                refine wpAnyH_take (i := 15) (oi := ({ dst := some 152, op := Op.binOp BinOp.neq 3 (Operand.tmp 150) (Operand.tmp 151) 3, type := 4, pos := "top04.go:164", after := #[{ on := 13, ground := Ground.data }, { on := 14, ground := Ground.data }, { on := 7, ground := Ground.guard }], guard := some (7, false) } : Oper)) (v := ?vb15) rfl (by kernel_rfl) (by kernel_rfl) (by kernel_rfl) (fun _ _ _ h => h) (Or.inl ⟨by rfl, ?yb15⟩) (by assumption) ?rb15
                case yb15 => (intro w9 hSw; (try dsimp only at hSw); go_simp; all_goals with_reducible rfl)
                try simp only [Act.put, List.setIfInBounds_toArray, List.set_cons_zero, List.set_cons_succ]
                refine wpAnyH_take (i := 16) (oi := ({ dst := some 153, op := Op.pick (Operand.tmp 144) (Operand.const (Value.bool true)) (Operand.tmp 152), type := 4, pos := "top04.go:164", after := #[{ on := 7, ground := Ground.data }, { on := 15, ground := Ground.data }], guard := none } : Oper)) (v := ?vb16) rfl (by kernel_rfl) (by kernel_rfl) (by kernel_rfl) (fun _ _ _ h => h) (Or.inl ⟨by rfl, ?yb16⟩) (by assumption) ?rb16
                case yb16 => (intro w9 hSw; (try dsimp only at hSw); go_simp; all_goals with_reducible rfl)
                try simp only [Act.put, List.setIfInBounds_toArray, List.set_cons_zero, List.set_cons_succ]
                refine wpAnyH_take (i := 17) (oi := ({ dst := some 154, op := Op.move (Operand.tmp 153), type := 4, pos := "top04.go:164", after := #[{ on := 16, ground := Ground.data }, { on := 7, ground := Ground.chain }], guard := none } : Oper)) (v := ?vb17) rfl (by kernel_rfl) (by kernel_rfl) (by kernel_rfl) (fun _ _ _ h => h) (Or.inl ⟨by rfl, ?yb17⟩) (by assumption) ?rb17
                case yb17 => (intro w9 hSw; (try dsimp only at hSw); go_simp; all_goals with_reducible rfl)
                try simp only [Act.put, List.setIfInBounds_toArray, List.set_cons_zero, List.set_cons_succ]
                refine wpAnyH_take (i := 18) (oi := ({ dst := some 155, op := Op.move (Operand.tmp 9), type := 24, pos := "top04.go:164", after := #[{ on := 17, ground := Ground.guard }], guard := some (17, false) } : Oper)) (v := ?vb18) rfl (by kernel_rfl) (by kernel_rfl) (by kernel_rfl) (fun _ _ _ h => h) (Or.inl ⟨by rfl, ?yb18⟩) (by assumption) ?rb18
                case yb18 => (intro w9 hSw; (try dsimp only at hSw); go_simp; all_goals with_reducible rfl)
                try simp only [Act.put, List.setIfInBounds_toArray, List.set_cons_zero, List.set_cons_succ]
                refine wpAnyH_take (i := 19) (oi := ({ dst := some 156, op := Op.move (Operand.tmp 17), type := 3, pos := "top04.go:164", after := #[{ on := 17, ground := Ground.guard }], guard := some (17, false) } : Oper)) (v := ?vb19) rfl (by kernel_rfl) (by kernel_rfl) (by kernel_rfl) (fun _ _ _ h => h) (Or.inl ⟨by rfl, ?yb19⟩) (by assumption) ?rb19
                case yb19 => (intro w9 hSw; (try dsimp only at hSw); go_simp; all_goals with_reducible rfl)
                try simp only [Act.put, List.setIfInBounds_toArray, List.set_cons_zero, List.set_cons_succ]
                refine wpAnyH_take (i := 20) (oi := ({ dst := some 157, op := Op.indexAddr 24 (Operand.tmp 155) (Operand.tmp 156), type := 0, pos := "top04.go:164", after := #[{ on := 18, ground := Ground.data }, { on := 19, ground := Ground.data }, { on := 17, ground := Ground.guard }], guard := some (17, false) } : Oper)) (v := ?vb20) rfl (by kernel_rfl) (by kernel_rfl) (by kernel_rfl) (fun _ _ _ h => h) (Or.inl ⟨by rfl, ?yb20⟩) (by assumption) ?rb20
                case yb20 => (intro w9 hSw; (try dsimp only at hSw); go_simp; all_goals with_reducible rfl)
                try simp only [Act.put, List.setIfInBounds_toArray, List.set_cons_zero, List.set_cons_succ]
                refine wpAnyH_take (i := 21) (oi := ({ dst := some 158, op := Op.fieldAddr 32 (Operand.tmp 157) 1, type := 0, pos := "top04.go:164", after := #[{ on := 20, ground := Ground.data }, { on := 17, ground := Ground.guard }], guard := some (17, false) } : Oper)) (v := ?vb21) rfl (by kernel_rfl) (by kernel_rfl) (by kernel_rfl) (fun _ _ _ h => h) (Or.inl ⟨by rfl, ?yb21⟩) (by assumption) ?rb21
                case yb21 => (intro w9 hSw; (try dsimp only at hSw); go_simp; all_goals with_reducible rfl)
                try simp only [Act.put, List.setIfInBounds_toArray, List.set_cons_zero, List.set_cons_succ]
                refine wpAnyH_take (i := 22) (oi := ({ dst := some 159, op := Op.fieldAddr 27 (Operand.tmp 158) 1, type := 0, pos := "top04.go:164", after := #[{ on := 21, ground := Ground.data }, { on := 17, ground := Ground.guard }], guard := some (17, false) } : Oper)) (v := ?vb22) rfl (by kernel_rfl) (by kernel_rfl) (by kernel_rfl) (fun _ _ _ h => h) (Or.inl ⟨by rfl, ?yb22⟩) (by assumption) ?rb22
                case yb22 => (intro w9 hSw; (try dsimp only at hSw); go_simp; all_goals with_reducible rfl)
                try simp only [Act.put, List.setIfInBounds_toArray, List.set_cons_zero, List.set_cons_succ]
                refine wpAnyH_take (i := 23) (oi := ({ dst := some 160, op := Op.load 3 (Operand.tmp 159), type := 3, pos := "top04.go:164", after := #[{ on := 22, ground := Ground.data }, { on := 17, ground := Ground.guard }], guard := some (17, false) } : Oper)) (v := ?vb23) rfl (by kernel_rfl) (by kernel_rfl) (by kernel_rfl) (fun _ _ _ h => h) (Or.inl ⟨by rfl, ?yb23⟩) (by assumption) ?rb23
                case yb23 => (intro w9 hSw; (try dsimp only at hSw); go_simp; all_goals with_reducible rfl)
                try simp only [Act.put, List.setIfInBounds_toArray, List.set_cons_zero, List.set_cons_succ]
                refine wpAnyH_take (i := 24) (oi := ({ dst := some 161, op := Op.move (Operand.tmp 18), type := 9, pos := "top04.go:164", after := #[{ on := 17, ground := Ground.guard }], guard := some (17, false) } : Oper)) (v := ?vb24) rfl (by kernel_rfl) (by kernel_rfl) (by kernel_rfl) (fun _ _ _ h => h) (Or.inl ⟨by rfl, ?yb24⟩) (by assumption) ?rb24
                case yb24 => (intro w9 hSw; (try dsimp only at hSw); go_simp; all_goals with_reducible rfl)
                try simp only [Act.put, List.setIfInBounds_toArray, List.set_cons_zero, List.set_cons_succ]
                refine wpAnyH_take (i := 25) (oi := ({ dst := some 162, op := Op.move (Operand.tmp 20), type := 3, pos := "top04.go:164", after := #[{ on := 17, ground := Ground.guard }], guard := some (17, false) } : Oper)) (v := ?vb25) rfl (by kernel_rfl) (by kernel_rfl) (by kernel_rfl) (fun _ _ _ h => h) (Or.inl ⟨by rfl, ?yb25⟩) (by assumption) ?rb25
                case yb25 => (intro w9 hSw; (try dsimp only at hSw); go_simp; all_goals with_reducible rfl)
                try simp only [Act.put, List.setIfInBounds_toArray, List.set_cons_zero, List.set_cons_succ]
                refine wpAnyH_take (i := 26) (oi := ({ dst := some 163, op := Op.slice 9 (Operand.tmp 161) none (some (Operand.tmp 162)) none, type := 9, pos := "top04.go:164", after := #[{ on := 24, ground := Ground.data }, { on := 25, ground := Ground.data }, { on := 17, ground := Ground.guard }], guard := some (17, false) } : Oper)) (v := ?vb26) rfl (by kernel_rfl) (by kernel_rfl) (by kernel_rfl) (fun _ _ _ h => h) (Or.inl ⟨by rfl, ?yb26⟩) (by assumption) ?rb26
                case yb26 => (intro w9 hSw; (try dsimp only at hSw); go_simp; all_goals with_reducible rfl)
                try simp only [Act.put, List.setIfInBounds_toArray, List.set_cons_zero, List.set_cons_succ]
                refine wpAnyH_ready (rs := [27]) (by kernel_rfl) (by simp) ?_
                refine AllReadyH.cons (o := ({ dst := some 164, op := Op.convert 9 34 (Operand.tmp 163), type := 34, pos := "top04.go:164", after := #[{ on := 26, ground := Ground.data }, { on := 17, ground := Ground.guard }], guard := some (17, false) } : Oper)) rfl (fun K9 hK9 => ?_) AllReadyH.nil
                go_simp
                refine hK9.out _ _ ?_ (fun hHeld2 => ?_)
                · (first | go_keep | exact ⟨by assumption, by assumption, by assumption⟩)
                clear hK9 K9
                try simp only [Act.put, List.setIfInBounds_toArray, List.set_cons_zero, List.set_cons_succ]
                refine wpAnyH_take (i := 28) (oi := ({ dst := some 165, op := Op.call { callee := Callee.builtin Builtin.len, args := #[Operand.tmp 164], argTypes := #[34] }, type := 3, pos := "top04.go:164", after := #[{ on := 27, ground := Ground.data }, { on := 17, ground := Ground.guard }], guard := some (17, false) } : Oper)) (v := ?vb28) rfl (by kernel_rfl) (by kernel_rfl) (by kernel_rfl) (fun _ _ _ h => h) (Or.inl ⟨by rfl, ?yb28⟩) (by assumption) ?rb28
                case yb28 => (intro w9 hSw; (try dsimp only at hSw); go_simp; all_goals with_reducible rfl)
                try simp only [Act.put, List.setIfInBounds_toArray, List.set_cons_zero, List.set_cons_succ]
                refine wpAnyH_take (i := 29) (oi := ({ dst := some 166, op := Op.binOp BinOp.neq 3 (Operand.tmp 160) (Operand.tmp 165) 3, type := 4, pos := "top04.go:164", after := #[{ on := 23, ground := Ground.data }, { on := 28, ground := Ground.data }, { on := 17, ground := Ground.guard }], guard := some (17, false) } : Oper)) (v := ?vb29) rfl (by kernel_rfl) (by kernel_rfl) (by kernel_rfl) (fun _ _ _ h => h) (Or.inl ⟨by rfl, ?yb29⟩) (by assumption) ?rb29
                case yb29 => (intro w9 hSw; (try dsimp only at hSw); go_simp; all_goals with_reducible rfl)
                try simp only [Act.put, List.setIfInBounds_toArray, List.set_cons_zero, List.set_cons_succ]
                refine wpAnyH_take (i := 30) (oi := ({ dst := some 167, op := Op.pick (Operand.tmp 154) (Operand.const (Value.bool true)) (Operand.tmp 166), type := 4, pos := "top04.go:164", after := #[{ on := 17, ground := Ground.data }, { on := 29, ground := Ground.data }], guard := none } : Oper)) (v := ?vb30) rfl (by kernel_rfl) (by kernel_rfl) (by kernel_rfl) (fun _ _ _ h => h) (Or.inl ⟨by rfl, ?yb30⟩) (by assumption) ?rb30
                case yb30 => (intro w9 hSw; (try dsimp only at hSw); go_simp; all_goals with_reducible rfl)
                try simp only [Act.put, List.setIfInBounds_toArray, List.set_cons_zero, List.set_cons_succ]
                refine wpAnyH_done (by kernel_rfl) ?_ _
                have bX : Below W1.heap.size W1 (W1.alloc (ob W1.drew)).drew.drew := (((Below.refl _ _).alloc (Nat.le_refl _) _).trans (((Drew.refl _).drewN 1).below _)).trans (((Drew.refl _).drewN 1).below _)
                generalize (W1.alloc (ob W1.drew)).drew.drew = W2 at bX ⊢
                have hKl : K < W1.heap.size := (Array.getElem?_eq_some_iff.1 HW1.out.it).1
                have it2 := (bX.block K hKl).trans HW1.out.it
                have bx3 := HX.out.trans (bX.mono (Nat.le_of_lt hKl))
                clear bX hcr
                go_wp2_with fail
                go_roundw
                case rel => exact ⟨_, nn + 1, 13, by go_num, rfl, it2, bx3, hnl2, HS⟩
                case measure =>
                  have h1 := iterPos_of it2
                  have := HWD.out
                  rw [hpos0, h1]
                  omega
              · have h13b : (r == 13) = false := beq_eq_false_iff_ne.2 h13
                rw [if_neg h13] at l0
                obtain ⟨gc, ob, hcr⟩ := run_runes_len (P := Tryd.prog) 9 34 21 (s.extract 0 p) Tryd.underlying9 Tryd.underlying34 Tryd.underlying21
                have hrl : (rs (s.extract 0 p)).length = (rs (strOfNums (b.take p))).length := by rw [hs.out, extract_nums]
                rw [hrl] at hcr
                obtain ⟨kk, hkk⟩ : ∃ kk, Hid (kk = (rs (strOfNums (b.take p))).length) := ⟨_, rfl⟩
                rw [← hkk.out] at hcr l2
                have hps : p ≤ s.size := Nat.le_of_lt hp
                have HX := Lib.hid hbx2
                have HW1 := Lib.hid hw1
                clear hrl hbx2 hw1
                go_wp2_with fail
                refine wp_region_held_drew (S := fun W => W.cell? ⟨g5, nn * 6, none⟩ = some (.int .i32 r) ∧ W.cell? ⟨g5, nn * 6 + 1, none⟩ = some (.int .i64 p) ∧ W.cell? ⟨g5, nn * 6 + 2, none⟩ = some (.int .i64 kk)) (by kernel_rfl) ?_ (fun hHeld => ?_)
                · (first | go_keep | exact ⟨by assumption, by assumption, by assumption⟩)
                refine wpAnyH_take (i := 0) (oi := ({ dst := some 137, op := Op.move (Operand.tmp 9), type := 24, pos := "top04.go:164", after := #[], guard := none } : Oper)) (v := ?vc0) rfl (by kernel_rfl) (by kernel_rfl) (by kernel_rfl) (fun _ _ _ h => h) (Or.inl ⟨by rfl, ?yc0⟩) (by assumption) ?rc0
                case yc0 => (intro w9 hSw; (try dsimp only at hSw); go_simp; all_goals with_reducible rfl)
                try simp only [Act.put, List.setIfInBounds_toArray, List.set_cons_zero, List.set_cons_succ]
                refine wpAnyH_take (i := 1) (oi := ({ dst := some 138, op := Op.move (Operand.tmp 17), type := 3, pos := "top04.go:164", after := #[], guard := none } : Oper)) (v := ?vc1) rfl (by kernel_rfl) (by kernel_rfl) (by kernel_rfl) (fun _ _ _ h => h) (Or.inl ⟨by rfl, ?yc1⟩) (by assumption) ?rc1
                case yc1 => (intro w9 hSw; (try dsimp only at hSw); go_simp; all_goals with_reducible rfl)
                try simp only [Act.put, List.setIfInBounds_toArray, List.set_cons_zero, List.set_cons_succ]
                refine wpAnyH_take (i := 2) (oi := ({ dst := some 139, op := Op.indexAddr 24 (Operand.tmp 137) (Operand.tmp 138), type := 0, pos := "top04.go:164", after := #[{ on := 0, ground := Ground.data }, { on := 1, ground := Ground.data }], guard := none } : Oper)) (v := ?vc2) rfl (by kernel_rfl) (by kernel_rfl) (by kernel_rfl) (fun _ _ _ h => h) (Or.inl ⟨by rfl, ?yc2⟩) (by assumption) ?rc2
                case yc2 => (intro w9 hSw; (try dsimp only at hSw); go_simp; all_goals with_reducible rfl)
                try simp only [Act.put, List.setIfInBounds_toArray, List.set_cons_zero, List.set_cons_succ]
                refine wpAnyH_take (i := 3) (oi := ({ dst := some 140, op := Op.fieldAddr 32 (Operand.tmp 139) 0, type := 0, pos := "top04.go:164", after := #[{ on := 2, ground := Ground.data }], guard := none } : Oper)) (v := ?vc3) rfl (by kernel_rfl) (by kernel_rfl) (by kernel_rfl) (fun _ _ _ h => h) (Or.inl ⟨by rfl, ?yc3⟩) (by assumption) ?rc3
                case yc3 => (intro w9 hSw; (try dsimp only at hSw); go_simp; all_goals with_reducible rfl)
                try simp only [Act.put, List.setIfInBounds_toArray, List.set_cons_zero, List.set_cons_succ]
                refine wpAnyH_take (i := 4) (oi := ({ dst := some 141, op := Op.load 21 (Operand.tmp 140), type := 21, pos := "top04.go:164", after := #[{ on := 3, ground := Ground.data }], guard := none } : Oper)) (v := ?vc4) rfl (by kernel_rfl) (by kernel_rfl) (by kernel_rfl) (fun _ _ _ h => h) (Or.inl ⟨by rfl, ?yc4⟩) (by assumption) ?rc4
                case yc4 => (intro w9 hSw; (try dsimp only at hSw); go_simp; all_goals with_reducible rfl)
                try simp only [Act.put, List.setIfInBounds_toArray, List.set_cons_zero, List.set_cons_succ]
                refine wpAnyH_take (i := 5) (oi := ({ dst := some 142, op := Op.move (Operand.tmp 21), type := 21, pos := "top04.go:164", after := #[], guard := none } : Oper)) (v := ?vc5) rfl (by kernel_rfl) (by kernel_rfl) (by kernel_rfl) (fun _ _ _ h => h) (Or.inl ⟨by rfl, ?yc5⟩) (by assumption) ?rc5
                case yc5 => (intro w9 hSw; (try dsimp only at hSw); go_simp; all_goals with_reducible rfl)
                try simp only [Act.put, List.setIfInBounds_toArray, List.set_cons_zero, List.set_cons_succ]
                refine wpAnyH_take (i := 6) (oi := ({ dst := some 143, op := Op.binOp BinOp.neq 21 (Operand.tmp 141) (Operand.tmp 142) 21, type := 4, pos := "top04.go:164", after := #[{ on := 4, ground := Ground.data }, { on := 5, ground := Ground.data }], guard := none } : Oper)) (v := ?vc6) rfl (by kernel_rfl) (by kernel_rfl) (by kernel_rfl) (fun _ _ _ h => h) (Or.inl ⟨by rfl, ?yc6⟩) (by assumption) ?rc6
                case yc6 => (intro w9 hSw; (try dsimp only at hSw); go_simp; all_goals with_reducible rfl)
                try simp only [Act.put, List.setIfInBounds_toArray, List.set_cons_zero, List.set_cons_succ]
                refine wpAnyH_take (i := 7) (oi := ({ dst := some 144, op := Op.move (Operand.tmp 143), type := 4, pos := "top04.go:164", after := #[{ on := 6, ground := Ground.data }], guard := none } : Oper)) (v := ?vc7) rfl (by kernel_rfl) (by kernel_rfl) (by kernel_rfl) (fun _ _ _ h => h) (Or.inl ⟨by rfl, ?yc7⟩) (by assumption) ?rc7
                case yc7 => (intro w9 hSw; (try dsimp only at hSw); go_simp; all_goals with_reducible rfl)
                try simp only [Act.put, List.setIfInBounds_toArray, List.set_cons_zero, List.set_cons_succ]
                refine wpAnyH_take (i := 8) (oi := ({ dst := some 145, op := Op.move (Operand.tmp 9), type := 24, pos := "top04.go:164", after := #[{ on := 7, ground := Ground.guard }], guard := some (7, false) } : Oper)) (v := ?vc8) rfl (by kernel_rfl) (by kernel_rfl) (by kernel_rfl) (fun _ _ _ h => h) (Or.inl ⟨by rfl, ?yc8⟩) (by assumption) ?rc8
                case yc8 => (intro w9 hSw; (try dsimp only at hSw); go_simp; all_goals with_reducible rfl)
                try simp only [Act.put, List.setIfInBounds_toArray, List.set_cons_zero, List.set_cons_succ]
                refine wpAnyH_take (i := 9) (oi := ({ dst := some 146, op := Op.move (Operand.tmp 17), type := 3, pos := "top04.go:164", after := #[{ on := 7, ground := Ground.guard }], guard := some (7, false) } : Oper)) (v := ?vc9) rfl (by kernel_rfl) (by kernel_rfl) (by kernel_rfl) (fun _ _ _ h => h) (Or.inl ⟨by rfl, ?yc9⟩) (by assumption) ?rc9
                case yc9 => (intro w9 hSw; (try dsimp only at hSw); go_simp; all_goals with_reducible rfl)
                try simp only [Act.put, List.setIfInBounds_toArray, List.set_cons_zero, List.set_cons_succ]
                refine wpAnyH_take (i := 10) (oi := ({ dst := some 147, op := Op.indexAddr 24 (Operand.tmp 145) (Operand.tmp 146), type := 0, pos := "top04.go:164", after := #[{ on := 8, ground := Ground.data }, { on := 9, ground := Ground.data }, { on := 7, ground := Ground.guard }], guard := some (7, false) } : Oper)) (v := ?vc10) rfl (by kernel_rfl) (by kernel_rfl) (by kernel_rfl) (fun _ _ _ h => h) (Or.inl ⟨by rfl, ?yc10⟩) (by assumption) ?rc10
                case yc10 => (intro w9 hSw; (try dsimp only at hSw); go_simp; all_goals with_reducible rfl)
                try simp only [Act.put, List.setIfInBounds_toArray, List.set_cons_zero, List.set_cons_succ]
                refine wpAnyH_take (i := 11) (oi := ({ dst := some 148, op := Op.fieldAddr 32 (Operand.tmp 147) 1, type := 0, pos := "top04.go:164", after := #[{ on := 10, ground := Ground.data }, { on := 7, ground := Ground.guard }], guard := some (7, false) } : Oper)) (v := ?vc11) rfl (by kernel_rfl) (by kernel_rfl) (by kernel_rfl) (fun _ _ _ h => h) (Or.inl ⟨by rfl, ?yc11⟩) (by assumption) ?rc11
                case yc11 => (intro w9 hSw; (try dsimp only at hSw); go_simp; all_goals with_reducible rfl)
                try simp only [Act.put, List.setIfInBounds_toArray, List.set_cons_zero, List.set_cons_succ]
                refine wpAnyH_take (i := 12) (oi := ({ dst := some 149, op := Op.fieldAddr 27 (Operand.tmp 148) 0, type := 0, pos := "top04.go:164", after := #[{ on := 11, ground := Ground.data }, { on := 7, ground := Ground.guard }], guard := some (7, false) } : Oper)) (v := ?vc12) rfl (by kernel_rfl) (by kernel_rfl) (by kernel_rfl) (fun _ _ _ h => h) (Or.inl ⟨by rfl, ?yc12⟩) (by assumption) ?rc12
                case yc12 => (intro w9 hSw; (try dsimp only at hSw); go_simp; all_goals with_reducible rfl)
                try simp only [Act.put, List.setIfInBounds_toArray, List.set_cons_zero, List.set_cons_succ]
                refine wpAnyH_take (i := 13) (oi := ({ dst := some 150, op := Op.load 3 (Operand.tmp 149), type := 3, pos := "top04.go:164", after := #[{ on := 12, ground := Ground.data }, { on := 7, ground := Ground.guard }], guard := some (7, false) } : Oper)) (v := ?vc13) rfl (by kernel_rfl) (by kernel_rfl) (by kernel_rfl) (fun _ _ _ h => h) (Or.inl ⟨by rfl, ?yc13⟩) (by assumption) ?rc13
                case yc13 => (intro w9 hSw; (try dsimp only at hSw); go_simp; all_goals with_reducible rfl)
                try simp only [Act.put, List.setIfInBounds_toArray, List.set_cons_zero, List.set_cons_succ]
                refine wpAnyH_take (i := 14) (oi := ({ dst := some 151, op := Op.move (Operand.tmp 20), type := 3, pos := "top04.go:164", after := #[{ on := 7, ground := Ground.guard }], guard := some (7, false) } : Oper)) (v := ?vc14) rfl (by kernel_rfl) (by kernel_rfl) (by kernel_rfl) (fun _ _ _ h => h) (Or.inl ⟨by rfl, ?yc14⟩) (by assumption) ?rc14
                case yc14 => (intro w9 hSw; (try dsimp only at hSw); go_simp; all_goals with_reducible rfl)
                try simp only [Act.put, List.setIfInBounds_toArray, List.set_cons_zero, List.set_cons_succ]
                refine wpAnyH_take (i := 15) (oi := ({ dst := some 152, op := Op.binOp BinOp.neq 3 (Operand.tmp 150) (Operand.tmp 151) 3, type := 4, pos := "top04.go:164", after := #[{ on := 13, ground := Ground.data }, { on := 14, ground := Ground.data }, { on := 7, ground := Ground.guard }], guard := some (7, false) } : Oper)) (v := ?vc15) rfl (by kernel_rfl) (by kernel_rfl) (by kernel_rfl) (fun _ _ _ h => h) (Or.inl ⟨by rfl, ?yc15⟩) (by assumption) ?rc15
                case yc15 => (intro w9 hSw; (try dsimp only at hSw); go_simp; all_goals with_reducible rfl)
                try simp only [Act.put, List.setIfInBounds_toArray, List.set_cons_zero, List.set_cons_succ]
                refine wpAnyH_take (i := 16) (oi := ({ dst := some 153, op := Op.pick (Operand.tmp 144) (Operand.const (Value.bool true)) (Operand.tmp 152), type := 4, pos := "top04.go:164", after := #[{ on := 7, ground := Ground.data }, { on := 15, ground := Ground.data }], guard := none } : Oper)) (v := ?vc16) rfl (by kernel_rfl) (by kernel_rfl) (by kernel_rfl) (fun _ _ _ h => h) (Or.inl ⟨by rfl, ?yc16⟩) (by assumption) ?rc16
                case yc16 => (intro w9 hSw; (try dsimp only at hSw); go_simp; all_goals with_reducible rfl)
                try simp only [Act.put, List.setIfInBounds_toArray, List.set_cons_zero, List.set_cons_succ]
                refine wpAnyH_take (i := 17) (oi := ({ dst := some 154, op := Op.move (Operand.tmp 153), type := 4, pos := "top04.go:164", after := #[{ on := 16, ground := Ground.data }, { on := 7, ground := Ground.chain }], guard := none } : Oper)) (v := ?vc17) rfl (by kernel_rfl) (by kernel_rfl) (by kernel_rfl) (fun _ _ _ h => h) (Or.inl ⟨by rfl, ?yc17⟩) (by assumption) ?rc17
                case yc17 => (intro w9 hSw; (try dsimp only at hSw); go_simp; all_goals with_reducible rfl)
                try simp only [Act.put, List.setIfInBounds_toArray, List.set_cons_zero, List.set_cons_succ]
                refine wpAnyH_take (i := 18) (oi := ({ dst := some 155, op := Op.move (Operand.tmp 9), type := 24, pos := "top04.go:164", after := #[{ on := 17, ground := Ground.guard }], guard := some (17, false) } : Oper)) (v := ?vc18) rfl (by kernel_rfl) (by kernel_rfl) (by kernel_rfl) (fun _ _ _ h => h) (Or.inl ⟨by rfl, ?yc18⟩) (by assumption) ?rc18
                case yc18 => (intro w9 hSw; (try dsimp only at hSw); go_simp; all_goals with_reducible rfl)
                try simp only [Act.put, List.setIfInBounds_toArray, List.set_cons_zero, List.set_cons_succ]
                refine wpAnyH_take (i := 19) (oi := ({ dst := some 156, op := Op.move (Operand.tmp 17), type := 3, pos := "top04.go:164", after := #[{ on := 17, ground := Ground.guard }], guard := some (17, false) } : Oper)) (v := ?vc19) rfl (by kernel_rfl) (by kernel_rfl) (by kernel_rfl) (fun _ _ _ h => h) (Or.inl ⟨by rfl, ?yc19⟩) (by assumption) ?rc19
                case yc19 => (intro w9 hSw; (try dsimp only at hSw); go_simp; all_goals with_reducible rfl)
                try simp only [Act.put, List.setIfInBounds_toArray, List.set_cons_zero, List.set_cons_succ]
                refine wpAnyH_take (i := 20) (oi := ({ dst := some 157, op := Op.indexAddr 24 (Operand.tmp 155) (Operand.tmp 156), type := 0, pos := "top04.go:164", after := #[{ on := 18, ground := Ground.data }, { on := 19, ground := Ground.data }, { on := 17, ground := Ground.guard }], guard := some (17, false) } : Oper)) (v := ?vc20) rfl (by kernel_rfl) (by kernel_rfl) (by kernel_rfl) (fun _ _ _ h => h) (Or.inl ⟨by rfl, ?yc20⟩) (by assumption) ?rc20
                case yc20 => (intro w9 hSw; (try dsimp only at hSw); go_simp; all_goals with_reducible rfl)
                try simp only [Act.put, List.setIfInBounds_toArray, List.set_cons_zero, List.set_cons_succ]
                refine wpAnyH_take (i := 21) (oi := ({ dst := some 158, op := Op.fieldAddr 32 (Operand.tmp 157) 1, type := 0, pos := "top04.go:164", after := #[{ on := 20, ground := Ground.data }, { on := 17, ground := Ground.guard }], guard := some (17, false) } : Oper)) (v := ?vc21) rfl (by kernel_rfl) (by kernel_rfl) (by kernel_rfl) (fun _ _ _ h => h) (Or.inl ⟨by rfl, ?yc21⟩) (by assumption) ?rc21
                case yc21 => (intro w9 hSw; (try dsimp only at hSw); go_simp; all_goals with_reducible rfl)
                try simp only [Act.put, List.setIfInBounds_toArray, List.set_cons_zero, List.set_cons_succ]
                refine wpAnyH_take (i := 22) (oi := ({ dst := some 159, op := Op.fieldAddr 27 (Operand.tmp 158) 1, type := 0, pos := "top04.go:164", after := #[{ on := 21, ground := Ground.data }, { on := 17, ground := Ground.guard }], guard := some (17, false) } : Oper)) (v := ?vc22) rfl (by kernel_rfl) (by kernel_rfl) (by kernel_rfl) (fun _ _ _ h => h) (Or.inl ⟨by rfl, ?yc22⟩) (by assumption) ?rc22
                case yc22 => (intro w9 hSw; (try dsimp only at hSw); go_simp; all_goals with_reducible rfl)
                try simp only [Act.put, List.setIfInBounds_toArray, List.set_cons_zero, List.set_cons_succ]
                refine wpAnyH_take (i := 23) (oi := ({ dst := some 160, op := Op.load 3 (Operand.tmp 159), type := 3, pos := "top04.go:164", after := #[{ on := 22, ground := Ground.data }, { on := 17, ground := Ground.guard }], guard := some (17, false) } : Oper)) (v := ?vc23) rfl (by kernel_rfl) (by kernel_rfl) (by kernel_rfl) (fun _ _ _ h => h) (Or.inl ⟨by rfl, ?yc23⟩) (by assumption) ?rc23
                case yc23 => (intro w9 hSw; (try dsimp only at hSw); go_simp; all_goals with_reducible rfl)
                try simp only [Act.put, List.setIfInBounds_toArray, List.set_cons_zero, List.set_cons_succ]
                refine wpAnyH_take (i := 24) (oi := ({ dst := some 161, op := Op.move (Operand.tmp 18), type := 9, pos := "top04.go:164", after := #[{ on := 17, ground := Ground.guard }], guard := some (17, false) } : Oper)) (v := ?vc24) rfl (by kernel_rfl) (by kernel_rfl) (by kernel_rfl) (fun _ _ _ h => h) (Or.inl ⟨by rfl, ?yc24⟩) (by assumption) ?rc24
                case yc24 => (intro w9 hSw; (try dsimp only at hSw); go_simp; all_goals with_reducible rfl)
                try simp only [Act.put, List.setIfInBounds_toArray, List.set_cons_zero, List.set_cons_succ]
                refine wpAnyH_take (i := 25) (oi := ({ dst := some 162, op := Op.move (Operand.tmp 20), type := 3, pos := "top04.go:164", after := #[{ on := 17, ground := Ground.guard }], guard := some (17, false) } : Oper)) (v := ?vc25) rfl (by kernel_rfl) (by kernel_rfl) (by kernel_rfl) (fun _ _ _ h => h) (Or.inl ⟨by rfl, ?yc25⟩) (by assumption) ?rc25
                case yc25 => (intro w9 hSw; (try dsimp only at hSw); go_simp; all_goals with_reducible rfl)
                try simp only [Act.put, List.setIfInBounds_toArray, List.set_cons_zero, List.set_cons_succ]
                refine wpAnyH_take (i := 26) (oi := ({ dst := some 163, op := Op.slice 9 (Operand.tmp 161) none (some (Operand.tmp 162)) none, type := 9, pos := "top04.go:164", after := #[{ on := 24, ground := Ground.data }, { on := 25, ground := Ground.data }, { on := 17, ground := Ground.guard }], guard := some (17, false) } : Oper)) (v := ?vc26) rfl (by kernel_rfl) (by kernel_rfl) (by kernel_rfl) (fun _ _ _ h => h) (Or.inl ⟨by rfl, ?yc26⟩) (by assumption) ?rc26
                case yc26 => (intro w9 hSw; (try dsimp only at hSw); go_simp; all_goals with_reducible rfl)
                try simp only [Act.put, List.setIfInBounds_toArray, List.set_cons_zero, List.set_cons_succ]
                refine wpAnyH_ready (rs := [27]) (by kernel_rfl) (by simp) ?_
                refine AllReadyH.cons (o := ({ dst := some 164, op := Op.convert 9 34 (Operand.tmp 163), type := 34, pos := "top04.go:164", after := #[{ on := 26, ground := Ground.data }, { on := 17, ground := Ground.guard }], guard := some (17, false) } : Oper)) rfl (fun K9 hK9 => ?_) AllReadyH.nil
                go_simp
                refine hK9.out _ _ ?_ (fun hHeld2 => ?_)
                · (first | go_keep | exact ⟨by assumption, by assumption, by assumption⟩)
                clear hK9 K9
                try simp only [Act.put, List.setIfInBounds_toArray, List.set_cons_zero, List.set_cons_succ]
                refine wpAnyH_take (i := 28) (oi := ({ dst := some 165, op := Op.call { callee := Callee.builtin Builtin.len, args := #[Operand.tmp 164], argTypes := #[34] }, type := 3, pos := "top04.go:164", after := #[{ on := 27, ground := Ground.data }, { on := 17, ground := Ground.guard }], guard := some (17, false) } : Oper)) (v := ?vc28) rfl (by kernel_rfl) (by kernel_rfl) (by kernel_rfl) (fun _ _ _ h => h) (Or.inl ⟨by rfl, ?yc28⟩) (by assumption) ?rc28
                case yc28 => (intro w9 hSw; (try dsimp only at hSw); go_simp; all_goals with_reducible rfl)
                try simp only [Act.put, List.setIfInBounds_toArray, List.set_cons_zero, List.set_cons_succ]
                refine wpAnyH_take (i := 29) (oi := ({ dst := some 166, op := Op.binOp BinOp.neq 3 (Operand.tmp 160) (Operand.tmp 165) 3, type := 4, pos := "top04.go:164", after := #[{ on := 23, ground := Ground.data }, { on := 28, ground := Ground.data }, { on := 17, ground := Ground.guard }], guard := some (17, false) } : Oper)) (v := ?vc29) rfl (by kernel_rfl) (by kernel_rfl) (by kernel_rfl) (fun _ _ _ h => h) (Or.inl ⟨by rfl, ?yc29⟩) (by assumption) ?rc29
                case yc29 => (intro w9 hSw; (try dsimp only at hSw); go_simp; all_goals with_reducible rfl)
                try simp only [Act.put, List.setIfInBounds_toArray, List.set_cons_zero, List.set_cons_succ]
                refine wpAnyH_take (i := 30) (oi := ({ dst := some 167, op := Op.pick (Operand.tmp 154) (Operand.const (Value.bool true)) (Operand.tmp 166), type := 4, pos := "top04.go:164", after := #[{ on := 17, ground := Ground.data }, { on := 29, ground := Ground.data }], guard := none } : Oper)) (v := ?vc30) rfl (by kernel_rfl) (by kernel_rfl) (by kernel_rfl) (fun _ _ _ h => h) (Or.inl ⟨by rfl, ?yc30⟩) (by assumption) ?rc30
                case yc30 => (intro w9 hSw; (try dsimp only at hSw); go_simp; all_goals with_reducible rfl)
                try simp only [Act.put, List.setIfInBounds_toArray, List.set_cons_zero, List.set_cons_succ]
                refine wpAnyH_done (by kernel_rfl) ?_ _
                have bX : Below W1.heap.size W1 (W1.alloc (ob W1.drew)).drew.drew := (((Below.refl _ _).alloc (Nat.le_refl _) _).trans (((Drew.refl _).drewN 1).below _)).trans (((Drew.refl _).drewN 1).below _)
                generalize (W1.alloc (ob W1.drew)).drew.drew = W2 at bX ⊢
                have hKl : K < W1.heap.size := (Array.getElem?_eq_some_iff.1 HW1.out.it).1
                have it2 := (bX.block K hKl).trans HW1.out.it
                have bx3 := HX.out.trans (bX.mono (Nat.le_of_lt hKl))
                clear bX hcr
                go_wp2_with fail
                go_roundw
                case rel => exact ⟨_, nn + 1, r, by go_num, rfl, it2, bx3, hnl2, HS⟩
                case measure =>
                  have h1 := iterPos_of it2
                  have := HWD.out
                  rw [hpos0, h1]
                  omega
        · have hnx : ∀ ty, (Instr.next (.pointer (some ⟨K, 0, none⟩)) true ty).run Tryd.prog wr = _ := fun ty => Lib.run_next_end_at wr K s p ty hit hp
          obtain ⟨hdr, hbad, hnw⟩ := HW.out.end (by rw [HL.out, ← HSZ.out]; exact hp)
          have hnM2 : nn = M := by
            have hx := List.drop_eq_nil_iff.1 hdr
            have := hM.out
            omega
          have hfe : fh = 3 := by rw [hfh.out]; exact hbad
          subst hnM2
          subst hfe
          have HNW := Lib.hid hnw
          have GB := Lib.hid (GW.out.trans (hbx.mono (by rw [hK.out]; exact GW.out.size)))
          have hWC := whole_calls b HBY.out (by rw [HL.out]; exact hn) wr
          rw [← hs.out] at hWC
          have HWC := Lib.hid hWC
          clear hWC hdr hbad hnw
          go_wp2_with fail
          refine HWC.out.mono ?_
          rintro e wz ⟨rfl, bz⟩
          rw [HNW.out]
          clear HWC
          go_wp2_with fail
          go_ret
          exact ⟨by first | rfl | simp, GB.out.trans (bz.mono GB.out.size)⟩
theorem wholeFeeds_walk (ao : Option Addr) (n cap : Nat) (b : List Int) (ao2 : Option Addr) (n2 cap2 : Nat) (cs : List Int) (w : World) (h : Rd w .u8 ao n cap b) (_ : ao = none → n = 0 ∧ cap = 0) (hwf : ∀ x ∈ b, (Lit.int .u8 x).wf = true) (hn : n ≤ 1048576)
    (h2 : Rd w .i64 ao2 n2 cap2 cs) (_ : ao2 = none → n2 = 0 ∧ cap2 = 0) (_ : ∀ x ∈ cs, (Lit.int .i64 x).wf = true) (hn2 : n2 ≤ 1048576) (hT : U8 w) :
    Calls Tryd.prog 3 #[.slice ao n cap, .slice ao2 n2 cap2] w fun e w' => e = .returned (.bool true) ∧ Below w.heap.size w w' :=
  wholeFeeds_calls w ao n cap b h (fun x hx => wf_u8 (hwf x hx)) (by omega) ao2 n2 cap2 cs h2 (by omega) hT
end Go.Proofs.YtpkdbfnnbbkkiaaDoor
