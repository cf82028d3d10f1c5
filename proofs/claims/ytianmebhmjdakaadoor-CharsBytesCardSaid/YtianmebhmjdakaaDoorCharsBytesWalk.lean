/- The walk of gimletlaw02.CharsBytes. -/
import Derived.Test.YtianmebhmjdakaaDoorBytesLaw
import Derived.Test.YtianmebhmjdakaaDoorPutWalk
import Derived.Test.YtianmebhmjdakaaDoorCharsBeginsWalk
namespace Go.Proofs.YtianmebhmjdakaaDoor
open Go.RowKit Gim
theorem rd_nil (w : World) (k : IntKind) : Rd w k none 0 0 [] := ⟨rfl, Nat.le_refl _, by unfold maxLen; omega, fun j hj => by omega⟩
set_option maxHeartbeats 2000000 in
theorem charsBytes_walk (c r m : Int) (ao : Option Addr) (n cap : Nat) (xs : List Int) (w : World) (_ : (Lit.int .i64 c).wf = true) (hr : (Lit.int .i32 r).wf = true) (hm : (Lit.int .i64 m).wf = true) (h : Rd w .u8 ao n cap xs) (hnone : ao = none → n = 0 ∧ cap = 0) (hwf : ∀ x ∈ xs, (Lit.int .u8 x).wf = true) (hn : n ≤ 140737488351232) (hT : Laid w) :
    Calls Tryd.prog 10 #[.agg #[.int .i64 c, .int .i32 r, .int .i64 m, .slice ao n cap]] w fun e w' => e = .returned (.bool true) ∧ Below w.heap.size w w' := by
  have hby := gt_all h.len (fun x hx => wf_u8 (hwf x hx))
  have HL := Lib.hid h.len
  have hr' : -2147483648 ≤ r ∧ r ≤ 2147483647 := by simpa [Lit.wf, IntKind.min, IntKind.max, IntKind.signed, IntKind.bits] using hr
  have hm' : -9223372036854775808 ≤ m ∧ m ≤ 9223372036854775807 := by simpa [Lit.wf, IntKind.min, IntKind.max, IntKind.signed, IntKind.bits] using hm
  clear hwf hr hm
  go_enter Tryd.func10, Tryd.ntmps10
  obtain ⟨wb, hwb⟩ : ∃ wb, wb = w.alloc (.cells #[.int .i64 c, .int .i32 r, .int .i64 m, .slice ao n cap] 45) := ⟨_, rfl⟩
  have hB0 : Below w.heap.size w wb := by rw [hwb]; exact (Below.refl _ _).alloc (Nat.le_refl _) _
  have hz : wb.heap.size = w.heap.size + 1 := by rw [hwb]; simp
  have hx : wb.heap[w.heap.size]? = some (.cells #[.int .i64 c, .int .i32 r, .int .i64 m, .slice ao n cap] 45) := by rw [hwb]; exact heap_alloc_new _ _
  go_wp2_with fail
  rw [← hwb]
  clear hwb
  refine (fixed_calls _ (hT.below hB0)).mono ?_
  rintro e w1 ⟨rfl, hb1⟩
  have hT1 := (hT.below hB0).below hb1
  have rdb1 := (h.below hB0).below hb1
  have hx1 : w1.heap[w.heap.size]? = _ := (hb1.block w.heap.size (by omega)).trans hx
  have f0 : w1.cell? ⟨w.heap.size, 0, none⟩ = some (.int .i64 c) := by simp [World.cell?, hx1]
  have f1 : w1.cell? ⟨w.heap.size, 1, none⟩ = some (.int .i32 r) := by simp [World.cell?, hx1]
  have f2 : w1.cell? ⟨w.heap.size, 2, none⟩ = some (.int .i64 m) := by simp [World.cell?, hx1]
  have f3 : w1.cell? ⟨w.heap.size, 3, none⟩ = some (.slice ao n cap) := by simp [World.cell?, hx1]
  have hb01 := hB0.trans (hb1.mono (by omega))
  clear hx hx1 hb1 hz hB0
  go_wp2
  go_quiet (fail)
  go_wp2_with fail
  have hbq := hb01.trans (((Drew.refl w1).drewN nq).below _)
  refine (is_calls _ c r (hT1.drewN nq).tab).mono ?_
  rintro e w2 ⟨rfl, hb2⟩
  have hT2 := (hT1.drewN nq).below hb2
  have rdb2 := (rdb1.drewN nq).below hb2
  have hb := hbq.trans (hb2.mono hbq.size)
  clear hb01 hb2 rdb1 hT1 f0 f1 f2 f3
  cases hi : isF (cls c) r
  · go_wp2_with (at_builtin; refine append_rd _ rfl _ _ rfl w.heap.size _ [] rfl (row_empty w2 _ _ w.heap.size hb.size) ao n cap xs rfl (rdb2.below ((Below.refl _ _).alloc (Nat.le_refl _) _)) hnone (by simp; omega) (by simp; have := hb.size; omega) ?_; intro v8 w8 hrow8 hgrow8)
    rw [List.nil_append] at hrow8
    have hb8 : Below w.heap.size w w8 := (hb.alloc hb.size _).grown hgrow8 (by simp; have := hb.size; omega) (fun j hj => ((row_empty w2 5 .u8 w.heap.size hb.size).lt j hj).1)
    have hT8 := hT.below hb8
    obtain ⟨ao8, cap8, rfl, rd8⟩ := hrow8.rd
    rw [HL.out] at rd8
    rw [HL.out]
    clear hrow8 hgrow8 hb hT2 rdb2
    refine (begins_calls 0 _ _ _ _ xs rd8 hby hT8.tab).mono ?_
    rintro e w9 ⟨rfl, hb9⟩
    have h9 := hb8.trans (hb9.mono hb8.size)
    cases hq : begB 0 xs
    · have HC := Lib.hid (show begB c xs = false by
        cases hc : begB c xs
        · rfl
        · rw [beg_sub hc] at hq; cases hq)
      go_wp2_with fail
      refine (begins_calls c _ _ _ _ xs (rd8.below hb9) hby (hT8.below hb9).tab).mono ?_
      rintro e w10 ⟨rfl, hb10⟩
      rw [HC.out]
      clear HC
      go_wp2
      go_ret
      exact ⟨rfl, h9.trans (hb10.mono h9.size)⟩
    · go_wp2
      go_ret
      exact ⟨rfl, h9⟩
  · have HI := Lib.hid hi
    go_wp2_with fail
    refine (put_calls _ none 0 0 [] (rd_nil _ _) (fun _ => ⟨rfl, rfl⟩) r hr'.1 hr'.2 (by omega)).mono ?_
    rintro e w3 ⟨v3, rfl, hrow, hb3⟩
    rw [List.nil_append, encZ_bytesL (any_ch HI.out)] at hrow
    have hT3 := hT2.below hb3
    have rdb3 := rdb2.below hb3
    have hb4 := hb.trans (hb3.mono hb.size)
    clear hb3 hb hT2 rdb2
    have hL4 := bytesL_length (r := r)
    obtain ⟨ys, hys⟩ : ∃ ys, ys = bytesL r := ⟨_, rfl⟩
    have HY := Lib.hid hys
    rw [← hys] at hrow hL4
    clear hys
    obtain ⟨ao3, cap3, rfl, rd3⟩ := hrow.rd
    obtain ⟨k, hk⟩ : ∃ k, k = ys.length := ⟨_, rfl⟩
    rw [← hk] at rd3 hL4 hrow
    rw [← hk]
    have HK := Lib.hid hk
    clear hk
    have hmax : max 1 (k : Int) = k := by omega
    have ht : 0 ≤ (IntKind.u64.wrap m).tmod k ∧ (IntKind.u64.wrap m).tmod k < k := by
      rw [IntKind.wrap_u64, Int.tmod_eq_emod_of_nonneg (Int.emod_nonneg _ (by omega))]
      exact ⟨Int.emod_nonneg _ (by omega), Int.emod_lt_of_pos _ (by omega)⟩
    obtain ⟨t, ht'⟩ : ∃ t : Nat, (IntKind.u64.wrap m).tmod k = t := ⟨_, (Int.toNat_of_nonneg ht.1).symm⟩
    rw [ht'] at ht
    have htk : t < k := by omega
    have hcap := rd3.le
    have hnone3 : ao3 = none → k = 0 ∧ cap3 = 0 := fun hh => by
      obtain ⟨b, o, h1, _⟩ := rd3.cell 0 (by omega)
      rw [hh] at h1
      cases h1
    have HK4 := Lib.hid (show begB c (ys.take (1 + t)) = true by rw [HY.out]; exact beg_is HI.out (by omega) (by rw [← HY.out, ← HK.out]; omega))
    have HK5 := Lib.hid (show begB c (ys ++ [128]) = false by rw [HY.out]; exact beg_over)
    have hby3 : ∀ x ∈ ys, 0 ≤ x ∧ x ≤ 255 := fun x hx => by
      rw [HY.out] at hx
      have hch := any_ch HI.out
      unfold Ch at hch
      exact bytesL_byte (by omega) (by omega) hx
    have HBY := Lib.hid hby3
    clear hby3
    go_wp2_with fail
    refine (begins_calls c _ _ _ _ (ys.take (1 + t)) (rd3.take (by omega)) (gt_all (by rw [List.length_take, ← HK.out]; omega) fun x hx => HBY.out x (List.mem_of_mem_take hx)) hT3.tab).mono ?_
    rintro e w4 ⟨rfl, hb5⟩
    rw [HK4.out]
    have hT4 := hT3.below hb5
    have rdb4 := rdb3.below hb5
    have rd4 := rd3.below hb5
    have hb6 := hb4.trans (hb5.mono hb4.size)
    clear hb5 hb4 hT3 rdb3 rd3 hrow HK4
    have hnlt : decide ((k : Int) < 1 + t) = false := by simp; omega
    obtain ⟨ad3, rfl⟩ : ∃ ad, ao3 = some ad := by
      cases ao3 with
      | none => exact absurd (hnone3 rfl).1 (by omega)
      | some ad => exact ⟨ad, rfl⟩
    have rdone : ∀ (W : World) t, Rd (W.alloc (.cells #[.int .u8 128] t)) .u8 (some ⟨W.heap.size, 0, none⟩) 1 1 [128] := fun W t => ⟨rfl, Nat.le_refl _, by unfold maxLen; omega, fun j hj => ⟨_, _, rfl, by simp, fun i hi => by
      obtain rfl : i = 0 := by omega
      simp [gt]⟩⟩
    go_wp2_with (first
      | (at_builtin; refine append_rdG _ (by first | rfl | simp [Region.wanted, yielded, hnlt]) _ _ rfl w.heap.size _ [] rfl (row_empty w4 _ _ w.heap.size hb6.size) ad3 k cap3 ys rfl (rd4.below ((Below.refl _ _).alloc (Nat.le_refl _) _)) (by simp; omega) (by simp; have := hb6.size; omega) ?_; intro v6 w6 hrow6 hgrow6; have hb61 : Below w.heap.size w w6 := (hb6.alloc hb6.size _).grown hgrow6 (by simp; have := hb6.size; omega) (fun j hj => ((row_empty w4 5 .u8 w.heap.size hb6.size).lt j hj).1))
      | (at_builtin; refine append_rdG _ (by first | rfl | simp [Region.wanted, yielded, hnlt]) _ _ rfl w.heap.size _ _ rfl (hrow6.alloc _) ⟨w6.heap.size, 0, none⟩ 1 1 [128] rfl (rdone w6 _) (by rw [List.nil_append, ← HK.out]; omega) (by have := hb61.size; simp; omega) ?_; intro v7 w7 hrow7 hgrow7; have hb71 : Below w.heap.size w w7 := (hb61.alloc hb61.size _).grown hgrow7 (by simp; have := hb61.size; omega) (fun j hj => (hrow6.lt j hj).1)))
    rw [List.nil_append] at hrow7
    obtain ⟨ao7, cap7, rfl, rd7⟩ := hrow7.rd
    have hT7 := hT.below hb71
    refine (begins_calls c _ _ _ _ (ys ++ [128]) rd7 (gt_all (P := fun x => 0 ≤ x ∧ x ≤ 255) rfl fun x hx => by
      rcases List.mem_append.1 hx with hx | hx
      · exact HBY.out x hx
      · obtain rfl : x = 128 := List.mem_singleton.1 hx
        omega) hT7.tab).mono ?_
    rintro e w5 ⟨rfl, hb5⟩
    rw [HK5.out]
    have hbz := hb71.trans (hb5.mono hb71.size)
    have hTz := hT.below hbz
    have rdz := h.below hbz
    clear hb5 hb71 hb61 hrow6 hrow7 hgrow6 hgrow7 rd7 hT7 hT4 rdb4 rd4 hb6 HK5 HBY hnone3 rdone
    go_wp2_with (at_builtin; refine append_rd _ rfl _ _ rfl w.heap.size _ [] rfl (row_empty w5 _ _ w.heap.size hbz.size) ao n cap xs rfl (rdz.below ((Below.refl _ _).alloc (Nat.le_refl _) _)) hnone (by simp; omega) (by simp; have := hbz.size; omega) ?_; intro v8 w8 hrow8 hgrow8)
    rw [List.nil_append] at hrow8
    have hb8 : Below w.heap.size w w8 := (hbz.alloc hbz.size _).grown hgrow8 (by simp; have := hbz.size; omega) (fun j hj => ((row_empty w5 5 .u8 w.heap.size hbz.size).lt j hj).1)
    have hT8 := hT.below hb8
    obtain ⟨ao8, cap8, rfl, rd8⟩ := hrow8.rd
    rw [HL.out] at rd8
    rw [HL.out]
    clear hrow8 hgrow8 hbz hTz rdz
    refine (begins_calls 0 _ _ _ _ xs rd8 hby hT8.tab).mono ?_
    rintro e w9 ⟨rfl, hb9⟩
    have h9 := hb8.trans (hb9.mono hb8.size)
    cases hq : begB 0 xs
    · have HC := Lib.hid (show begB c xs = false by
        cases hc : begB c xs
        · rfl
        · rw [beg_sub hc] at hq; cases hq)
      go_wp2_with fail
      refine (begins_calls c _ _ _ _ xs (rd8.below hb9) hby (hT8.below hb9).tab).mono ?_
      rintro e w10 ⟨rfl, hb10⟩
      rw [HC.out]
      clear HC
      go_wp2
      go_ret
      exact ⟨rfl, h9.trans (hb10.mono h9.size)⟩
    · go_wp2
      go_ret
      exact ⟨rfl, h9⟩
end Go.Proofs.YtianmebhmjdakaaDoor
