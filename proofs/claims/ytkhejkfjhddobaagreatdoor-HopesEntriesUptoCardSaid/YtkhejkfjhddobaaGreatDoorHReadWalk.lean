/- The walks of gimletref02.Bytes, Read, All, Name, Texts. -/
import Derived.Test.YtkhejkfjhddobaaGreatDoorHSpanWalk
import Derived.Test.YtkhejkfjhddobaaGreatDoorClsM
import Derived.Laws.BytesArg
import Derived.Laws.IdiomStrings
import Derived.Deep.RegionHeld3
namespace Gim
open Go Go.RowKit
theorem extract_list (s : ByteArray) (p m : Nat) : (s.extract p (p + m)).data.toList = (s.data.toList.drop p).take m := by
  rw [ByteArray.data_extract, Array.toList_extract, List.extract_eq_take_drop]
  congr 1
  omega
/-- the numbers of a new slice of a string's bytes -/
theorem rd_bytes (w : World) (X : ByteArray) (t : TypeId) (cap : Nat) (fr : Nat × Nat) (h1 : X.size ≤ cap) (h2 : cap ≤ maxLen) :
    Rd (w.alloc (.cells (bytesRow X cap) t fr)) .u8 (some ⟨w.heap.size, 0, none⟩) X.size cap (bz X.data.toList) :=
  ⟨by rw [bz_length]; rfl, h1, h2, fun j hj => ⟨_, _, rfl, by simp, fun i hi => by
    have hi' : i < X.data.size := hi
    have hg : gt (bz X.data.toList) i = (X.data[i].toNat : Int) := by simp [gt, bz]; rw [Array.getElem?_eq_getElem hi']; rfl
    rw [hg]
    have := bytesRow_at X cap i hi'
    have hh := heap_alloc_new w (.cells (bytesRow X cap) t fr)
    unfold World.cell?
    rw [hh, Nat.zero_add]
    exact this⟩⟩
theorem Rd.convB {P : Program} {w : World} {ao : Option Addr} {n cap : Nat} {xs : List Int} (h : Rd w .u8 ao n cap xs) {src dst e : TypeId}
    (hs : P.underlying src = some (.slice e)) (he : P.underlying e = some (.int .u8)) (hd : P.underlying dst = some .string) :
    (convert src dst (.slice ao n cap)).run P w = .ok (.string (strOfNums xs)) w := by
  have hl := h.len
  by_cases h0 : n = 0
  · subst h0
    obtain rfl : xs = [] := List.eq_nil_of_length_eq_zero hl
    cases ao with
    | none => exact run_convert_bytes_nil w src e hs he _ _ dst hd
    | some a => 
      obtain ⟨b, o, pa⟩ := a
      rw [run_convert_bytes_string w src dst e _ _ _ hs he hd, run_bytesToString w _ 0 cap [] (by simp [loadCells, loadCellsFrom])]
      rfl
  · obtain ⟨b, o, rfl, h2, h3⟩ := h.cell 0 (by omega)
    exact run_convert_bytes_arg w src e hs he b o n cap xs hl h3 dst hd
theorem rd_str (w : World) {s : ByteArray} {p m : Nat} {l : List Int} (hps : p + m ≤ s.size) (hl : l = bz (s.data.toList.drop p)) (t : TypeId) (cap : Nat) (fr : Nat × Nat) (h1 : m ≤ cap) (h2 : cap ≤ maxLen) :
    Rd (w.alloc (.cells (bytesRow (s.extract p (p + m)) cap) t fr)).drew .u8 (some ⟨w.heap.size, 0, none⟩) m cap (l.take m) := by
  have hX : (s.extract p (p + m)).size = m := by simp; omega
  have hbz : bz (s.extract p (p + m)).data.toList = l.take m := by rw [extract_list, bz_take, hl]
  have rd0 := rd_bytes w (s.extract p (p + m)) t cap fr (by omega) h2
  rw [hX, hbz] at rd0
  exact rd0.drewN 1
theorem bz_strOfNums {xs : List Int} (h : ∀ x ∈ xs, 0 ≤ x ∧ x ≤ 255) : bz (strOfNums xs).data.toList = xs := by
  rw [strOfNums_data, bz, List.map_map]
  conv => rhs; rw [← List.map_id xs]
  refine List.map_congr_left fun x hx => ?_
  have := h x hx
  simp only [Function.comp, id, UInt8.toNat_ofNat']
  omega
theorem bytesL_byte {r x : Int} (h0 : 0 ≤ r) (h1 : r ≤ 1114111) (h : x ∈ bytesL r) : 0 ≤ x ∧ x ≤ 255 := by
  unfold bytesL at h
  split at h
  · simp at h; omega
  · split at h
    · simp at h; omega
    · split at h
      · simp at h; omega
      · simp at h; omega
theorem same_bytes {r : Int} (h0 : 0 ≤ r) (h1 : r ≤ 1114111) (s : ByteArray) (p m : Nat) : (strOfNums (bytesL r)).toList = (s.extract p (p + m)).toList ↔ bytesL r = (bz (s.data.toList.drop p)).take m := by
  rw [ByteArray.toList_eq, ByteArray.toList_eq, extract_list, ← bz_take]
  constructor
  · intro e; rw [← e, bz_strOfNums fun x hx => bytesL_byte h0 h1 hx]
  · intro e; exact bz_inj (by rw [bz_strOfNums fun x hx => bytesL_byte h0 h1 hx, e])
end Gim
namespace Go.Proofs.YtkhejkfjhddobaaGreatDoor
open Go.RowKit Gim
-- gimlet/gimletref02.Bytes
theorem new_full (w : World) (t : TypeId) (xs : List Int) (h4 : xs.length ≤ 4) : GivesFull w t .u8 xs (.returned (.slice (some ⟨w.heap.size, 0, none⟩) xs.length xs.length)) (w.alloc (.cells (xs.map (Value.int .u8)).toArray t)) := by
  refine ⟨_, rfl, ⟨by simp, .inr ⟨w.heap.size, xs.length, _, by simp, Nat.le_refl _, heap_alloc_new w _, by simp, by unfold maxLen; omega, by simp, ?_⟩⟩, (Below.refl _ _).alloc (Nat.le_refl _) _⟩
  rw [List.take_of_length_le (by simp)]
set_option maxRecDepth 100000 in
set_option maxHeartbeats 4000000 in
theorem bytes_calls (r : Int) (w : World) (h0 : 0 ≤ r) (h1 : r ≤ 1114111) : Calls Tryz.prog 109 #[.int .i64 r] w (GivesFull w 5 .u8 (bytesL r)) := by
  go_enter Tryz.func109, Tryz.ntmps109
  by_cases c1 : r < 128
  · go_wp2
    go_ret
    rw [bytesL, if_pos c1]
    exact new_full _ _ _ (by simp)
  by_cases c2 : r < 2048
  · go_wp2
    go_ret
    rw [bytesL, if_neg (by omega), if_pos c2]
    exact new_full _ _ _ (by simp)
  by_cases c3 : r < 65536
  · go_wp2
    go_ret
    rw [bytesL, if_neg (by omega), if_neg (by omega), if_pos c3]
    exact new_full _ _ _ (by simp)
  · go_wp2
    go_ret
    rw [bytesL, if_neg (by omega), if_neg (by omega), if_neg (by omega)]
    exact new_full _ _ _ (by simp)
-- gimlet/gimletref02.Read
set_option maxRecDepth 100000 in
set_option maxHeartbeats 4000000 in
theorem read_calls (s : ByteArray) (p : Nat) (w : World) (hs : s.size ≤ 140737488351232) (hp : p < s.size) :
    Calls Tryz.prog 69 #[.string s, .int .i64 p] w fun e w' => e = .returned (.tuple #[.int .i64 (readL (bz (s.data.toList.drop p))).1, .int .i64 (readL (bz (s.data.toList.drop p))).2]) ∧ Below w.heap.size w w' := by
  obtain ⟨l, hl⟩ : ∃ l, l = bz (s.data.toList.drop p) := ⟨_, rfl⟩
  have hlen : l.length = s.size - p := by rw [hl, bz_length, List.length_drop]; rfl
  have HL := Lib.hid hl
  rw [← hl]
  clear hl
  go_enter Tryz.func69, Tryz.ntmps69
  go_wp2
  go_loopw [6] (fun v wr => ∃ m : Nat, 1 ≤ m ∧ m ≤ 5 ∧ v = .int .i64 m ∧ Hid (readF l (6 - m) m = readL l) ∧ Below w.heap.size w wr) (fun v _ => 5 - (intOf v).toNat)
  case atStart => exact ⟨1, by omega, by omega, rfl, Lib.hid rfl, Below.refl _ _⟩
  case round =>
    obtain ⟨m, hm1, hm5, rfl, H, hb⟩ := hrel
    by_cases hm : m ≤ 4 ∧ p + m ≤ s.size
    · obtain ⟨hm4, hps⟩ := hm
      have hsx : ∀ wx : World, (Instr.slice 9 (.string s) (some (.int .i64 (p : Int))) (some (.int .i64 ((p : Int) + m))) none).run Tryz.prog wx = .ok (.string (s.extract p (p + m))) wx := fun wx => by
        have h := run_slice_string (P := Tryz.prog) wx 9 s .i64 .i64 (p : Int) ((p : Int) + m) Tryz.underlying9 (by omega) (by omega) (by omega)
        rw [h]
        congr 1
      have hcv : ∀ wx : World, (convert 9 175 (.string (s.extract p (p + m)))).run Tryz.prog wx = _ := fun wx => run_bytes_of_string wx 9 175 5 (s.extract p (p + m)) rfl rfl rfl
      go_wp2_with fail
      have hbw : Below w.heap.size w (wr.alloc (.cells (bytesRow (s.extract p (p + m)) (grownCap wr m 0 5)) 5 ((bytesRow (s.extract p (p + m)) (grownCap wr m 0 5)).size, (bytesRow (s.extract p (p + m)) (grownCap wr m 0 5)).size + 1))).drew := (hb.alloc hb.size _).trans (((Drew.refl _).drewN 1).below _)
      refine (span_calls _ _ _ _ (l.take m) (rd_str wr hps HL.out _ _ _ (grownCap_ge _ _ _ _) (grownCap_le_maxLen _ _ _ _ (by unfold maxLen; omega))) ?_).mono ?_
      · intro j hj
        have hj' : j < (l.take m).length := by simp; omega
        have : gt (l.take m) j ∈ l.take m := by rw [gt_lt hj']; exact List.getElem_mem _
        rw [HL.out, ← bz_take] at this
        exact bz_byte (by rw [HL.out, ← bz_take]; exact this)
      rintro e w1 ⟨rfl, hb1⟩
      have hb2 := hbw.trans (hb1.mono hbw.size)
      clear hb1 hbw
      have HR := Lib.hid (show readL l = if (spanL (l.take m)).1 = (spanL (l.take m)).2 ∧ bytesL (spanL (l.take m)).1 = l.take m then (if 55296 ≤ (spanL (l.take m)).1 ∧ (spanL (l.take m)).1 ≤ 57343 then (0, 0) else ((spanL (l.take m)).1, (m : Int))) else readF l (6 - (m + 1)) (m + 1) by
        rw [← H.out, show 6 - m = (6 - (m + 1)) + 1 from by omega, readF, if_pos (by omega)])
      have HN := Lib.hid (show (spanL (l.take m)).1 = (spanL (l.take m)).2 → 0 ≤ (spanL (l.take m)).1 ∧ (spanL (l.take m)).1 ≤ 1114111 from fun h => spanL_range (fun x hx => by rw [HL.out] at hx; exact (bz_byte (List.mem_of_mem_take hx)).1) h)
      obtain ⟨f, hf⟩ : ∃ f, f = spanL (l.take m) := ⟨_, rfl⟩
      rw [← hf] at HR HN
      rw [← hf]
      clear hf
      obtain ⟨x, y⟩ := f
      by_cases hxy : x = y
      · subst hxy
        have hr := HN.out rfl
        simp only [true_and] at HR
        clear HN H
        have HQ := Lib.hid hr
        have hwr : IntKind.i64.wrap ((p : Int) + m) = (p : Int) + m := IntWalk.i64_in _ (by omega)
        go_wp2
        go_region_held (fun _ => True) (first | exact trivial | go_keep) ((go_at_call 109; refine (bytes_calls x _ HQ.out.1 HQ.out.2).mono ?_; rintro e w2 ⟨g, rfl, hrow, hb3⟩; have hcv2 := (Row.rdAt hrow).convB (P := Tryz.prog) (src := 175) (dst := 9) (e := 5) rfl rfl rfl))
        all_goals
          have hb4 : Below w.heap.size w w2 := (hb2.trans (((Drew.refl w1).drewN 1).below _)).trans (hb3.mono hb2.size)
          have HS := Lib.hid (same_bytes HQ.out.1 HQ.out.2 s p m)
          obtain ⟨q, hq⟩ : ∃ q : Bool, q = ((strOfNums (bytesL x)).toList == (s.extract p (p + m)).toList) := ⟨_, rfl⟩
          rw [← hq]
          cases q
          · have hq' : ¬ (strOfNums (bytesL x)).toList = (s.extract p (p + m)).toList := by simpa using hq.symm
            have HT := Lib.hid (HR.out.trans (if_neg fun h => hq' (HS.out.2 (by rw [← HL.out]; exact h))))
            clear HR HS hwr hq hq'
            go_wp2
            go_roundw
            case rel => exact ⟨m + 1, by omega, by omega, by go_num, Lib.hid HT.out.symm, hb4⟩
            case measure => simp [intOf]; omega
          · have hq' : (strOfNums (bytesL x)).toList = (s.extract p (p + m)).toList := by simpa using hq.symm
            have HT := Lib.hid (HR.out.trans (if_pos (by rw [HL.out]; exact HS.out.1 hq')))
            clear HR HS hwr hq hq'
            by_cases u1 : 55296 ≤ x
            · by_cases u2 : x ≤ 57343
              · have HV := Lib.hid (HT.out.trans (if_pos ⟨u1, u2⟩))
                clear HT
                go_wp2
                go_ret2
                exact ⟨by rw [HV.out]; rfl, hb4⟩
              · have HV := Lib.hid (HT.out.trans (if_neg fun h => u2 h.2))
                clear HT
                go_wp2
                go_ret2
                exact ⟨by rw [HV.out]; rfl, hb4⟩
            · have HV := Lib.hid (HT.out.trans (if_neg fun h => u1 h.1))
              clear HT
              go_wp2
              go_ret2
              exact ⟨by rw [HV.out]; rfl, hb4⟩
      · have he : (x == y) = false := by simpa using hxy
        have HR' := Lib.hid (HR.out.trans (if_neg fun h => hxy h.1))
        clear HN H HR
        go_wp2
        go_quiet (fail)
        go_wp2
        go_roundw
        case rel => exact ⟨m + 1, by omega, by omega, by go_num, Lib.hid HR'.out.symm, hb2.trans (((Drew.refl _).drewN _).below _)⟩
        case measure => simp [intOf]; omega
    · have HR := Lib.hid (show readL l = (0, 0) by
        rw [← H.out]
        rcases Nat.lt_or_ge m 5 with h | h
        · rw [show 6 - m = (5 - m) + 1 from by omega, readF, if_neg (by omega)]
        · obtain rfl : m = 5 := by omega
          rw [show 6 - 5 = 0 + 1 from rfl, readF, if_neg (by omega)])
      clear H
      by_cases h4 : m ≤ 4
      · have h5 : ¬ ((p : Int) + m ≤ s.size) := by omega
        go_wp2
        go_ret2
        exact ⟨by rw [HR.out]; rfl, hb⟩
      · go_wp2
        go_ret2
        exact ⟨by rw [HR.out]; rfl, hb⟩
-- gimlet/gimletref02.All
set_option maxRecDepth 100000 in
set_option maxHeartbeats 4000000 in
theorem refAll_calls (s : ByteArray) (c d : Int) (w : World) (hs : s.size ≤ 140737488351232) :
    Calls Tryz.prog 41 #[.string s, .int .i64 c, .int .i64 d] w fun e w' => e = .returned (.bool (good c d (rs s) && val s 0)) ∧ Below w.heap.size w w' := by
  go_enter Tryz.func41, Tryz.ntmps41
  go_wp2
  go_loopw [7, 8] (fun v u wr => ∃ (pos : Nat) (b : Int), v = .int .i64 b ∧ u = .int .i64 pos ∧ pos ≤ s.size ∧ Hid ((good b d (rsAt s pos) && val s pos) = (good c d (rs s) && val s 0)) ∧ Below w.heap.size w wr) (fun _ u wr => s.size - (intOf u).toNat)
  case atStart => exact ⟨0, c, rfl, rfl, by omega, Lib.hid rfl, Below.refl _ _⟩
  case round =>
    obtain ⟨pos, b, rfl, rfl, hps, H, hb⟩ := hrel
    by_cases hp : pos < s.size
    · have HR := Lib.hid (readL_dec hp)
      have HN := Lib.hid (H.out.symm.trans (by rw [good_next hp, val_next hp]))
      have hwd : 1 ≤ (Utf8.decode s pos).2 ∧ (Utf8.decode s pos).2 ≤ s.size - pos := by
        have h1 := Lib.decodeL_le _ (drop_ne hp)
        rw [← dec_list, List.length_drop] at h1
        exact ⟨Lib.decode_width_pos s pos hp, h1⟩
      clear H
      go_wp2_with fail
      refine (read_calls s pos _ hs hp).mono ?_
      rintro e w1 ⟨rfl, hb1⟩
      have hb2 := hb.trans (hb1.mono hb.size)
      clear hb1
      by_cases hbad : (Utf8.decode s pos).1 = 65533 ∧ (Utf8.decode s pos).2 = 1
      · rw [HR.out, if_pos hbad]
        have HF := Lib.hid (HN.out.trans (by rw [if_pos hbad, Bool.and_false]))
        clear HR HN
        go_wp2
        go_ret
        exact ⟨by rw [HF.out]; rfl, hb2⟩
      · rw [HR.out, if_neg hbad]
        have HF := Lib.hid (HN.out.trans (by rw [if_neg hbad]))
        clear HR HN hbad
        obtain ⟨⟨r, k⟩, hrk⟩ : ∃ D, D = Utf8.decode s pos := ⟨_, rfl⟩
        rw [← hrk] at HF hwd
        rw [← hrk]
        simp only [] at HF hwd
        clear hrk
        have he : ((k : Int) == 0) = false := by simp; omega
        go_wp2_with fail
        refine (refIs_calls _ b r).mono ?_
        rintro e w2 ⟨rfl, hb3⟩
        have hb4 := hb2.trans (hb3.mono hb2.size)
        have hR : isF (cls b) (r : Int) = isR (cls b) r := is_same r (cls_rising b)
        rw [hR] at HF
        clear hb3 hR
        obtain ⟨q, hq⟩ : ∃ q, q = isR (cls b) (r : Int) := ⟨_, rfl⟩
        rw [← hq] at HF
        rw [← hq]
        clear hq
        cases q
        · have HE := Lib.hid (HF.out.trans (by rw [Bool.false_and, Bool.false_and]))
          clear HF
          go_wp2
          go_ret
          exact ⟨by rw [HE.out]; rfl, hb4⟩
        · have HE := Lib.hid (HF.out.trans (by rw [Bool.true_and]))
          clear HF
          go_wp2
          go_roundw
          case rel => exact ⟨pos + k, d, rfl, by go_num, by omega, Lib.hid HE.out.symm, hb4⟩
          case measure => simp [intOf]; omega
    · have HE := Lib.hid (H.out.symm.trans (by rw [good_end hp, val_end hp]))
      clear H
      go_wp2
      go_ret
      exact ⟨by rw [HE.out]; rfl, hb⟩
-- gimlet/gimletref02.Name
theorem refName_calls (s : ByteArray) (w : World) (hs : s.size ≤ 140737488351232) :
    Calls Tryz.prog 19 #[.string s] w fun e w' => e = .returned (.bool (nameB s)) ∧ Below w.heap.size w w' := by
  by_cases h0 : s = ⟨#[]⟩
  · subst h0
    go_enter Tryz.func19, Tryz.ntmps19
    go_wp2
    go_ret
    exact ⟨rfl, Below.refl _ _⟩
  · have h1 : ¬ s.toList = [] := list_ne h0
    have he : s.toList.isEmpty = false := by simp [h1]
    have h3 := Lib.hid (size_pos h0)
    clear h0
    go_enter Tryz.func19, Tryz.ntmps19
    go_wp2_with fail
    refine (refAll_calls s 2 3 _ hs).mono ?_
    rintro e w1 ⟨rfl, hb⟩
    go_wp2
    go_ret
    exact ⟨by rw [nameB, decide_eq_true h3.out, Bool.and_true]; rfl, hb⟩
-- gimlet/gimletref02.Texts
theorem refTexts_calls (s : ByteArray) (w : World) (hs : s.size ≤ 140737488351232) :
    Calls Tryz.prog 21 #[.string s] w fun e w' => e = .returned (.bool (textsB s)) ∧ Below w.heap.size w w' := by
  go_enter Tryz.func21, Tryz.ntmps21
  go_wp2_with fail
  refine (refAll_calls s 0 0 _ hs).mono ?_
  rintro e w1 ⟨rfl, hb⟩
  go_wp2
  go_ret
  exact ⟨by rw [textsB]; rfl, hb⟩
end Go.Proofs.YtkhejkfjhddobaaGreatDoor

