/- The walks of gimletref01.Mend, MendParts, Byte, Put. -/
import Derived.Test.YtfmpnfgegcgcaaaDoorFormWalk
import Derived.Test.YtfmpnfgegcgcaaaDoorPlacesLaw
namespace Gim
open Go Go.Lib Go.RowKit
theorem str_encs (X : List Int) : strOfNums (bz (encs X)) = runesBytes X := by
  rw [show bz (encs X) = (encs X).map fun b => (b.toNat : Int) from rfl, Lz.strOfNums_map, ← runesBytes_list]
theorem enc_back {v : Int} (h : Ch v) : encodeRune v = enc v := by
  unfold encodeRune
  rw [z_enc h]
  unfold bz
  rw [List.map_map]
  conv => rhs; rw [← List.map_id (enc v)]
  refine List.map_congr_left fun x _ => ?_
  simp
/-- the bytes of a character that is there -/
theorem whole_bytes {t : List Int} (hb : ∀ x ∈ t, 0 ≤ x ∧ x ≤ 255) (hl : 1 ≤ t.length) (hok : ¬ ((decB t).1 = 65533 ∧ (decB t).2 ≤ 1)) : t.take (decB t).2 = bz (enc (decB t).1) := by
  have hu : unb t ≠ [] := by
    intro h
    have ht : t = [] := by simpa [unb] using h
    rw [ht] at hl
    simp at hl
  have hd : decB t = decodeL (unb t) := by rw [← decB_bz hu, bz_unb hb]
  have hs := decB_shape t hl (bn_lt hb)
  have he := encode_decode (unb t) hu (by rw [← hd]; exact fun k => hok ⟨k.1, by omega⟩)
  rw [← hd, enc_back hs.1] at he
  rw [he]
  have h2 := bz_unb hb
  unfold bz at h2 ⊢
  rw [List.map_take, h2]
end Gim
namespace Go.Proofs.YtfmpnfgegcgcaaaDoor
open Go.RowKit Gim
set_option maxRecDepth 20000 in
set_option maxHeartbeats 4000000 in
theorem refPut_calls (w : World) (ao : Option Addr) (n cap : Nat) (xs : List Int) (h : Rd w .u8 ao n cap xs) (hnone : ao = none → n = 0 ∧ cap = 0) (r : Int) (hn : n ≤ 140737488351232) :
    Calls Tryd.prog 42 #[.slice ao n cap, .int .i64 r] w (GivesForm w (xs ++ Lib.encodeRuneZ r)) := by
  have hch := fix_ch r
  have hfx := z_fix r
  have HL := Lib.hid h.len
  have hzl := Lib.encodeRuneZ_length (fixR r)
  obtain ⟨Q, hQ⟩ : ∃ Q, Q = GivesForm w (xs ++ Lib.encodeRuneZ r) := ⟨_, rfl⟩
  have HQ := Lib.hid hQ
  rw [← hQ]
  clear hQ
  by_cases hc : r < 0 ∨ 1114111 < r ∨ (55296 ≤ r ∧ r ≤ 57343)
  · have hf : fixR r = ((65533 : Nat) : Int) := by unfold fixR; rw [if_pos hc]; rfl
    rw [hf] at hfx hzl
    have cF := fun wx => form_calls wx 65533 (by unfold Ch; omega)
    obtain ⟨zs, hzs⟩ : ∃ zs, zs = Lib.encodeRuneZ ((65533 : Nat) : Int) := ⟨_, rfl⟩
    rw [← hzs] at hfx hzl
    have HFX := Lib.hid hfx
    have cN := form_none w r hc
    have cF' : ∀ wx, Calls Tryd.prog 68 #[.int .i64 65533] wx (GivesForm wx zs) := fun wx => hzs ▸ cF wx
    clear hzs
    go_enter Tryd.func42, Tryd.ntmps42
    go_wp2_with fail
    refine cN.mono ?_
    rintro e w1 ⟨rfl, rfl⟩
    go_wp2_with fail
    refine (cF' _).mono ?_
    rintro e w2 ⟨v, rfl, hrow, hb⟩
    obtain ⟨a2, c2, rfl, rd2, hn2⟩ := hrow.rd2
    obtain ⟨L, hL⟩ : ∃ L, L = zs.length := ⟨_, rfl⟩
    rw [← hL] at rd2 hn2 hzl ⊢
    clear hL cF'
    clear cF cN hc hf hfx hch
    go_wp2_with (first
      | (at_builtin; refine append_rd _ rfl _ _ rfl w2.heap.size _ [] rfl (row_empty w2 _ _ _ (Nat.le_refl _)) ao n cap xs rfl ((h.below hb).below ((Below.refl _ _).alloc (Nat.le_refl _) _)) hnone (by simp; omega) (by simp) ?_; intro v3 w3 hrow3 hgrow3; rw [List.nil_append] at hrow3)
      | (at_builtin; refine append_rd _ rfl _ _ rfl w2.heap.size _ xs rfl hrow3 _ _ _ _ rfl (rd2.below (((Below.refl _ _).alloc (Nat.le_refl _) _).grown hgrow3 (by simp) (fun j hj => ((row_empty w2 5 .u8 w2.heap.size (Nat.le_refl _)).lt j hj).1))) hn2 (by rw [HL.out]; omega) (Nat.le_trans (by simp) hgrow3.size) ?_; intro v4 w4 hrow4 hgrow4))
    rw [HQ.out, HFX.out]
    have hb3 : Below w2.heap.size w2 w3 := ((Below.refl _ _).alloc (Nat.le_refl _) _).grown hgrow3 (by simp) (fun j hj => ((row_empty w2 5 .u8 w2.heap.size (Nat.le_refl _)).lt j hj).1)
    have hb4 : Below w2.heap.size w2 w4 := hb3.grown hgrow4 hb3.size (fun j hj => (hrow3.lt j hj).1)
    exact ⟨v4, rfl, hrow4.mono hb.size, hb.trans (hb4.mono hb.size)⟩
  · have hf : fixR r = r := by unfold fixR; rw [if_neg hc]
    rw [hf] at hch hzl
    obtain ⟨m, rfl⟩ := Int.eq_ofNat_of_zero_le (show 0 ≤ r by omega)
    have cF := form_calls w m hch
    go_enter Tryd.func42, Tryd.ntmps42
    go_wp2_with fail
    refine cF.mono ?_
    rintro e w2 ⟨v, rfl, hrow, hb⟩
    obtain ⟨a2, c2, rfl, rd2, hn2⟩ := hrow.rd2
    obtain ⟨L, hL⟩ : ∃ L, L = (Lib.encodeRuneZ m).length := ⟨_, rfl⟩
    rw [← hL] at rd2 hn2 hzl ⊢
    have hLd : ((L : Int) == 0) = false := by simp; omega
    clear cF hc hf hfx hch hL
    go_wp2_with (first
      | (at_builtin; refine append_rd _ rfl _ _ rfl w2.heap.size _ [] rfl (row_empty w2 _ _ _ (Nat.le_refl _)) ao n cap xs rfl ((h.below hb).below ((Below.refl _ _).alloc (Nat.le_refl _) _)) hnone (by simp; omega) (by simp) ?_; intro v3 w3 hrow3 hgrow3; rw [List.nil_append] at hrow3)
      | (at_builtin; refine append_rd _ rfl _ _ rfl w2.heap.size _ xs rfl hrow3 _ _ _ _ rfl (rd2.below (((Below.refl _ _).alloc (Nat.le_refl _) _).grown hgrow3 (by simp) (fun j hj => ((row_empty w2 5 .u8 w2.heap.size (Nat.le_refl _)).lt j hj).1))) hn2 (by rw [HL.out]; omega) (Nat.le_trans (by simp) hgrow3.size) ?_; intro v4 w4 hrow4 hgrow4))
    rw [HQ.out]
    have hb3 : Below w2.heap.size w2 w3 := ((Below.refl _ _).alloc (Nat.le_refl _) _).grown hgrow3 (by simp) (fun j hj => ((row_empty w2 5 .u8 w2.heap.size (Nat.le_refl _)).lt j hj).1)
    have hb4 : Below w2.heap.size w2 w4 := hb3.grown hgrow4 hb3.size (fun j hj => (hrow3.lt j hj).1)
    exact ⟨v4, rfl, hrow4.mono hb.size, hb.trans (hb4.mono hb.size)⟩
set_option maxRecDepth 20000 in
set_option maxHeartbeats 4000000 in
theorem refByte_calls (w : World) (s : ByteArray) (i : Int) (hs : s.size ≤ 1099511627770) (hi0 : -9223372036854775808 ≤ i) (hi1 : i ≤ 9223372036854775807) :
    Calls Tryd.prog 40 #[.string s, .int .i64 i] w fun e w' => e = .returned (.tuple #[.int .i64 (byteB s i).1, .int .i64 (byteB s i).2]) ∧ Below w.heap.size w w' := by
  obtain ⟨cs, hcs⟩ : ∃ cs, cs = chB (bz s.data.toList) := ⟨_, rfl⟩
  have hB : byteB s i = if 0 ≤ i ∧ i < cs.length then ((((cs[i.toNat]?.map (·.1)).getD 0), 0) : Int × Int) else if i = cs.length then ((s.size : Int), 0) else (0, 2) := by
    unfold byteB
    rw [prAt_ch_eq s, ← hcs, List.length_map, List.getElem?_map]
    by_cases h : 0 ≤ i ∧ i < cs.length
    · rw [if_pos h, if_pos h]
      have hinv := chB_inv (bz_by s.data.toList)
      rw [← hcs] at hinv
      have hc : cs[i.toNat]? = some (cs[i.toNat]'(by omega)) := List.getElem?_eq_getElem _
      have h0 := (hinv _ (List.getElem_mem (by omega : i.toNat < cs.length))).at0
      rw [hc]
      simp only [Option.map_some, Option.getD_some, Prod.mk.injEq, and_true]
      omega
    · rw [if_neg h, if_neg h]
  obtain ⟨F, hF⟩ : ∃ F, F = byteB s i := ⟨_, rfl⟩
  rw [← hF] at hB ⊢
  have HB := Lib.hid hB
  clear hF hB
  have hcv : ∀ wx : World, (convert 9 34 (.string s)).run Tryd.prog wx = _ := fun wx => run_bytes_of_string wx 9 34 5 s Tryd.underlying9 Tryd.underlying34 Tryd.underlying5
  have hge := grownCap_ge w s.size 0 5
  have hrb := rb_str w s 5 (grownCap w s.size 0 5) ((bytesRow s (grownCap w s.size 0 5)).size, (bytesRow s (grownCap w s.size 0 5)).size + 1) hge (grownCap_le_maxLen _ _ _ _ (by unfold maxLen; omega))
  have hcl := chB_length (bz s.data.toList)
  rw [← hcs, bz_length] at hcl
  replace hcl : cs.length ≤ s.size := hcl
  have HCS := Lib.hid hcs
  clear hcs
  go_enter Tryd.func40, Tryd.ntmps40
  go_wp2_with fail
  obtain ⟨cap, hcap⟩ : ∃ cap, cap = grownCap w s.size 0 5 := ⟨_, rfl⟩
  rw [← hcap] at hrb hge ⊢
  obtain ⟨wb, hwb⟩ : ∃ wb, wb = (w.alloc (.cells (bytesRow s cap) 5 ((bytesRow s cap).size, (bytesRow s cap).size + 1))).drew := ⟨_, rfl⟩
  have hb0 : Below w.heap.size w wb := by rw [hwb]; exact ((Below.refl _ _).alloc (Nat.le_refl _) _).trans (((Drew.refl _).drewN 1).below _)
  rw [← hwb] at hrb ⊢
  clear hwb hcap hcv
  have cC := chars_calls wb _ _ _ _ hrb (bz_by _) hs
  rw [← HCS.out] at cC
  refine cC.mono ?_
  rintro e w1 ⟨v, rfl, hrow, hb1⟩
  obtain ⟨a1, c1, rfl, rd⟩ := hrow.rd
  have hbw := hb0.trans (hb1.mono hb0.size)
  obtain ⟨l, hl⟩ : ∃ l, l = cs.length := ⟨_, rfl⟩
  have HL := Lib.hid hl
  rw [← hl] at rd hcl HB ⊢
  clear cC hrow hb0 hb1 hrb hge hl
  by_cases h1 : 0 ≤ i ∧ i < l
  · have HE := Lib.hid (HB.out.trans (if_pos h1))
    obtain ⟨h10, h11⟩ := h1
    obtain ⟨m, rfl⟩ := Int.eq_ofNat_of_zero_le h10
    have hm : m < l := by omega
    have hci : cs[m]? = some (cs[m]'(by rw [← HL.out]; exact hm)) := List.getElem?_eq_getElem _
    obtain ⟨c, hc⟩ : ∃ c, c = cs[m]'(by rw [← HL.out]; exact hm) := ⟨_, rfl⟩
    rw [← hc] at hci
    obtain ⟨g, rfl, _, hg, hcell⟩ := rd.cell (by omega)
    have k0 := (hcell m c hci).1
    have HE2 := Lib.hid (HE.out.trans (by rw [Int.toNat_natCast, hci]; rfl) : F = (c.1, 0))
    have hmd : ((m : Int) == (l : Int)) = false := by simp; omega
    clear hci hc hcell HE HB
    go_wp2
    (try simp only [Exit.inBlock, Exit.then]); refine bodyPost_ret (results_tmp2 rfl _ _ _) rfl ?_
    exact ⟨by rw [HE2.out]; rfl, hbw⟩
  · by_cases h2 : i = l
    · have HE := Lib.hid (HB.out.trans (by rw [if_neg h1, if_pos h2]) : F = ((s.size : Int), 0))
      subst h2
      clear HB h1
      go_wp2
      (try simp only [Exit.inBlock, Exit.then]); refine bodyPost_ret (results_tmp2 rfl _ _ _) rfl ?_
      exact ⟨by rw [HE.out]; rfl, hbw⟩
    · have HE := Lib.hid (HB.out.trans (by rw [if_neg h1, if_neg h2]) : F = (0, 2))
      have h3 : i < 0 ∨ (l : Int) < i := by omega
      clear HB h1 h2
      rcases h3 with h3 | h3
      all_goals
        go_wp2
        (try simp only [Exit.inBlock, Exit.then]); refine bodyPost_ret (results_tmp2 rfl _ _ _) rfl ?_
        exact ⟨by rw [HE.out]; rfl, hbw⟩
end Go.Proofs.YtfmpnfgegcgcaaaDoor
