/- The walk of gimletlaw16.HuntOnce. -/
import Derived.Test.YtgajinnbmnnccaaHuntTwo
namespace Go.Proofs.Ytgajinnbmnnccaa
open Go.RowKit Gim
theorem rowMono {w : World} {B B' : Nat} {e : TypeId} {k : IntKind} {v : Value} {xs : List Int} (h : Row w B e k v xs) (hB : B' ≤ B) : Row w B' e k v xs := by
  unfold Row World.ownsRow at *
  refine ⟨h.1, ?_⟩
  rcases h.2 with h2 | ⟨g, cap, cur, h1, h2, h3⟩
  · exact .inl h2
  · exact .inr ⟨g, cap, cur, h1, Nat.le_trans hB h2, h3⟩
theorem rowRd {w : World} {B : Nat} {e : TypeId} {k : IntKind} {la : Option Addr} {n lc : Nat} {xs : List Int} (h : Row w B e k (.slice la n lc) xs) : Rd w k la n lc xs := by
  obtain ⟨ao, cap, he, hr⟩ := h.rd
  injection he with h1 h2 h3
  subst h1 h2 h3
  exact hr
theorem rowDrew {w : World} {B : Nat} {e : TypeId} {k : IntKind} {v : Value} {xs : List Int} (h : Row w B e k v xs) (m : Nat) : Row (w.drewN m) B e k v xs := h
theorem encs_len : ∀ {l : List Int}, (∀ r ∈ l, Ch r) → (encs l).length ≤ 4 * l.length
  | [], _ => by simp [encs]
  | a :: l, h => by
    have h1 := enc_len (h a List.mem_cons_self)
    have h2 := encs_len (fun r hr => h r (List.mem_cons_of_mem _ hr))
    rw [encs_cons, List.length_append, List.length_cons]
    omega
theorem piece_ok {L : List Int} (h : ∀ r ∈ L, Ch r) (p k : Nat) : rs (runesBytes ((L.drop p).take k)) = (L.drop p).take k ∧ (runesBytes ((L.drop p).take k)).size ≤ 4 * k := by
  have hc : ∀ r ∈ (L.drop p).take k, Ch r := fun r hr => h r (List.mem_of_mem_drop (List.mem_of_mem_take hr))
  refine ⟨rs_text hc, ?_⟩
  have h1 := encs_len hc
  rw [← runesBytes_list] at h1
  have h2 : ((L.drop p).take k).length ≤ k := by simp; omega
  have h3 : (runesBytes ((L.drop p).take k)).data.toList.length = (runesBytes ((L.drop p).take k)).size := rfl
  omega
/-- two Hunts that know nothing of each other -/
structure Duo (w0 w : World) (H G : Nat) (c : Int) (N : Nat) (T : List Int) (tv bv tv2 bv2 : Value) (l m : List Int) (wl wm : Bool) : Prop where
  h : St w (H + 1) H c N T tv bv l wl
  g : St w (G + 1) G c N T tv2 bv2 m wm
  lt : w0.heap.size ≤ H ∧ H < G ∧ G < w.heap.size
  tl : ∀ j, tv.ownBlock = some j → j < G
  bl : ∀ j, bv.ownBlock = some j → j < G
  below : Below w0.heap.size w0 w
theorem Duo.first {w0 w w' : World} {H G : Nat} {c : Int} {N : Nat} {T : List Int} {tv bv tv2 bv2 : Value} {l m l2 : List Int} {wl wm wl2 : Bool} {e : Ending} {v : Value} (d : Duo w0 w H G c N T tv bv tv2 bv2 l m wl wm) (t : Adds w (H + 1) H c N T tv bv l2 wl2 v e w') :
    Duo w0 w' H G c N T tv bv tv2 bv2 l2 m wl2 wm :=
  ⟨t.2.2, d.g.fr t.2.1 (fun e => by have := d.lt; omega) (fun g hg e => by have := d.lt; omega), by have := d.lt; have := t.2.1.size; omega, d.tl, d.bl, d.below.trans (t.2.1.below d.below.size (fun j e => by have := d.lt; omega))⟩
theorem Duo.second {w0 w w' : World} {H G : Nat} {c : Int} {N : Nat} {T : List Int} {tv bv tv2 bv2 : Value} {l m m2 : List Int} {wl wm wm2 : Bool} {e : Ending} {v : Value} (d : Duo w0 w H G c N T tv bv tv2 bv2 l m wl wm) (t : Adds w (G + 1) G c N T tv2 bv2 m2 wm2 v e w') :
    Duo w0 w' H G c N T tv bv tv2 bv2 l m2 wl wm2 :=
  ⟨d.h.frv t.2.1 (fun e => by have := d.lt; omega) (fun j hj e => by have := d.tl j hj; omega) (fun j hj e => by have := d.bl j hj; omega), t.2.2, by have := d.lt; have := t.2.1.size; omega, d.tl, d.bl, d.below.trans (t.2.1.below d.below.size (fun j e => by have := d.lt; omega))⟩
theorem Duo.fresh {w0 w w' : World} {H G : Nat} {c : Int} {N : Nat} {T : List Int} {tv bv tv2 bv2 : Value} {l m : List Int} {wl wm : Bool} (d : Duo w0 w H G c N T tv bv tv2 bv2 l m wl wm) (b : Below w.heap.size w w') :
    Duo w0 w' H G c N T tv bv tv2 bv2 l m wl wm :=
  ⟨d.h.below b, d.g.below b, by have := d.lt; have := b.size; omega, d.tl, d.bl, d.below.trans (b.mono d.below.size)⟩
theorem Duo.drewN {w0 w : World} {H G : Nat} {c : Int} {N : Nat} {T : List Int} {tv bv tv2 bv2 : Value} {l m : List Int} {wl wm : Bool} (d : Duo w0 w H G c N T tv bv tv2 bv2 l m wl wm) (n : Nat) :
    Duo w0 (w.drewN n) H G c N T tv bv tv2 bv2 l m wl wm := d.fresh (below_drewN (Below.refl _ _) n)
set_option maxRecDepth 100000 in
set_option maxHeartbeats 4000000 in
theorem huntOnceWalk (c0 n0 : Int) (s text : ByteArray) (ao : Option Addr) (nc cap : Nat) (cs : List Int) (w : World) (hn : n0 ≤ 9223372036854775807) (hs : s.size ≤ 1048576) (ht : text.size ≤ 1048576) (hcs : Rd w .i64 ao nc cap cs) (hnc : nc ≤ 1048576) :
    Calls Try.prog 4 #[.agg #[.int .i64 c0, .string s, .int .i64 n0], .string text, .slice ao nc cap] w fun e w' => e = .returned (.bool true) ∧ Below w.heap.size w w' := by
  have hA : ∀ w, Calls Try.prog 13 #[.agg #[.int .i64 c0, .string s, .int .i64 n0]] w (AskedOK w c0 n0.toNat s) := fun w => asked_calls c0 n0 s hn (by omega) w
  go_enter Try.func4, Try.ntmps4
  go_wp2_with fail
  refine (awake _).mono ?_
  rintro e w1 ⟨rfl, b1⟩
  have x0 : w1.heap[w.heap.size]? = some (Obj.cells #[.int .i64 c0, .string s, .int .i64 n0] 23) := (b1.block _ (by simp)).trans (heap_alloc_new w _)
  have b0 : Below w.heap.size w w1 := ((Below.refl _ _).alloc (Nat.le_refl _) _).trans (b1.mono (by simp))
  clear b1
  have hz1 := (Array.getElem?_eq_some_iff.1 x0).1
  have y0 : w1.cell? ⟨w.heap.size, 0, none⟩ = some (.int .i64 c0) := by simp [World.cell?, x0]
  have y1 : w1.cell? ⟨w.heap.size, 1, none⟩ = some (.string s) := by simp [World.cell?, x0]
  have y2 : w1.cell? ⟨w.heap.size, 2, none⟩ = some (.int .i64 n0) := by simp [World.cell?, x0]
  go_wp2_with fail
  refine (hA _).mono ?_
  rintro e w2 ⟨H, tv, bv, rfl, hH, s2, b2⟩
  have x2 := (b2.block _ hz1).trans x0
  have hz2 := (Array.getElem?_eq_some_iff.1 x2).1
  have c02 := b0.trans (b2.mono b0.size)
  clear y0 y1 y2
  have y0 : w2.cell? ⟨w.heap.size, 0, none⟩ = some (.int .i64 c0) := by simp [World.cell?, x2]
  have y1 : w2.cell? ⟨w.heap.size, 1, none⟩ = some (.string s) := by simp [World.cell?, x2]
  have y2 : w2.cell? ⟨w.heap.size, 2, none⟩ = some (.int .i64 n0) := by simp [World.cell?, x2]
  go_wp2_with fail
  refine (hA _).mono ?_
  rintro e w3 ⟨G, tv2, bv2, rfl, hG, s3, b3⟩
  obtain ⟨N, hN⟩ : ∃ N, N = n0.toNat := ⟨_, rfl⟩
  rw [← hN] at s2 s3
  obtain ⟨c, hc⟩ : ∃ c, c = c0 % 9 := ⟨_, rfl⟩
  have h0 : 0 ≤ c := by rw [hc]; exact Int.emod_nonneg _ (by decide)
  have h8 : c ≤ 8 := by have := Int.emod_lt_of_pos c0 (show (0:Int) < 9 by decide); omega
  rw [← hc] at s2 s3
  have dd : Duo w w3 H G c N (askedT c s) tv bv tv2 bv2 [] [] false false :=
    ⟨s2.below b3, s3, ⟨by have := b0.size; omega, by have := s2.lts.1; omega, s3.lts.1⟩, fun j hj => by have := (s2.lts.2.1 j hj).2; omega, fun j hj => by have := (s2.lts.2.2 j hj).2; omega, c02.trans (b3.mono c02.size)⟩
  clear hA hc hN s2 s3 b2 b3 b0 x0 x2 y0 y1 y2 c02 hH hG hz1 hz2
  go_wp2_with fail
  refine (add_calls _ _ _ _ _ _ _ _ _ text dd.g (askedT_fl _ _) (by simp; omega)).mono ?_
  rintro e w4 ha
  obtain rfl := ha.1
  have dd := dd.second ha
  have hG4 : G + 1 ≤ w4.heap.size := by have := dd.lt; omega
  rw [List.nil_append] at dd
  clear ha
  go_wp2_with fail
  refine (runes_calls text w4 (by omega)).mono ?_
  rintro e w5 ⟨v, rfl, hr, b5⟩
  have dd := dd.fresh b5
  obtain ⟨la, lc, rfl, rl⟩ := hr.rd
  obtain ⟨n, hn2⟩ : ∃ n, Hid (n = (rs text).length) := ⟨_, rfl⟩
  have hr : Row w5 (G + 1) 21 .i32 (.slice la (rs text).length lc) (rs text) := rowMono hr hG4
  have rl5 := rl
  rw [← hn2.out] at rl hr
  rw [← hn2.out]
  obtain ⟨T, hT⟩ : ∃ T, Hid (T = askedT c s) := ⟨_, rfl⟩
  have hfl : ¬ (1 ≤ c ∧ c ≤ 5) → T = [] := by rw [hT.out]; exact askedT_fl _ _
  rw [← hT.out] at dd
  have hnle : n ≤ 1048576 := by have := rs_length text; rw [hn2.out]; omega
  have hch : Hid (∀ r ∈ rs text, Ch r) := rs_ch text
  obtain ⟨L, hL⟩ : ∃ L, Hid (L = rs text) := ⟨_, rfl⟩
  rw [← hL.out] at dd rl hr hn2 hch
  clear rl5 b5 hG4
  go_wp2_with fail
  go_loopw [12,13,14] (fun u1 u2 u3 wr => ∃ (kn : Int) (p i : Nat) (l : List Int), u1 = .int .i64 kn ∧ u2 = .int .i64 p ∧ u3 = .int .i64 i ∧ p ≤ n ∧ i ≤ nc + 1 ∧ (i = nc + 1 → p = n) ∧ Hid (kn ≠ 1 → tB c N T l false = kn) ∧ Hid (l = L.take p ∧ l.length ≤ 1048576 + 4 * p) ∧ Duo w wr H G c N T tv bv tv2 bv2 l L false false ∧ Row wr (G + 1) 21 .i32 (.slice la n lc) L) (fun _ u2 u3 _ => (n - (intOf u2).toNat) + (nc - (intOf u3).toNat))
  case atStart => exact ⟨1, 0, 0, [], rfl, rfl, rfl, by omega, by omega, by omega, fun h => absurd rfl h, ⟨rfl, by simp⟩, dd, hr⟩
  case round =>
--ROUND
    obtain ⟨kn, p, i, l, rfl, rfl, rfl, hp, hi, hip, HK, HL, dd, hr⟩ := hrel
    by_cases hpn : p < n
    · obtain ⟨t, hT0⟩ : ∃ t, Hid (t = tB c N T l false) := ⟨_, rfl⟩
      have HT : Hid (∀ w, St w (H + 1) H c N T tv bv l false → Calls Try.prog 12 #[.pointer (some ⟨H, 0, none⟩)] w fun e w' => e = .returned (.int .i64 t) ∧ ∃ m, w' = w.drewN m) := fun w h => by rw [hT0.out]; exact h.truth h0 h8
      have HM : ∀ m : List Int, Hid (t ≠ 1 → tB c N T (l ++ m) false = t) := fun m h => by rw [hT0.out] at h ⊢; exact tB_mono m false h
      by_cases hin : i < nc
      · obtain ⟨b, o, rfl, hbb, hcell⟩ := hcs.cell i hin
        have hcw := (dd.below.cell (p := ⟨b, o + i, none⟩) hbb).trans (hcell i hin)
        obtain ⟨z, hz⟩ : ∃ z, Hid (z = gt cs i) := ⟨_, rfl⟩
        rw [← hz.out] at hcw
        obtain ⟨k, hk, hkn⟩ : ∃ k : Nat, z % ((n : Int) - p + 1) = k ∧ p + k ≤ n := by
          have h1 := Int.emod_nonneg z (show (n : Int) - p + 1 ≠ 0 by omega)
          have h2 := Int.emod_lt_of_pos z (show 0 < (n : Int) - p + 1 by omega)
          exact ⟨(z % ((n : Int) - p + 1)).toNat, by omega, by omega⟩
        have HP : Hid (rs (runesBytes ((L.drop p).take k)) = (L.drop p).take k ∧ (runesBytes ((L.drop p).take k)).size ≤ 4 * k) := piece_ok hch.out p k
        have HM := HM ((L.drop p).take k)
        have hI : ∀ w, Calls Try.prog 15 #[.int .i64 z, .int .i64 ((n : Int) - p + 1)] w fun e w' => e = .returned (.int .i64 k) ∧ w' = w := fun w => by
          have := into_calls z ((n : Int) - p + 1) (by omega) (by omega) w
          rwa [hk] at this
        clear hk
        go_wp2_with fail
        refine (hI _).mono ?_
        rintro e w9 ⟨rfl, rfl⟩
        have rd := rowRd hr
        have hlc := rd.le
        have hlp : ¬ lc = p := by omega
        by_cases hk1 : kn = 1
        · subst hk1
          go_wp2_with fail
          refine ((HT.out _ dd.h)).mono ?_
          rintro e w6 ⟨rfl, m6, rfl⟩
          go_wp2_with fail
          have rp := ((rd.drewN m6).drop hp).take (show k ≤ n - p by omega)
          rw [if_neg hlp] at rp
          refine (join_calls _ _ _ _ _ rp).mono ?_
          rintro e w7 ⟨rfl, rfl⟩
          go_wp2_with fail
          have dd := dd.drewN m6
          have hr := rowDrew hr m6
          refine (add_calls _ _ _ _ _ _ _ _ _ (runesBytes ((L.drop p).take k)) dd.h hfl (by have := HP.out.2; have := HL.out.2; omega)).mono ?_
          rintro e w8 ha
          obtain rfl := ha.1
          rw [HP.out.1] at ha
          have HX : Hid (l ++ (L.drop p).take k = L.take (p + k) ∧ (l ++ (L.drop p).take k).length ≤ 1048576 + 4 * (p + k)) := ⟨by rw [HL.out.1, List.take_add], by have := HP.out.2; have := HL.out.2; simp; omega⟩
          have hr := hr.fr ha.2.1 (fun g hg e => by have := dd.lt; omega)
          have dd := dd.first ha
          clear ha HP HL HK
          have q1 : ((p : Int) + k ≤ 9223372036854775807) ∧ -9223372036854775808 ≤ (p : Int) + k ∧ (i : Int) + 1 ≤ 9223372036854775807 ∧ -9223372036854775808 ≤ (i : Int) + 1 := by omega
          obtain ⟨q1, q2, q3, q4⟩ := q1
          have HN := Lib.hid (⟨hp, hi, hip, hnle, hnc, hkn⟩ : _ ∧ _ ∧ _ ∧ _ ∧ _ ∧ _)
          clear hnle hs ht hnc hp hi hip hkn
          go_wp2
          go_roundw
          case rel => obtain ⟨hp, hi, hip, hnle, hnc, hkn⟩ := HN.out; exact ⟨_, p + k, i + 1, l ++ (L.drop p).take k, rfl, by refine congrArg (Value.int .i64) ?_; omega, by refine congrArg (Value.int .i64) ?_; omega, by omega, by omega, by omega, HM, HX, dd, hr⟩
          case measure => obtain ⟨hp, hi, hip, hnle, hnc, hkn⟩ := HN.out; simp [intOf]; omega
        · obtain rfl : kn = t := by rw [hT0.out]; exact (HK.out hk1).symm
          have hk2 : (kn == 1) = false := beq_eq_false_iff_ne.2 hk1
          have hk3 : (kn != 1) = true := by simp [bne, hk2]
          go_wp2_with fail
          refine ((HT.out _ dd.h)).mono ?_
          rintro e w6 ⟨rfl, m6, rfl⟩
          go_wp2_with fail
          refine ((HT.out _ (dd.drewN _).h)).mono ?_
          rintro e w6 ⟨rfl, m7, rfl⟩
          go_wp2_with fail
          have rp := ((rd.drewN (m6 + m7)).drop hp).take (show k ≤ n - p by omega)
          rw [if_neg hlp] at rp
          refine (join_calls _ _ _ _ _ rp).mono ?_
          rintro e w7 ⟨rfl, rfl⟩
          go_wp2_with fail
          have dd := dd.drewN (m6 + m7)
          have hr := rowDrew hr (m6 + m7)
          refine (add_calls _ _ _ _ _ _ _ _ _ (runesBytes ((L.drop p).take k)) dd.h hfl (by have := HP.out.2; have := HL.out.2; omega)).mono ?_
          rintro e w8 ha
          obtain rfl := ha.1
          rw [HP.out.1] at ha
          have HX : Hid (l ++ (L.drop p).take k = L.take (p + k) ∧ (l ++ (L.drop p).take k).length ≤ 1048576 + 4 * (p + k)) := ⟨by rw [HL.out.1, List.take_add], by have := HP.out.2; have := HL.out.2; simp; omega⟩
          have hr := hr.fr ha.2.1 (fun g hg e => by have := dd.lt; omega)
          have dd := dd.first ha
          clear ha HP HL HK
          have q1 : ((p : Int) + k ≤ 9223372036854775807) ∧ -9223372036854775808 ≤ (p : Int) + k ∧ (i : Int) + 1 ≤ 9223372036854775807 ∧ -9223372036854775808 ≤ (i : Int) + 1 := by omega
          obtain ⟨q1, q2, q3, q4⟩ := q1
          have HN := Lib.hid (⟨hp, hi, hip, hnle, hnc, hkn⟩ : _ ∧ _ ∧ _ ∧ _ ∧ _ ∧ _)
          clear hnle hs ht hnc hp hi hip hkn
          go_wp2
          go_roundw
          case rel => obtain ⟨hp, hi, hip, hnle, hnc, hkn⟩ := HN.out; exact ⟨_, p + k, i + 1, l ++ (L.drop p).take k, rfl, by refine congrArg (Value.int .i64) ?_; omega, by refine congrArg (Value.int .i64) ?_; omega, by omega, by omega, by omega, HM, HX, dd, hr⟩
          case measure => obtain ⟨hp, hi, hip, hnle, hnc, hkn⟩ := HN.out; simp [intOf]; omega
        
      · have HP : Hid (rs (runesBytes ((L.drop p).take (n - p))) = (L.drop p).take (n - p) ∧ (runesBytes ((L.drop p).take (n - p))).size ≤ 4 * (n - p)) := piece_ok hch.out p (n - p)
        have HM := HM ((L.drop p).take (n - p))
        have hkn : p + (n - p) ≤ n := by omega
        have rd := rowRd hr
        have hlc := rd.le
        have hlp : ¬ lc = p := by omega
        by_cases hk1 : kn = 1
        · subst hk1
          go_wp2_with fail
          refine ((HT.out _ dd.h)).mono ?_
          rintro e w6 ⟨rfl, m6, rfl⟩
          go_wp2_with fail
          have rp := ((rd.drewN m6).drop hp).take (show (n - p) ≤ n - p by omega)
          rw [if_neg hlp] at rp
          refine (join_calls _ _ _ _ _ rp).mono ?_
          rintro e w7 ⟨rfl, rfl⟩
          go_wp2_with fail
          have dd := dd.drewN m6
          have hr := rowDrew hr m6
          refine (add_calls _ _ _ _ _ _ _ _ _ (runesBytes ((L.drop p).take (n - p))) dd.h hfl (by have := HP.out.2; have := HL.out.2; omega)).mono ?_
          rintro e w8 ha
          obtain rfl := ha.1
          rw [HP.out.1] at ha
          have HX : Hid (l ++ (L.drop p).take (n - p) = L.take (p + (n - p)) ∧ (l ++ (L.drop p).take (n - p)).length ≤ 1048576 + 4 * (p + (n - p))) := ⟨by rw [HL.out.1, List.take_add], by have := HP.out.2; have := HL.out.2; simp; omega⟩
          have hr := hr.fr ha.2.1 (fun g hg e => by have := dd.lt; omega)
          have dd := dd.first ha
          clear ha HP HL HK
          have q1 : ((p : Int) + (n - p) ≤ 9223372036854775807) ∧ -9223372036854775808 ≤ (p : Int) + (n - p) ∧ (i : Int) + 1 ≤ 9223372036854775807 ∧ -9223372036854775808 ≤ (i : Int) + 1 := by omega
          obtain ⟨q1, q2, q3, q4⟩ := q1
          have HN := Lib.hid (⟨hp, hi, hip, hnle, hnc, hkn⟩ : _ ∧ _ ∧ _ ∧ _ ∧ _ ∧ _)
          clear hnle hs ht hnc hp hi hip hkn
          go_wp2
          go_roundw
          case rel => obtain ⟨hp, hi, hip, hnle, hnc, hkn⟩ := HN.out; exact ⟨_, p + (n - p), i + 1, l ++ (L.drop p).take (n - p), rfl, by refine congrArg (Value.int .i64) ?_; omega, by refine congrArg (Value.int .i64) ?_; omega, by omega, by omega, by omega, HM, HX, dd, hr⟩
          case measure => obtain ⟨hp, hi, hip, hnle, hnc, hkn⟩ := HN.out; simp [intOf]; omega
        · obtain rfl : kn = t := by rw [hT0.out]; exact (HK.out hk1).symm
          have hk2 : (kn == 1) = false := beq_eq_false_iff_ne.2 hk1
          have hk3 : (kn != 1) = true := by simp [bne, hk2]
          go_wp2_with fail
          refine ((HT.out _ dd.h)).mono ?_
          rintro e w6 ⟨rfl, m6, rfl⟩
          go_wp2_with fail
          refine ((HT.out _ (dd.drewN _).h)).mono ?_
          rintro e w6 ⟨rfl, m7, rfl⟩
          go_wp2_with fail
          have rp := ((rd.drewN (m6 + m7)).drop hp).take (show (n - p) ≤ n - p by omega)
          rw [if_neg hlp] at rp
          refine (join_calls _ _ _ _ _ rp).mono ?_
          rintro e w7 ⟨rfl, rfl⟩
          go_wp2_with fail
          have dd := dd.drewN (m6 + m7)
          have hr := rowDrew hr (m6 + m7)
          refine (add_calls _ _ _ _ _ _ _ _ _ (runesBytes ((L.drop p).take (n - p))) dd.h hfl (by have := HP.out.2; have := HL.out.2; omega)).mono ?_
          rintro e w8 ha
          obtain rfl := ha.1
          rw [HP.out.1] at ha
          have HX : Hid (l ++ (L.drop p).take (n - p) = L.take (p + (n - p)) ∧ (l ++ (L.drop p).take (n - p)).length ≤ 1048576 + 4 * (p + (n - p))) := ⟨by rw [HL.out.1, List.take_add], by have := HP.out.2; have := HL.out.2; simp; omega⟩
          have hr := hr.fr ha.2.1 (fun g hg e => by have := dd.lt; omega)
          have dd := dd.first ha
          clear ha HP HL HK
          have q1 : ((p : Int) + (n - p) ≤ 9223372036854775807) ∧ -9223372036854775808 ≤ (p : Int) + (n - p) ∧ (i : Int) + 1 ≤ 9223372036854775807 ∧ -9223372036854775808 ≤ (i : Int) + 1 := by omega
          obtain ⟨q1, q2, q3, q4⟩ := q1
          have HN := Lib.hid (⟨hp, hi, hip, hnle, hnc, hkn⟩ : _ ∧ _ ∧ _ ∧ _ ∧ _ ∧ _)
          clear hnle hs ht hnc hp hi hip hkn
          go_wp2
          go_roundw
          case rel => obtain ⟨hp, hi, hip, hnle, hnc, hkn⟩ := HN.out; exact ⟨_, p + (n - p), i + 1, l ++ (L.drop p).take (n - p), rfl, by refine congrArg (Value.int .i64) ?_; omega, by refine congrArg (Value.int .i64) ?_; omega, by omega, by omega, by omega, HM, HX, dd, hr⟩
          case measure => obtain ⟨hp, hi, hip, hnle, hnc, hkn⟩ := HN.out; simp [intOf]; omega
        
    · obtain rfl : p = n := by omega
      obtain rfl : l = L := by rw [HL.out.1, hn2.out, List.take_length]
      obtain ⟨t, hT0⟩ : ∃ t, Hid (t = tB c N T l false) := ⟨_, rfl⟩
      obtain ⟨u, hU0⟩ : ∃ u, Hid (u = tB c N T l true) := ⟨_, rfl⟩
      have HO : Hid (∀ {w B H tv bv}, St w B H c N T tv bv l false → Calls Try.prog 12 #[.pointer (some ⟨H, 0, none⟩)] w fun e w' => e = .returned (.int .i64 t) ∧ ∃ m, w' = w.drewN m) := fun h => by rw [hT0.out]; exact h.truth h0 h8
      have HC : Hid (∀ {w B H tv bv}, St w B H c N T tv bv l true → Calls Try.prog 12 #[.pointer (some ⟨H, 0, none⟩)] w fun e w' => e = .returned (.int .i64 u) ∧ ∃ m, w' = w.drewN m) := fun h => by rw [hU0.out]; exact h.truth h0 h8
      have hall : (kn = 1 ∧ t = 1 ∧ u = 0) ∨ (kn = 1 ∧ t = 1 ∧ u = 2) ∨ (kn = 1 ∧ t = 0 ∧ u = 0) ∨ (kn = 1 ∧ t = 2 ∧ u = 2) ∨ (kn = 0 ∧ t = 0 ∧ u = 0) ∨ (kn = 2 ∧ t = 2 ∧ u = 2) := by
        have g1 := tB_range c N T l false
        have g2 := tB_whole c N T l
        have g3 : t ≠ 1 → u = t := fun h => by
          rw [hT0.out] at h ⊢
          have := tB_mono [] true h
          rw [List.append_nil] at this
          rw [hU0.out, this]
        have g4 : kn ≠ 1 → kn = t := fun h => by rw [hT0.out]; exact (HK.out h).symm
        rw [← hT0.out] at g1
        rw [← hU0.out] at g2
        by_cases q : kn = 1 <;> by_cases q2 : t = 1 <;> omega
      clear HK HL hn2 hT0 hU0 hr rl hcs
      obtain ⟨rfl, rfl, rfl⟩ | ⟨rfl, rfl, rfl⟩ | ⟨rfl, rfl, rfl⟩ | ⟨rfl, rfl, rfl⟩ | ⟨rfl, rfl, rfl⟩ | ⟨rfl, rfl, rfl⟩ := hall
      · skip
        go_wp2_with fail
        first | refine (HO.out dd.h).mono ?_ | refine (HO.out (dd.drewN _).h).mono ?_
        rintro e w6 ⟨rfl, m0, rfl⟩
        go_wp2_with fail
        first | refine (HO.out dd.g).mono ?_ | refine (HO.out (dd.drewN _).g).mono ?_
        rintro e w6 ⟨rfl, m1, rfl⟩
        go_wp2_with fail
        first | refine (HO.out dd.g).mono ?_ | refine (HO.out (dd.drewN _).g).mono ?_
        rintro e w6 ⟨rfl, m2, rfl⟩
        go_wp2_with fail
        first | refine (dd.h.close).mono ?_ | refine ((dd.drewN _).h.close).mono ?_
        rintro e w8 ha
        obtain rfl := ha.1
        first | (have dd := dd.first ha) | (have dd := (dd.drewN _).first ha)
        clear ha
        go_wp2_with fail
        first | refine (dd.g.close).mono ?_ | refine ((dd.drewN _).g.close).mono ?_
        rintro e w8 ha
        obtain rfl := ha.1
        first | (have dd := dd.second ha) | (have dd := (dd.drewN _).second ha)
        clear ha
        go_wp2_with fail
        first | refine (HC.out dd.h).mono ?_ | refine (HC.out (dd.drewN _).h).mono ?_
        rintro e w6 ⟨rfl, m0, rfl⟩
        go_wp2_with fail
        first | refine (HC.out dd.g).mono ?_ | refine (HC.out (dd.drewN _).g).mono ?_
        rintro e w6 ⟨rfl, m1, rfl⟩
        go_wp2_with fail
        first | refine (HC.out dd.h).mono ?_ | refine (HC.out (dd.drewN _).h).mono ?_
        rintro e w6 ⟨rfl, m2, rfl⟩
        go_wp2_with fail
        refine (ended_calls _ (dd.drewN _).h).mono ?_
        rintro e w9 ⟨rfl, rfl⟩
        go_wp2_with fail
        first | refine (dd.h.close).mono ?_ | refine ((dd.drewN _).h.close).mono ?_
        rintro e w8 ha
        obtain rfl := ha.1
        first | (have dd := dd.first ha) | (have dd := (dd.drewN _).first ha)
        clear ha
        go_wp2_with fail
        first | refine (HC.out dd.h).mono ?_ | refine (HC.out (dd.drewN _).h).mono ?_
        rintro e w6 ⟨rfl, m0, rfl⟩
        go_wp2_with fail
        first | refine (HC.out dd.g).mono ?_ | refine (HC.out (dd.drewN _).g).mono ?_
        rintro e w6 ⟨rfl, m1, rfl⟩
        go_wp2
        go_ret
        exact ⟨rfl, (dd.drewN _).below⟩
      · skip
        go_wp2_with fail
        first | refine (HO.out dd.h).mono ?_ | refine (HO.out (dd.drewN _).h).mono ?_
        rintro e w6 ⟨rfl, m0, rfl⟩
        go_wp2_with fail
        first | refine (HO.out dd.g).mono ?_ | refine (HO.out (dd.drewN _).g).mono ?_
        rintro e w6 ⟨rfl, m1, rfl⟩
        go_wp2_with fail
        first | refine (HO.out dd.g).mono ?_ | refine (HO.out (dd.drewN _).g).mono ?_
        rintro e w6 ⟨rfl, m2, rfl⟩
        go_wp2_with fail
        first | refine (dd.h.close).mono ?_ | refine ((dd.drewN _).h.close).mono ?_
        rintro e w8 ha
        obtain rfl := ha.1
        first | (have dd := dd.first ha) | (have dd := (dd.drewN _).first ha)
        clear ha
        go_wp2_with fail
        first | refine (dd.g.close).mono ?_ | refine ((dd.drewN _).g.close).mono ?_
        rintro e w8 ha
        obtain rfl := ha.1
        first | (have dd := dd.second ha) | (have dd := (dd.drewN _).second ha)
        clear ha
        go_wp2_with fail
        first | refine (HC.out dd.h).mono ?_ | refine (HC.out (dd.drewN _).h).mono ?_
        rintro e w6 ⟨rfl, m0, rfl⟩
        go_wp2_with fail
        first | refine (HC.out dd.g).mono ?_ | refine (HC.out (dd.drewN _).g).mono ?_
        rintro e w6 ⟨rfl, m1, rfl⟩
        go_wp2_with fail
        first | refine (HC.out dd.h).mono ?_ | refine (HC.out (dd.drewN _).h).mono ?_
        rintro e w6 ⟨rfl, m2, rfl⟩
        go_wp2_with fail
        refine (ended_calls _ (dd.drewN _).h).mono ?_
        rintro e w9 ⟨rfl, rfl⟩
        go_wp2_with fail
        first | refine (dd.h.close).mono ?_ | refine ((dd.drewN _).h.close).mono ?_
        rintro e w8 ha
        obtain rfl := ha.1
        first | (have dd := dd.first ha) | (have dd := (dd.drewN _).first ha)
        clear ha
        go_wp2_with fail
        first | refine (HC.out dd.h).mono ?_ | refine (HC.out (dd.drewN _).h).mono ?_
        rintro e w6 ⟨rfl, m0, rfl⟩
        go_wp2_with fail
        first | refine (HC.out dd.g).mono ?_ | refine (HC.out (dd.drewN _).g).mono ?_
        rintro e w6 ⟨rfl, m1, rfl⟩
        go_wp2
        go_ret
        exact ⟨rfl, (dd.drewN _).below⟩
      · skip
        go_wp2_with fail
        first | refine (HO.out dd.h).mono ?_ | refine (HO.out (dd.drewN _).h).mono ?_
        rintro e w6 ⟨rfl, m0, rfl⟩
        go_wp2_with fail
        first | refine (HO.out dd.g).mono ?_ | refine (HO.out (dd.drewN _).g).mono ?_
        rintro e w6 ⟨rfl, m1, rfl⟩
        go_wp2_with fail
        first | refine (HO.out dd.g).mono ?_ | refine (HO.out (dd.drewN _).g).mono ?_
        rintro e w6 ⟨rfl, m2, rfl⟩
        go_wp2_with fail
        first | refine (dd.h.close).mono ?_ | refine ((dd.drewN _).h.close).mono ?_
        rintro e w8 ha
        obtain rfl := ha.1
        first | (have dd := dd.first ha) | (have dd := (dd.drewN _).first ha)
        clear ha
        go_wp2_with fail
        first | refine (dd.g.close).mono ?_ | refine ((dd.drewN _).g.close).mono ?_
        rintro e w8 ha
        obtain rfl := ha.1
        first | (have dd := dd.second ha) | (have dd := (dd.drewN _).second ha)
        clear ha
        go_wp2_with fail
        first | refine (HC.out dd.h).mono ?_ | refine (HC.out (dd.drewN _).h).mono ?_
        rintro e w6 ⟨rfl, m0, rfl⟩
        go_wp2_with fail
        first | refine (HC.out dd.g).mono ?_ | refine (HC.out (dd.drewN _).g).mono ?_
        rintro e w6 ⟨rfl, m1, rfl⟩
        go_wp2_with fail
        first | refine (HC.out dd.h).mono ?_ | refine (HC.out (dd.drewN _).h).mono ?_
        rintro e w6 ⟨rfl, m2, rfl⟩
        go_wp2_with fail
        first | refine (HC.out dd.g).mono ?_ | refine (HC.out (dd.drewN _).g).mono ?_
        rintro e w6 ⟨rfl, m3, rfl⟩
        go_wp2_with fail
        refine (ended_calls _ (dd.drewN _).h).mono ?_
        rintro e w9 ⟨rfl, rfl⟩
        go_wp2_with fail
        first | refine (dd.h.close).mono ?_ | refine ((dd.drewN _).h.close).mono ?_
        rintro e w8 ha
        obtain rfl := ha.1
        first | (have dd := dd.first ha) | (have dd := (dd.drewN _).first ha)
        clear ha
        go_wp2_with fail
        first | refine (HC.out dd.h).mono ?_ | refine (HC.out (dd.drewN _).h).mono ?_
        rintro e w6 ⟨rfl, m0, rfl⟩
        go_wp2_with fail
        first | refine (HC.out dd.g).mono ?_ | refine (HC.out (dd.drewN _).g).mono ?_
        rintro e w6 ⟨rfl, m1, rfl⟩
        go_wp2
        go_ret
        exact ⟨rfl, (dd.drewN _).below⟩
      · skip
        go_wp2_with fail
        first | refine (HO.out dd.h).mono ?_ | refine (HO.out (dd.drewN _).h).mono ?_
        rintro e w6 ⟨rfl, m0, rfl⟩
        go_wp2_with fail
        first | refine (HO.out dd.g).mono ?_ | refine (HO.out (dd.drewN _).g).mono ?_
        rintro e w6 ⟨rfl, m1, rfl⟩
        go_wp2_with fail
        first | refine (HO.out dd.g).mono ?_ | refine (HO.out (dd.drewN _).g).mono ?_
        rintro e w6 ⟨rfl, m2, rfl⟩
        go_wp2_with fail
        first | refine (dd.h.close).mono ?_ | refine ((dd.drewN _).h.close).mono ?_
        rintro e w8 ha
        obtain rfl := ha.1
        first | (have dd := dd.first ha) | (have dd := (dd.drewN _).first ha)
        clear ha
        go_wp2_with fail
        first | refine (dd.g.close).mono ?_ | refine ((dd.drewN _).g.close).mono ?_
        rintro e w8 ha
        obtain rfl := ha.1
        first | (have dd := dd.second ha) | (have dd := (dd.drewN _).second ha)
        clear ha
        go_wp2_with fail
        first | refine (HC.out dd.h).mono ?_ | refine (HC.out (dd.drewN _).h).mono ?_
        rintro e w6 ⟨rfl, m0, rfl⟩
        go_wp2_with fail
        first | refine (HC.out dd.g).mono ?_ | refine (HC.out (dd.drewN _).g).mono ?_
        rintro e w6 ⟨rfl, m1, rfl⟩
        go_wp2_with fail
        first | refine (HC.out dd.h).mono ?_ | refine (HC.out (dd.drewN _).h).mono ?_
        rintro e w6 ⟨rfl, m2, rfl⟩
        go_wp2_with fail
        first | refine (HC.out dd.g).mono ?_ | refine (HC.out (dd.drewN _).g).mono ?_
        rintro e w6 ⟨rfl, m3, rfl⟩
        go_wp2_with fail
        refine (ended_calls _ (dd.drewN _).h).mono ?_
        rintro e w9 ⟨rfl, rfl⟩
        go_wp2_with fail
        first | refine (dd.h.close).mono ?_ | refine ((dd.drewN _).h.close).mono ?_
        rintro e w8 ha
        obtain rfl := ha.1
        first | (have dd := dd.first ha) | (have dd := (dd.drewN _).first ha)
        clear ha
        go_wp2_with fail
        first | refine (HC.out dd.h).mono ?_ | refine (HC.out (dd.drewN _).h).mono ?_
        rintro e w6 ⟨rfl, m0, rfl⟩
        go_wp2_with fail
        first | refine (HC.out dd.g).mono ?_ | refine (HC.out (dd.drewN _).g).mono ?_
        rintro e w6 ⟨rfl, m1, rfl⟩
        go_wp2
        go_ret
        exact ⟨rfl, (dd.drewN _).below⟩
      · skip
        go_wp2_with fail
        first | refine (HO.out dd.h).mono ?_ | refine (HO.out (dd.drewN _).h).mono ?_
        rintro e w6 ⟨rfl, m0, rfl⟩
        go_wp2_with fail
        first | refine (HO.out dd.h).mono ?_ | refine (HO.out (dd.drewN _).h).mono ?_
        rintro e w6 ⟨rfl, m1, rfl⟩
        go_wp2_with fail
        first | refine (HO.out dd.g).mono ?_ | refine (HO.out (dd.drewN _).g).mono ?_
        rintro e w6 ⟨rfl, m2, rfl⟩
        go_wp2_with fail
        first | refine (HO.out dd.g).mono ?_ | refine (HO.out (dd.drewN _).g).mono ?_
        rintro e w6 ⟨rfl, m3, rfl⟩
        go_wp2_with fail
        first | refine (dd.h.close).mono ?_ | refine ((dd.drewN _).h.close).mono ?_
        rintro e w8 ha
        obtain rfl := ha.1
        first | (have dd := dd.first ha) | (have dd := (dd.drewN _).first ha)
        clear ha
        go_wp2_with fail
        first | refine (dd.g.close).mono ?_ | refine ((dd.drewN _).g.close).mono ?_
        rintro e w8 ha
        obtain rfl := ha.1
        first | (have dd := dd.second ha) | (have dd := (dd.drewN _).second ha)
        clear ha
        go_wp2_with fail
        first | refine (HC.out dd.h).mono ?_ | refine (HC.out (dd.drewN _).h).mono ?_
        rintro e w6 ⟨rfl, m0, rfl⟩
        go_wp2_with fail
        first | refine (HC.out dd.g).mono ?_ | refine (HC.out (dd.drewN _).g).mono ?_
        rintro e w6 ⟨rfl, m1, rfl⟩
        go_wp2_with fail
        first | refine (HC.out dd.h).mono ?_ | refine (HC.out (dd.drewN _).h).mono ?_
        rintro e w6 ⟨rfl, m2, rfl⟩
        go_wp2_with fail
        first | refine (HC.out dd.g).mono ?_ | refine (HC.out (dd.drewN _).g).mono ?_
        rintro e w6 ⟨rfl, m3, rfl⟩
        go_wp2_with fail
        refine (ended_calls _ (dd.drewN _).h).mono ?_
        rintro e w9 ⟨rfl, rfl⟩
        go_wp2_with fail
        first | refine (dd.h.close).mono ?_ | refine ((dd.drewN _).h.close).mono ?_
        rintro e w8 ha
        obtain rfl := ha.1
        first | (have dd := dd.first ha) | (have dd := (dd.drewN _).first ha)
        clear ha
        go_wp2_with fail
        first | refine (HC.out dd.h).mono ?_ | refine (HC.out (dd.drewN _).h).mono ?_
        rintro e w6 ⟨rfl, m0, rfl⟩
        go_wp2_with fail
        first | refine (HC.out dd.g).mono ?_ | refine (HC.out (dd.drewN _).g).mono ?_
        rintro e w6 ⟨rfl, m1, rfl⟩
        go_wp2
        go_ret
        exact ⟨rfl, (dd.drewN _).below⟩
      · skip
        go_wp2_with fail
        first | refine (HO.out dd.h).mono ?_ | refine (HO.out (dd.drewN _).h).mono ?_
        rintro e w6 ⟨rfl, m0, rfl⟩
        go_wp2_with fail
        first | refine (HO.out dd.h).mono ?_ | refine (HO.out (dd.drewN _).h).mono ?_
        rintro e w6 ⟨rfl, m1, rfl⟩
        go_wp2_with fail
        first | refine (HO.out dd.g).mono ?_ | refine (HO.out (dd.drewN _).g).mono ?_
        rintro e w6 ⟨rfl, m2, rfl⟩
        go_wp2_with fail
        first | refine (HO.out dd.g).mono ?_ | refine (HO.out (dd.drewN _).g).mono ?_
        rintro e w6 ⟨rfl, m3, rfl⟩
        go_wp2_with fail
        first | refine (dd.h.close).mono ?_ | refine ((dd.drewN _).h.close).mono ?_
        rintro e w8 ha
        obtain rfl := ha.1
        first | (have dd := dd.first ha) | (have dd := (dd.drewN _).first ha)
        clear ha
        go_wp2_with fail
        first | refine (dd.g.close).mono ?_ | refine ((dd.drewN _).g.close).mono ?_
        rintro e w8 ha
        obtain rfl := ha.1
        first | (have dd := dd.second ha) | (have dd := (dd.drewN _).second ha)
        clear ha
        go_wp2_with fail
        first | refine (HC.out dd.h).mono ?_ | refine (HC.out (dd.drewN _).h).mono ?_
        rintro e w6 ⟨rfl, m0, rfl⟩
        go_wp2_with fail
        first | refine (HC.out dd.g).mono ?_ | refine (HC.out (dd.drewN _).g).mono ?_
        rintro e w6 ⟨rfl, m1, rfl⟩
        go_wp2_with fail
        first | refine (HC.out dd.h).mono ?_ | refine (HC.out (dd.drewN _).h).mono ?_
        rintro e w6 ⟨rfl, m2, rfl⟩
        go_wp2_with fail
        first | refine (HC.out dd.g).mono ?_ | refine (HC.out (dd.drewN _).g).mono ?_
        rintro e w6 ⟨rfl, m3, rfl⟩
        go_wp2_with fail
        refine (ended_calls _ (dd.drewN _).h).mono ?_
        rintro e w9 ⟨rfl, rfl⟩
        go_wp2_with fail
        first | refine (dd.h.close).mono ?_ | refine ((dd.drewN _).h.close).mono ?_
        rintro e w8 ha
        obtain rfl := ha.1
        first | (have dd := dd.first ha) | (have dd := (dd.drewN _).first ha)
        clear ha
        go_wp2_with fail
        first | refine (HC.out dd.h).mono ?_ | refine (HC.out (dd.drewN _).h).mono ?_
        rintro e w6 ⟨rfl, m0, rfl⟩
        go_wp2_with fail
        first | refine (HC.out dd.g).mono ?_ | refine (HC.out (dd.drewN _).g).mono ?_
        rintro e w6 ⟨rfl, m1, rfl⟩
        go_wp2
        go_ret
        exact ⟨rfl, (dd.drewN _).below⟩
theorem huntOnce_walk (c0 : Int) (s : ByteArray) (n0 : Int) (text : ByteArray) (ao : Option Addr) (nc cap : Nat) (cs : List Int) (w : World) (_ : (Lit.int .i64 c0).wf = true) (hs : s.size ≤ 1048576) (hn : (Lit.int .i64 n0).wf = true) (ht : text.size ≤ 1048576)
    (hcs : Rd w .i64 ao nc cap cs) (_ : ao = none → nc = 0 ∧ cap = 0) (_ : ∀ x ∈ cs, (Lit.int .i64 x).wf = true) (hnc : nc ≤ 1048576) :
    Calls Try.prog 4 #[.agg #[.int .i64 c0, .string s, .int .i64 n0], .string text, .slice ao nc cap] w fun e w' => e = .returned (.bool true) ∧ Below w.heap.size w w' :=
  huntOnceWalk c0 n0 s text ao nc cap cs w (by have h : -9223372036854775808 ≤ n0 ∧ n0 ≤ 9223372036854775807 := by simpa [Lit.wf, IntKind.min, IntKind.max, IntKind.signed, IntKind.bits] using hn
                                               exact h.2) hs ht hcs hnc
end Go.Proofs.Ytgajinnbmnnccaa
