/- Places add up over pieces: plain. -/
import Derived.Test.YtpkdbfnnbbkkiaaDoorOrdA
import Derived.Test.YtpkdbfnnbbkkiaaDoorAt2Walk
import Derived.Lib.LazyBuf
namespace Gim
open Go
theorem bz_append (a b : List UInt8) : bz (a ++ b) = bz a ++ bz b := by simp [bz]
theorem encs_append (a b : List Int) : encs (a ++ b) = encs a ++ encs b := by simp [encs]
theorem encs_cons (a : Int) (b : List Int) : encs (a :: b) = enc a ++ encs b := by simp [encs]
/-- the places of these characters from p on -/
def placed : Nat → List Int → List (Nat × Int)
  | _, [] => []
  | p, r :: l => (p, r) :: placed (p + (enc r).length) l
theorem prAt_encs : ∀ {l : List Int}, (∀ r ∈ l, Ch r) → ∀ {s : ByteArray} {p : Nat}, s.data.toList.drop p = encs l → prAt s p = placed p l
  | [], _, s, p, h => by
    have hp : ¬ p < s.size := by
      intro hp
      have := List.drop_eq_nil_iff.1 h
      have := Lib.size_eq s
      omega
    exact prAt_end hp
  | r :: l, hl, s, p, h => by
    have hr := hl r List.mem_cons_self
    have h' : s.data.toList.drop p = enc r ++ encs l := h
    have hlen := enc_len hr
    have hp : p < s.size := by
      have h1 := congrArg List.length h'
      have := Lib.size_eq s
      simp at h1
      omega
    have hd : Utf8.decode s p = (r.toNat, (enc r).length) := by rw [← Lib.decodeL_drop, h', dec_enc hr]
    have ht : s.data.toList.drop (p + (enc r).length) = encs l := by rw [← List.drop_drop, h', List.drop_left]
    have i1 := prAt_encs (fun x hx => hl x (List.mem_cons_of_mem _ hx)) ht
    have hr0 : 0 ≤ r := by unfold Ch at hr; omega
    rw [prAt_next hp, hd, i1, placed]; simp; omega
theorem placed_length : ∀ (l : List Int) (p : Nat), (placed p l).length = l.length
  | [], _ => rfl
  | r :: l, p => by simp [placed, placed_length l]
theorem placed_app : ∀ (X Y : List Int) (p : Nat), placed p (X ++ Y) = placed p X ++ placed (p + (encs X).length) Y
  | [], Y, p => by simp [placed, encs]
  | r :: X, Y, p => by simp [placed, placed_app X Y, encs_cons, Nat.add_assoc]
/-- does a line end here? -/
def endC (r : Int) (nx : Option Int) : Bool := decide (r = 10) || (decide (r = 13) && !(nx == some 10))
def stepC (s : Int × Int × Int) (e : Bool) : Int × Int × Int := (s.1 + 1, if e then s.2.1 + 1 else s.2.1, if e then 1 else s.2.2 + 1)
def fC : List Int → Option Int → Int × Int × Int → Int × Int × Int
  | [], _, st => st
  | r :: l, tl, st => fC l tl (stepC st (endC r (l.head?.or tl)))
theorem fC_app : ∀ (X Y : List Int) (tl : Option Int) (st : Int × Int × Int), fC (X ++ Y) tl st = fC Y tl (fC X (Y.head?.or tl) st)
  | [], _, _, _ => rfl
  | r :: X, Y, tl, st => by simp only [List.cons_append, fC, fC_app X Y, List.head?_append, Option.or_assoc]
theorem fC_count : ∀ (l : List Int) (tl : Option Int) (st : Int × Int × Int), (fC l tl st).1 = st.1 + l.length
  | [], _, _ => by simp [fC]
  | r :: l, tl, st => by rw [fC, fC_count l]; simp [stepC]; omega
def addP (P s : Int × Int × Int) : Int × Int × Int := (P.1 + s.1, P.2.1 + s.2.1 - 1, if s.2.1 = 1 then P.2.2 + s.2.2 - 1 else s.2.2)
theorem addP_zero (P : Int × Int × Int) : addP P (0, 1, 1) = P := by obtain ⟨a, b, c⟩ := P; simp [addP]
theorem stepC_add (P s : Int × Int × Int) (e : Bool) (h : 1 ≤ s.2.1) : stepC (addP P s) e = addP P (stepC s e) ∧ 1 ≤ (stepC s e).2.1 := by
  obtain ⟨a, b, c⟩ := P
  obtain ⟨u, v, z⟩ := s
  simp only [] at h
  cases e
  · simp only [stepC, addP, Bool.false_eq_true, if_false, Prod.mk.injEq]
    refine ⟨⟨by omega, trivial, ?_⟩, h⟩
    split <;> omega
  · simp only [stepC, addP, if_true, Prod.mk.injEq]
    refine ⟨⟨by omega, by omega, ?_⟩, by omega⟩
    rw [if_neg (by omega)]
theorem fC_shift : ∀ (l : List Int) (tl : Option Int) (P s : Int × Int × Int), 1 ≤ s.2.1 → fC l tl (addP P s) = addP P (fC l tl s)
  | [], _, _, _, _ => rfl
  | r :: l, tl, P, s, h => by
    have hs := stepC_add P s (endC r (l.head?.or tl)) h
    rw [fC, fC, hs.1, fC_shift l tl P _ hs.2]
theorem u8_10 {m : Nat} (hm : m < 256) : ((UInt8.ofNat m).toNat : Int) = m := by rw [UInt8.toNat_ofNat']; omega
theorem enc_first {c : Int} (h : Ch c) : ∃ b t, enc c = b :: t ∧ (((b.toNat : Int) = 10) ↔ c = 10) := by
  obtain ⟨n, rfl, ⟨_, e⟩ | ⟨_, _, e⟩ | ⟨_, _, e⟩ | ⟨_, _, e⟩⟩ := enc_cases h <;> refine ⟨_, _, e, ?_⟩ <;> rw [u8_10 (by omega)] <;> omega
theorem lineEnd_enc {xs : List Int} {p : Nat} {r : Int} {m : List Int} (hp : p ≤ xs.length) (h : xs.drop p = bz (encs (r :: m))) (hc : ∀ x ∈ r :: m, Ch x) : lineEnd xs p r = endC r m.head? := by
  unfold lineEnd endC
  by_cases h10 : r = 10
  · simp [h10]
  by_cases h13 : r = 13
  · subst h13
    have e13 : enc 13 = [13] := by decide
    have hd : xs.drop (p + 1) = bz (encs m) := by
      rw [← List.drop_drop, h, encs_cons, e13]; simp [bz]
    have hl := congrArg List.length hd
    rw [List.length_drop] at hl
    cases m with
    | nil =>
      have hn : ¬ p + 1 < xs.length := by simp [encs, bz] at hl; omega
      simp [hn]
    | cons c m =>
      obtain ⟨b, t, he, hb⟩ := enc_first (hc c (by simp))
      rw [encs_cons, he] at hd hl
      have hn : p + 1 < xs.length := by simp [bz] at hl; omega
      have hg : gt xs (p + 1) = (b.toNat : Int) := by
        have h0 := congrArg (fun l => gt l 0) hd
        rw [drop_gt hn] at h0
        simpa [gt, bz] using h0
      rw [hg]
      have hq : (c == 10) = decide (c = 10) := rfl
      simp [hn, hb, hq]
  · simp [h10, h13]
theorem fold_fC {xs : List Int} : ∀ (l l2 : List Int) (p : Nat) (st : Int × Int × Int), (∀ x ∈ l ++ l2, Ch x) → p ≤ xs.length → xs.drop p = bz (encs (l ++ l2)) → (placed p l).foldl (stepP xs) st = fC l l2.head? st
  | [], _, _, _, _, _, _ => rfl
  | r :: l, l2, p, st, hc, hp, h => by
    have hle := lineEnd_enc hp h hc
    have hl := congrArg List.length h
    have h2 : xs.drop (p + (enc r).length) = bz (encs (l ++ l2)) := by
      rw [← List.drop_drop, h, List.cons_append, encs_cons, bz_append, show (enc r).length = (bz (enc r)).length by simp [bz], List.drop_left]
    have hp2 : p + (enc r).length ≤ xs.length := by
      rw [List.length_drop, List.cons_append, encs_cons] at hl; simp [bz] at hl; omega
    rw [placed, List.foldl_cons, fold_fC l l2 _ _ (fun x hx => hc x (List.mem_cons_of_mem _ hx)) hp2 h2, fC]
    congr 1
    have hh : (l.append l2).head? = l.head?.or l2.head? := List.head?_append
    unfold stepP stepC
    simp only [hle, hh]
theorem placeB_encs {xs : List Int} (X Y : List Int) (hc : ∀ x ∈ X ++ Y, Ch x) (h : xs = bz (encs (X ++ Y))) : placeB xs (encs X).length = fC X Y.head? (0, 1, 1) := by
  have hs : (strOfNums (xs.take (encs X).length)).data.toList.drop 0 = encs X := by
    rw [h, encs_append, bz_append, show (encs X).length = (bz (encs X)).length by simp [bz], List.take_left]
    rw [show bz (encs X) = (encs X).map fun b => (b.toNat : Int) from rfl, Lib.Lz.strOfNums_map, List.drop_zero]
  unfold placeB
  rw [prAt_encs (fun r hr => hc r (List.mem_append_left _ hr)) hs]
  exact fold_fC X Y 0 _ hc (by omega) (by rw [List.drop_zero, h])
/-- what Byte answers -/
def byteB (s : ByteArray) (i : Int) : Int × Int :=
  if 0 ≤ i ∧ i < (prAt s 0).length then (((prAt s 0)[i.toNat]?.map (·.1)).getD 0, 0) else if i = (prAt s 0).length then (s.size, 0) else (0, 2)
theorem byteB_encs {U : ByteArray} (X Y : List Int) (hc : ∀ x ∈ X ++ Y, Ch x) (h : U.data.toList = encs (X ++ Y)) : byteB U X.length = (((encs X).length : Int), 0) := by
  have hp := prAt_encs (s := U) (p := 0) hc (by rw [List.drop_zero, h])
  have hz := Lib.size_eq U
  unfold byteB
  rw [hp, placed_length, placed_app, List.length_append]
  cases Y with
  | nil => 
    rw [if_neg (by simp), if_pos (by simp)]
    rw [h] at hz; simp at hz
    simp [hz]
  | cons y Y =>
    rw [if_pos (by simp; omega)]
    rw [Int.toNat_natCast, List.getElem?_append_right (by rw [placed_length]; omega), placed_length]
    simp [placed]
/-- the law: two texts of characters -/
structure Adds (X Y : List Int) (P Q R : Int × Int × Int) : Prop where
  count : Q.1 = P.1 + R.1
  pc : P.1 = X.length
  line : Q.2.1 = P.2.1 + R.2.1 - 1
  one : R.2.1 = 1 → Q.2.2 = P.2.2 + R.2.2 - 1
  more : R.2.1 ≠ 1 → Q.2.2 = R.2.2
theorem adds (X Y : List Int) (hX : ∀ x ∈ X, Ch x) (hY : ∀ x ∈ Y, Ch x) :
    Adds X Y (placeB (bz (encs (X ++ Y))) (encs X).length) (placeB (bz (encs (X ++ Y))) (encs (X ++ Y)).length) (placeB (bz (encs Y)) (encs Y).length) := by
  have hXY : ∀ x ∈ X ++ Y, Ch x := fun x hx => (List.mem_append.1 hx).elim (hX x) (hY x)
  have hP := placeB_encs (xs := bz (encs (X ++ Y))) X Y hXY rfl
  have hQ := placeB_encs (xs := bz (encs (X ++ Y))) (X ++ Y) [] (by simpa using hXY) (by rw [List.append_nil])
  have hR := placeB_encs (xs := bz (encs Y)) Y [] (by simpa using hY) (by rw [List.append_nil])
  rw [hP, hQ, hR, fC_app]
  have hs := fC_shift Y none (fC X Y.head? (0, 1, 1)) (0, 1, 1) (by decide)
  rw [addP_zero] at hs
  simp only [List.head?_nil, Option.or_none]
  rw [hs]
  refine ⟨rfl, ?_, rfl, fun h => ?_, fun h => ?_⟩
  · rw [fC_count]; simp
  · simp only [addP]; rw [if_pos h]
  · simp only [addP]; rw [if_neg h]
theorem placeB_bounds (xs : List Int) (m : Nat) : 0 ≤ (placeB xs m).1 ∧ (placeB xs m).1 ≤ xs.length ∧ 1 ≤ (placeB xs m).2.1 ∧ (placeB xs m).2.1 ≤ xs.length + 1 ∧ 1 ≤ (placeB xs m).2.2 ∧ (placeB xs m).2.2 ≤ xs.length + 1 := by
  have h := fold_bounds xs (prAt (strOfNums (xs.take m)) 0) (0, 1, 1) 0 (by decide) (by decide) (by decide) (by decide) (by decide) (by decide)
  have h2 := prAt_length (strOfNums (xs.take m)) 0
  rw [strOfNums_size, List.length_take] at h2
  unfold placeB
  omega
end Gim
