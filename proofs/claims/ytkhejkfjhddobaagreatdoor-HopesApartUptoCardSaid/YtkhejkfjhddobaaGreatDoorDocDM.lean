/- What is known of a document that streams by, as the document reckons it: plain functions of its nodes. -/
import Derived.Test.YtkhejkfjhddobaaGreatDoorHoEvM
import Derived.Test.YtkhejkfjhddobaaGreatDoorNetLayM
import Derived.Test.YtkhejkfjhddobaaGreatDoorUnitsM
namespace Go.Proofs.YtkhejkfjhddobaaGreatDoor
open Go.RowKit Gim
structure NdD where
 ev : EvD
 par : Int
 last : Int
 at_ : Int
 clo : Int
 val : ByteArray
def zn : NdD := ⟨ze, 0, 0, 0, 0, ByteArray.empty⟩
structure yAn where
 nodes : List NdD
 closed : Bool
def yAf (D : yAn) (m : Int) : NdD := D.nodes.getD m.toNat zn
def yB7 (D : yAn) (m : Int) : Bool := if m < 0 then !D.closed else decide ((yAf D m).clo < 0)
def valD (D : yAn) (m : Int) : ByteArray := if m < 0 then (if D.nodes.length = 0 then ByteArray.empty else (D.nodes.getD 0 zn).val) else (yAf D m).val
def yAY (D : yAn) (m : Int) : Int := if m < 0 then (D.nodes.length : Int) - 1 else (yAf D m).last
def upI (a : Int) (n : Nat) : List Int := (List.range n).map fun j : Nat => a + (j : Int)
theorem yOV {a x : Int} {n : Nat} : x ∈ upI a n ↔ a ≤ x ∧ x < a + n := by
 unfold upI; rw [List.mem_map]; constructor
 ·rintro ⟨j, hj, rfl⟩; rw [List.mem_range] at hj; omega
 ·rintro ⟨h1, h2⟩; exact ⟨(x - a).toNat, by rw [List.mem_range]; omega, by omega⟩
def yBS (D : yAn) (m ax : Int) : List Int :=
 (if ax = 2 ∨ ax = 3 then [m] else []) ++ (upI (m + 1) (yAY D m - m).toNat).filter fun k => decide (ax = 1 ∨ ax = 2 ∨ ax = 0 ∧ (yAf D k).par = m)
def yHe (c : Int) (T l : List Int) (num : Int) : Bool :=
 if c = 0 then true else if c = 1 then decide (yBa l T = 0) else if c = 2 then !decide (yBa l T = 0) else if c = 3 then yAj l T 0 else if c = 4 then yDR l T else if c = 5 then decide (0 ≤ yDL l T)
 else if c = 6 then decide ((l.length : Int) = num) else if c = 7 then decide (num < l.length) else if c = 8 then decide ((l.length : Int) < num) else false
def yBL (c : Int) (T l : List Int) (num : Int) : Int :=
 if c = 0 then 2 else if c = 1 then (if yAj T l 0 then 1 else 0) else if c = 2 then (if yAj T l 0 then 1 else 2) else if c = 3 then (if yAj l T 0 then 2 else if yAj T l 0 then 1 else 0)
 else if c = 5 then (if 0 ≤ yDL l T then 2 else 1) else if c = 6 then (if num < l.length then 0 else 1) else if c = 7 then (if num < l.length then 2 else 1) else if c = 8 then (if num ≤ l.length then 0 else 1) else 1
def yBC (ats : List (ByteArray × ByteArray)) (nm : ByteArray) : Option ByteArray := (ats.find? fun a => decide (a.1 = nm)).map (·.2)
def trD (b : Bool) : Int := if b then 2 else 0
def yC2 (D : yAn) (nm : ByteArray) (c : Int) (txt : ByteArray) (num m : Int) : Int :=
 if nm.toList ≠ [] then (if m < 0 then 0 else match yBC (yAf D m).ev.ats nm with | none => 0 | some s => trD (yHe c (rs txt) (rs s) num))
 else if yB7 D m then yBL c (rs txt) (rs (valD D m)) num else trD (yHe c (rs txt) (rs (valD D m)) num)
def yAZ (D : yAn) (ts : Int) (nm : ByteArray) (m : Int) : Bool :=
 if ts = 3 then true else if m < 0 then false else if ts = 0 then decide ((yAf D m).ev.kd = 0) && decide ((yAf D m).ev.nm = nm) else if ts = 1 then decide ((yAf D m).ev.kd = 0) else !decide ((yAf D m).ev.kd = 0)
def yB6 (a b : Int) : Int := if a < b then a else b
def orD (a b : Int) : Int := if b < a then a else b
def yCv (D : yAn) (ax : Int) (here : Int → Int) (m : Int) : Int :=
 if ax ≠ 3 ∧ yB7 D m = true then orD ((yBS D m ax).foldl (fun a u => orD a (here u)) 0) 1 else (yBS D m ax).foldl (fun a u => orD a (here u)) 0
mutual
/-- an expression at a node -/
def exD (D : yAn) : Ex → Int → Int
 | .mk op args sts nm cmp txt num, m => if op = 3 then stD D sts (yC2 D nm cmp txt num) m else yBG D op args m (if op = 0 then 2 else 0)
def yBG (D : yAn) (op : Int) : List Ex → Int → Int → Int
 | [], _, a => a
 | x :: r, m, a => yBG D op r m (if op = 0 then yB6 a (exD D x m) else if op = 1 then orD a (exD D x m) else 2 - exD D x m)
/-- a path from a node on -/
def stD (D : yAn) : List Gim.St → (Int → Int) → Int → Int
 | [], rest, m => rest m
 | .mk ax ts nm wh :: r, rest, m => yCv D ax (fun u => yB6 (whD D wh u (trD (yAZ D ts nm u))) (stD D r rest u)) m
def whD (D : yAn) : List Ex → Int → Int → Int
 | [], _, a => a
 | x :: r, m, a => whD D r m (yB6 a (exD D x m))
end
def yI5 (D : yAn) : Gim.St → Int → Int
 | .mk _ ts nm wh, u => whD D wh u (trD (yAZ D ts nm u))
def axT : Gim.St → Int
 | .mk ax _ _ _ => ax
theorem yRl (D : yAn) (t : Gim.St) (r : List Gim.St) (rest : Int → Int) (m : Int) : stD D (t :: r) rest m = yCv D (axT t) (fun u => yB6 (yI5 D t u) (stD D r rest u)) m := by
 cases t
 rfl
/-! ### least and greatest of truths -/
theorem yLf {c a b : Int} : c ≤ yB6 a b ↔ c ≤ a ∧ c ≤ b := by unfold yB6; split <;> omega
theorem yNP {c a b : Int} : orD a b ≤ c ↔ a ≤ c ∧ b ≤ c := by unfold orD; split <;> omega
theorem yMS {a b : Int} (h : ∀ c, c ≤ a ↔ c ≤ b) : a = b := Int.le_antisymm ((h a).1 (Int.le_refl _)) ((h b).2 (Int.le_refl _))
theorem yI4 {a b : Int} (h : ∀ c, a ≤ c ↔ b ≤ c) : a = b := Int.le_antisymm ((h b).2 (Int.le_refl _)) ((h a).1 (Int.le_refl _))
theorem yK0 {c : Int} : ∀ (l : List Int) (a : Int), (∀ x ∈ l, 0 ≤ x ∧ x ≤ 2) → (c ≤ l.foldl (fun a t => if yBh t < a then yBh t else a) a ↔ c ≤ a ∧ ∀ x ∈ l, c ≤ x)
 | [], a, _ => by simp
 | y :: r, a, h => by
  have hy := h y List.mem_cons_self; have hs : yBh y = y := if_pos hy; rw [List.foldl_cons, yK0 r _ fun x hx => h x (List.mem_cons_of_mem _ hx), hs]; constructor
  ·rintro ⟨h1, h2⟩; refine ⟨by split at h1 <;> omega, fun x hx => ?_⟩; rcases List.mem_cons.1 hx with rfl | hx
   ·split at h1 <;> omega
   ·exact h2 x hx
  ·rintro ⟨h1, h2⟩; have := h2 y List.mem_cons_self; exact ⟨by split <;> omega, fun x hx => h2 x (List.mem_cons_of_mem _ hx)⟩
theorem yNU {c : Int} : ∀ (l : List Int) (a : Int), (∀ x ∈ l, 0 ≤ x ∧ x ≤ 2) → (l.foldl (fun a t => if a < yBh t then yBh t else a) a ≤ c ↔ a ≤ c ∧ ∀ x ∈ l, x ≤ c)
 | [], a, _ => by simp
 | y :: r, a, h => by
  have hy := h y List.mem_cons_self; have hs : yBh y = y := if_pos hy; rw [List.foldl_cons, yNU r _ fun x hx => h x (List.mem_cons_of_mem _ hx), hs]; constructor
  ·rintro ⟨h1, h2⟩; refine ⟨by split at h1 <;> omega, fun x hx => ?_⟩; rcases List.mem_cons.1 hx with rfl | hx
   ·split at h1 <;> omega
   ·exact h2 x hx
  ·rintro ⟨h1, h2⟩; have := h2 y List.mem_cons_self; exact ⟨by split <;> omega, fun x hx => h2 x (List.mem_cons_of_mem _ hx)⟩
theorem yGZ {c : Int} {g : Int → Int} : ∀ (l : List Int) (a : Int), (l.foldl (fun a u => orD a (g u)) a ≤ c ↔ a ≤ c ∧ ∀ x ∈ l, g x ≤ c)
 | [], a => by simp
 | y :: r, a => by rw [List.foldl_cons, yGZ r, yNP]; simp [and_assoc]
theorem yL9 {D : yAn} {ax m c : Int} {g : Int → Int} : yCv D ax g m ≤ c ↔ 0 ≤ c ∧ (∀ u ∈ yBS D m ax, g u ≤ c) ∧ (ax ≠ 3 → yB7 D m = true → 1 ≤ c) := by
 unfold yCv; split
 ·rename_i h; rw [yNP, yGZ]; constructor
  ·rintro ⟨⟨h1, h2⟩, h3⟩; exact ⟨h1, h2, fun _ _ => h3⟩
  ·rintro ⟨h1, h2, h3⟩; exact ⟨⟨h1, h2⟩, h3 h.1 h.2⟩
 ·rename_i h; rw [yGZ]; constructor
  ·rintro ⟨h1, h2⟩; exact ⟨h1, h2, fun a b => absurd (And.intro a b) h⟩
  ·rintro ⟨h1, h2, _⟩; exact ⟨h1, h2⟩
theorem yDb (b : Bool) : 0 ≤ trD b ∧ trD b ≤ 2 := by cases b <;> simp [trD]
theorem yM1 (c : Int) (T l : List Int) (num : Int) : 0 ≤ yBL c T l num ∧ yBL c T l num ≤ 2 := by
 unfold yBL
 repeat' split
 all_goals omega
theorem yIK (D : yAn) (nm : ByteArray) (c : Int) (txt : ByteArray) (num m : Int) : 0 ≤ yC2 D nm c txt num m ∧ yC2 D nm c txt num m ≤ 2 := by
 unfold yC2; split
 ·split
  ·omega
  ·split
   ·omega
   ·exact yDb _
 ·split
  ·exact yM1 _ _ _ _
  ·exact yDb _
theorem yDZ {a b : Int} (h1 : 0 ≤ a ∧ a ≤ 2) (h2 : 0 ≤ b ∧ b ≤ 2) : 0 ≤ yB6 a b ∧ yB6 a b ≤ 2 := by unfold yB6; split <;> omega
theorem yGX {a b : Int} (h1 : 0 ≤ a ∧ a ≤ 2) (h2 : 0 ≤ b ∧ b ≤ 2) : 0 ≤ orD a b ∧ orD a b ≤ 2 := by unfold orD; split <;> omega
theorem yIO {g : Int → Int} (hg : ∀ u, 0 ≤ g u ∧ g u ≤ 2) : ∀ (l : List Int) (a : Int), 0 ≤ a ∧ a ≤ 2 → 0 ≤ l.foldl (fun a u => orD a (g u)) a ∧ l.foldl (fun a u => orD a (g u)) a ≤ 2
 | [], _, h => h
 | y :: r, _, h => yIO hg r _ (yGX h (hg y))
theorem yLs {D : yAn} {ax m : Int} {g : Int → Int} (hg : ∀ u, 0 ≤ g u ∧ g u ≤ 2) : 0 ≤ yCv D ax g m ∧ yCv D ax g m ≤ 2 := by
 unfold yCv; have h := yIO hg (yBS D m ax) 0 (by omega); split
 ·exact yGX h (by omega)
 ·exact h
mutual
theorem yC8 (D : yAn) : ∀ (x : Ex) (m : Int), 0 ≤ exD D x m ∧ exD D x m ≤ 2
 | .mk op args sts nm cmp txt num, m => by
  unfold exD; split
  ·exact yG1 D sts _ (fun u => yIK D nm cmp txt num u) m
  ·exact yJc D op args m _ (by split <;> omega)
theorem yJc (D : yAn) (op : Int) : ∀ (l : List Ex) (m a : Int), 0 ≤ a ∧ a ≤ 2 → 0 ≤ yBG D op l m a ∧ yBG D op l m a ≤ 2
 | [], _, _, h => h
 | x :: r, m, a, h => by
  unfold yBG; have hx := yC8 D x m; refine yJc D op r m _ ?_; split
  ·exact yDZ h hx
  ·split
   ·exact yGX h hx
   ·omega
theorem yG1 (D : yAn) : ∀ (l : List Gim.St) (rest : Int → Int), (∀ u, 0 ≤ rest u ∧ rest u ≤ 2) → ∀ m, 0 ≤ stD D l rest m ∧ stD D l rest m ≤ 2
 | [], _, h, m => h m
 | .mk ax ts nm wh :: r, rest, h, m => by unfold stD; exact yLs fun u => yDZ (yGF D wh u _ (yDb _)) (yG1 D r rest h u)
theorem yGF (D : yAn) : ∀ (l : List Ex) (m a : Int), 0 ≤ a ∧ a ≤ 2 → 0 ≤ whD D l m a ∧ whD D l m a ≤ 2
 | [], _, _, h => h
 | x :: r, m, a, h => by unfold whD; exact yGF D r m _ (yDZ h (yC8 D x m))
end
theorem yRY {D : yAn} {c : Int} : ∀ (l : List Ex) (m a : Int), c ≤ whD D l m a ↔ c ≤ a ∧ ∀ x ∈ l, c ≤ exD D x m
 | [], m, a => by simp [whD]
 | x :: r, m, a => by unfold whD; rw [yRY r, yLf]; simp [and_assoc]
theorem yMF {D : yAn} {c : Int} : ∀ (l : List Ex) (m a : Int), c ≤ yBG D 0 l m a ↔ c ≤ a ∧ ∀ x ∈ l, c ≤ exD D x m
 | [], m, a => by simp [yBG]
 | x :: r, m, a => by unfold yBG; rw [if_pos rfl, yMF r, yLf]; simp [and_assoc]
theorem yLl {D : yAn} {c : Int} : ∀ (l : List Ex) (m a : Int), yBG D 1 l m a ≤ c ↔ a ≤ c ∧ ∀ x ∈ l, exD D x m ≤ c
 | [], m, a => by simp [yBG]
 | x :: r, m, a => by unfold yBG; rw [if_neg (by decide), if_pos rfl, yLl r, yNP]; simp [and_assoc]
section
variable (D : yAn) (nd : yAc)
def yAF (p : Nat) : Nat := (nd.preds.getD p zp).first.toNat
def yBc (p : Nat) : Nat := (nd.preds.getD p zp).count.toNat
def opP (p : Nat) : Int := (nd.preds.getD p zp).op
def yEt (p : Nat) (u : Int) : Int := yC2 D (nd.preds.getD p zp).attr (nd.preds.getD p zp).cmp (nd.preds.getD p zp).txt (nd.preds.getD p zp).num u
def yHY (p j : Nat) (u : Int) : Int := stD D ((List.range' (yAF nd p + j) (yBc nd p - j)).map (tN nd)) (yEt D nd p) u
def yBW (p j : Nat) (u : Int) : Int := yB6 (yI5 D (tN nd (yAF nd p + j)) u) (yHY D nd p (j + 1) u)
end
theorem yPP {D : yAn} {nd : yAc} {p j : Nat} (hj : j < yBc nd p) (u : Int) : yHY D nd p j u = yCv D (nd.rows.getD (yAF nd p + j) zr).ax (yBW D nd p j) u := by unfold yHY; rw [show yBc nd p - j = (yBc nd p - (j + 1)) + 1 by omega, List.range'_succ, List.map_cons, yRl]; rfl
theorem yR1 {D : yAn} {nd : yAc} {p : Nat} (u : Int) : yHY D nd p (yBc nd p) u = yEt D nd p u := by unfold yHY; rw [Nat.sub_self]; rfl
theorem yIo (D : yAn) (nd : yAc) (p j : Nat) (u : Int) : 0 ≤ yHY D nd p j u ∧ yHY D nd p j u ≤ 2 := yG1 D _ _ (fun u => yIK D _ _ _ _ u) u
theorem yNj (D : yAn) (t : Gim.St) (u : Int) : 0 ≤ yI5 D t u ∧ yI5 D t u ≤ 2 := by
 cases t
 exact yGF D _ _ _ (yDb _)
theorem yH8 (D : yAn) (nd : yAc) (p j : Nat) (u : Int) : 0 ≤ yBW D nd p j u ∧ yBW D nd p j u ≤ 2 := yDZ (yNj D _ u) (yIo D nd p (j + 1) u)
theorem yRI {D : yAn} {nd : yAc} (hd : yFL nd) {p : Nat} (hp : p < nd.preds.length) (h3 : opP nd p = 3) (u : Int) : exD D (xN nd p) u = yHY D nd p 0 u := by rw [yMq hd hp]; show exD D (.mk _ _ _ _ _ _ _) u = _; unfold exD; rw [if_pos (show (nd.preds.getD p zp).op = 3 from h3)]; rfl
structure yRO (nd : yAc) : Prop where
 dag : yFL nd
 op : ∀ p, p < nd.preds.length → 0 ≤ opP nd p ∧ opP nd p ≤ 3
 one : ∀ p, p < nd.preds.length → opP nd p = 2 → (nd.preds.getD p zp).args.length = 1
 mono : ∀ p p', p < p' → p' < nd.preds.length → opP nd p = 3 → opP nd p' = 3 → yAF nd p + yBc nd p ≤ yAF nd p'
structure FrD (D : yAn) (nd : yAc) (m : Int) (f : FrS) (opn : Bool) (ib : Option (List Int × List Int)) : Prop where
 cmp : ∀ p, p < nd.preds.length → opP nd p = 3 → yKT f p (nd.preds.getD p zp).attr (nd.preds.getD p zp).cmp = yEt D nd p m
 test : ∀ p j, p < nd.preds.length → opP nd p = 3 → j < yBc nd p → yFl f (nd.rows.getD (yAF nd p + j) zr).ts (nd.rows.getD (yAF nd p + j) zr).nm = trD (yAZ D (nd.rows.getD (yAF nd p + j) zr).ts (nd.rows.getD (yAF nd p + j) zr).nm m)
 along : ∀ p j, p < nd.preds.length → opP nd p = 3 → j < yBc nd p → yCo f (nd.rows.getD (yAF nd p + j) zr).ax (yAF nd p + j) (yBW D nd p j m) opn ib = yCv D (nd.rows.getD (yAF nd p + j) zr).ax (yBW D nd p j) m
theorem yFR {T l : List Int} {x : Int} (h : x ∈ atL T l) : ∃ a ∈ l, x = T.getD a.toNat 0 := by obtain ⟨a, ha, e⟩ := List.mem_map.1 h; exact ⟨a, ha, e.symm⟩
section
variable {D : yAn} {nd : yAc} {m : Int} {f : FrS} {opn : Bool} {ib : Option (List Int × List Int)} (hN : yRO nd) (hF : FrD D nd m f opn ib)
include hN hF
theorem yLM {p : Nat} (hp : p < nd.preds.length) (h3 : opP nd p = 3) (T E : List Int) (hT : ∀ q, p < q → q < nd.preds.length → T.getD q 0 = exD D (xN nd q) m) (hE : yAF nd p + yBc nd p ≤ E.length) : ∀ d, d ≤ yBc nd p →
  (yB3 nd f opn ib T (yAF nd p + yBc nd p) (yEt D nd p m, E) d).1 = yHY D nd p (yBc nd p - d) m ∧
  (yB3 nd f opn ib T (yAF nd p + yBc nd p) (yEt D nd p m, E) d).2.length = E.length ∧
  (∀ j, yBc nd p - d ≤ j → j < yBc nd p → (yB3 nd f opn ib T (yAF nd p + yBc nd p) (yEt D nd p m, E) d).2.getD (yAF nd p + j) 0 = yBW D nd p j m) ∧
  ∀ i, i < yAF nd p ∨ yAF nd p + yBc nd p ≤ i → (yB3 nd f opn ib T (yAF nd p + yBc nd p) (yEt D nd p m, E) d).2.getD i 0 = E.getD i 0
 | 0, _ => by refine ⟨?_, rfl, fun j h1 h2 => by omega, fun i _ => rfl⟩; rw [Nat.sub_zero, yR1]; rfl
 | d + 1, hd => by
  obtain ⟨h1, h2, h4, h5⟩ := yLM hp h3 T E hT hE d (by omega); obtain ⟨A, hA⟩ := je (yB3 nd f opn ib T (yAF nd p + yBc nd p) (yEt D nd p m, E) d); rw [hA] at h1 h2 h4 h5; obtain ⟨j, hj⟩ := je (yBc nd p - (d + 1)); have hjc : j < yBc nd p := by omega
  have hi : yAF nd p + yBc nd p - (d + 1) = yAF nd p + j := by omega
  have hj1 : yBc nd p - d = j + 1 := by omega
  have hh : yMj nd f T A.1 (yAF nd p + j) = yBW D nd p j m := by
   unfold yMj; rw [hF.test p j hp h3 hjc, h1, hj1]; have hps : ∀ q ∈ (nd.rows.getD (yAF nd p + j) zr).ps, (p : Int) < q ∧ q < nd.preds.length := by
    have h0 := hN.dag.rows p hp; refine hN.dag.ps p hp _ ?_ ?_
    ·unfold yAF; omega
    ·unfold yAF yBc at *; omega
   have hr : ∀ x ∈ [trD (yAZ D (nd.rows.getD (yAF nd p + j) zr).ts (nd.rows.getD (yAF nd p + j) zr).nm m), yHY D nd p (j + 1) m] ++ atL T (nd.rows.getD (yAF nd p + j) zr).ps, 0 ≤ x ∧ x ≤ 2 := fun x hx => by
    rcases List.mem_append.1 hx with hx | hx
    ·rcases List.mem_cons.1 hx with rfl | hx
     ·exact yDb _
     ·rw [List.mem_singleton.1 hx]; exact yIo D nd p (j + 1) m
    ·obtain ⟨a, ha, rfl⟩ := yFR hx; have := hps a ha; rw [hT a.toNat (by omega) (by omega)]; exact yC8 D _ m
   refine yMS fun c => ?_
   unfold yGE; rw [yK0 _ _ hr]; unfold yBW; rw [yLf]; show _ ↔ c ≤ whD D _ m _ ∧ _; rw [yRY]; constructor
   ·rintro ⟨_, k⟩; refine ⟨⟨k _ (by simp), fun x hx => ?_⟩, k _ (by simp)⟩; obtain ⟨a, ha, rfl⟩ := List.mem_map.1 hx; have h6 := hps a ha; rw [← hT a.toNat (by omega) (by omega)]; exact k _ (List.mem_append_right _ (List.mem_map.2 ⟨a, ha, rfl⟩))
   ·rintro ⟨⟨k1, k2⟩, k3⟩; refine ⟨by have := yDb (yAZ D (nd.rows.getD (yAF nd p + j) zr).ts (nd.rows.getD (yAF nd p + j) zr).nm m); omega, fun x hx => ?_⟩; rcases List.mem_append.1 hx with hx | hx
    ·rcases List.mem_cons.1 hx with rfl | hx
     ·exact k1
     ·rw [List.mem_singleton.1 hx]; exact k3
    ·obtain ⟨a, ha, rfl⟩ := yFR hx; have h6 := hps a ha; rw [hT a.toNat (by omega) (by omega)]; exact k2 _ (List.mem_map.2 ⟨a, ha, rfl⟩)
  have hstep : yB3 nd f opn ib T (yAF nd p + yBc nd p) (yEt D nd p m, E) (d + 1) = yL0 nd f opn ib T A (yAF nd p + j) := by show yL0 nd f opn ib T (yB3 nd f opn ib T (yAF nd p + yBc nd p) (yEt D nd p m, E) d) (yAF nd p + yBc nd p - (d + 1)) = _; rw [hA, hi]
  rw [hstep, hj]; unfold yL0; rw [hh]; refine ⟨?_, by rw [List.length_set]; exact h2, fun j' k1 k2 => ?_, fun i k1 => ?_⟩
  ·rw [yPP hjc]; exact hF.along p j hp h3 hjc
  ·by_cases e : j' = j
   ·subst e; rw [jg, List.getElem?_set_self (by omega)]; rfl
   ·rw [jg, List.getElem?_set_ne (by omega), ← jg]; exact h4 j' (by omega) k2
  ·rw [jg, List.getElem?_set_ne (by omega), ← jg]; exact h5 i k1
theorem yKm : ∀ d, d ≤ nd.preds.length → (∀ p, nd.preds.length - d ≤ p → p < nd.preds.length → (yA8 nd f opn ib d).1.getD p 0 = exD D (xN nd p) m) ∧
  ∀ p j, nd.preds.length - d ≤ p → p < nd.preds.length → opP nd p = 3 → j < yBc nd p → (yA8 nd f opn ib d).2.getD (yAF nd p + j) 0 = yBW D nd p j m
 | 0, _ => ⟨fun p h1 h2 => by omega, fun p j h1 h2 => by omega⟩
 | d + 1, hd => by
  obtain ⟨h1, h2⟩ := yKm d (by omega); have hlen := yD8 nd f opn ib d; obtain ⟨A, hA⟩ := je (yA8 nd f opn ib d); rw [hA] at h1 h2 hlen; obtain ⟨p, hp⟩ := je (nd.preds.length - (d + 1)); have hpn : p < nd.preds.length := by omega
  have hT : ∀ q, p < q → q < nd.preds.length → A.1.getD q 0 = exD D (xN nd q) m := fun q k1 k2 => h1 q (by omega) k2
  have hstep : yA8 nd f opn ib (d + 1) = yEc nd f opn ib A p := by show yEc nd f opn ib (yA8 nd f opn ib d) (nd.preds.length - (d + 1)) = _; rw [hA, hp]
  have hmem : ∀ a ∈ (nd.preds.getD p zp).args, A.1.getD a.toNat 0 = exD D (xN nd a.toNat) m := fun a ha => by have := hN.dag.args p hpn a ha; exact hT a.toNat (by omega) (by omega)
  have hrg : ∀ x ∈ atL A.1 (nd.preds.getD p zp).args, 0 ≤ x ∧ x ≤ 2 := fun x hx => by obtain ⟨a, ha, rfl⟩ := yFR hx; rw [hmem a ha]; exact yC8 D _ m
  have hx := yMq hN.dag hpn; have key : ∃ v E', yEc nd f opn ib A p = (A.1.set p v, E') ∧ v = exD D (xN nd p) m ∧ (∀ j, opP nd p = 3 → j < yBc nd p → E'.getD (yAF nd p + j) 0 = yBW D nd p j m) ∧ ∀ q j, p < q → q < nd.preds.length → opP nd q = 3 → j < yBc nd q → E'.getD (yAF nd q + j) 0 = A.2.getD (yAF nd q + j) 0 := by
   unfold yEc; by_cases h0 : (nd.preds.getD p zp).op = 0
   ·rw [if_pos h0]; refine ⟨_, _, rfl, ?_, fun j e => ?_, fun _ _ _ _ _ _ => rfl⟩
    ·rw [hx]; unfold exD; rw [if_neg (by omega), if_pos h0, h0]; refine yMS fun c => ?_
     unfold yGE; rw [yK0 _ _ hrg, yMF]; constructor
     ·rintro ⟨k1, k2⟩; refine ⟨k1, fun x hx => ?_⟩; obtain ⟨a, ha, rfl⟩ := List.mem_map.1 hx; rw [← hmem a ha]; exact k2 _ (List.mem_map.2 ⟨a, ha, rfl⟩)
     ·rintro ⟨k1, k2⟩; refine ⟨k1, fun x hx => ?_⟩; obtain ⟨a, ha, rfl⟩ := yFR hx; rw [hmem a ha]; exact k2 _ (List.mem_map.2 ⟨a, ha, rfl⟩)
    ·unfold opP at e; omega
   ·rw [if_neg h0]; by_cases h1' : (nd.preds.getD p zp).op = 1
    ·rw [if_pos h1']; refine ⟨_, _, rfl, ?_, fun j e => ?_, fun _ _ _ _ _ _ => rfl⟩
     ·rw [hx]; unfold exD; rw [if_neg (by omega), if_neg h0, h1']; refine yI4 fun c => ?_
      unfold orF; rw [yNU _ _ hrg, yLl]; constructor
      ·rintro ⟨k1, k2⟩; refine ⟨k1, fun x hx => ?_⟩; obtain ⟨a, ha, rfl⟩ := List.mem_map.1 hx; rw [← hmem a ha]; exact k2 _ (List.mem_map.2 ⟨a, ha, rfl⟩)
      ·rintro ⟨k1, k2⟩; refine ⟨k1, fun x hx => ?_⟩; obtain ⟨a, ha, rfl⟩ := yFR hx; rw [hmem a ha]; exact k2 _ (List.mem_map.2 ⟨a, ha, rfl⟩)
     ·unfold opP at e; omega
    ·rw [if_neg h1']; by_cases h2' : (nd.preds.getD p zp).op = 2
     ·rw [if_pos h2']; refine ⟨_, _, rfl, ?_, fun j e => ?_, fun _ _ _ _ _ _ => rfl⟩
      ·have hl := hN.one p hpn h2'; obtain ⟨a, ha⟩ := List.length_eq_one_iff.1 hl; have hv := hmem a (by rw [ha]; simp); have hr := yC8 D (xN nd a.toNat) m; rw [hx]; unfold exD; rw [if_neg (by omega), if_neg h0, h2', ha]; simp only [atL, List.map_cons, List.map_nil, List.getD_cons_zero]; rw [hv]; unfold yBG; rw [if_neg (by decide), if_neg (by decide)]; unfold yBG; rw [show yBh (exD D (xN nd a.toNat) m) = exD D (xN nd a.toNat) m from if_pos hr]
      ·unfold opP at e; omega
     ·rw [if_neg h2']; have h3 : opP nd p = 3 := by
       have := hN.op p hpn; unfold opP at *
       omega
      have h0r := hN.dag.rows p hpn; have hlast : ((nd.preds.getD p zp).first + (nd.preds.getD p zp).count).toNat = yAF nd p + yBc nd p := by unfold yAF yBc; omega
      rw [hF.cmp p hpn h3, hlast]; have hr := yLM hN hF hpn h3 A.1 A.2 hT (by rw [hlen.2]; unfold yAF yBc; omega) (yBc nd p) (jr _); rw [Nat.sub_self] at hr; refine ⟨_, _, rfl, ?_, fun j _ hj => hr.2.2.1 j (jz _) hj, fun q j k1 k2 k3 _ => hr.2.2.2 _ (.inr ?_)⟩
      ·rw [yRI hN.dag hpn h3]; exact hr.1
      ·have := hN.mono p q k1 k2 h3 k3; omega
  obtain ⟨v, E', e1, e2, e3, e4⟩ := key; rw [hstep, e1]; refine ⟨fun q k1 k2 => ?_, fun q j k1 k2 k3 k4 => ?_⟩
  ·by_cases e : q = p
   ·subst e; rw [jg, List.getElem?_set_self (by rw [hlen.1]; exact hpn)]; exact e2
   ·rw [jg, List.getElem?_set_ne (Ne.symm e), ← jg]; exact hT q (by omega) k2
  ·by_cases e : q = p
   ·subst e; exact e3 j k3 k4
   ·rw [e4 q j (by omega) k2 k3 k4]; exact h2 q j (by omega) k2 k3 k4
theorem yIY : (∀ p, p < nd.preds.length → (yBT nd f opn ib).1.getD p 0 = exD D (xN nd p) m) ∧ ∀ p j, p < nd.preds.length → opP nd p = 3 → j < yBc nd p → (yBT nd f opn ib).2.getD (yAF nd p + j) 0 = yBW D nd p j m := by have h := yKm hN hF nd.preds.length (jr _); rw [Nat.sub_self] at h; exact ⟨fun p hp => h.1 p (jz _) hp, fun p j hp => h.2 p j (jz _) hp⟩
end
structure yC6 (D : yAn) (a b : Int) : Prop where
 lo : 0 ≤ a
 last : ∀ k, a ≤ k → k ≤ b → k ≤ (yAf D k).last ∧ (yAf D k).last ≤ b
def yGW (D D' : yAn) (a b : Int) : Prop := ∀ k, a ≤ k → k ≤ b → yAf D' k = yAf D k
def yFT (D : yAn) (a b : Int) : Prop := ∀ k, a ≤ k → k ≤ b → 0 ≤ (yAf D k).clo
theorem yCh {D : yAn} {m : Int} (h : 0 ≤ m) : yAY D m = (yAf D m).last := if_neg (by omega)
theorem yBQ {D : yAn} {m : Int} (h : 0 ≤ m) : yB7 D m = decide ((yAf D m).clo < 0) := if_neg (by omega)
theorem yCQ {D : yAn} {m : Int} (h : 0 ≤ m) : valD D m = (yAf D m).val := if_neg (by omega)
theorem yBj {D : yAn} {m ax v : Int} : v ∈ yBS D m ax ↔ ((ax = 2 ∨ ax = 3) ∧ v = m) ∨ (m < v ∧ v ≤ yAY D m ∧ (ax = 1 ∨ ax = 2 ∨ ax = 0 ∧ (yAf D v).par = m)) := by
 unfold yBS; rw [List.mem_append, List.mem_filter, yOV, decide_eq_true_eq]; refine or_congr ?_ ⟨?_, ?_⟩
 ·split
  ·rename_i h; rw [List.mem_singleton]; exact ⟨fun e => ⟨h, e⟩, fun e => e.2⟩
  ·rename_i h; exact ⟨fun e => (by cases e), fun e => absurd e.1 h⟩
 ·rintro ⟨h1, h2⟩; exact ⟨by omega, by omega, h2⟩
 ·rintro ⟨h1, h2, h3⟩; exact ⟨by omega, h3⟩
theorem yC6.in_ {D : yAn} {a b m ax v : Int} (h : yC6 D a b) (h1 : a ≤ m) (h2 : m ≤ b) (hv : v ∈ yBS D m ax) : a ≤ v ∧ v ≤ b := by
 have hl := h.last m h1 h2; have h0 := h.lo; rw [yBj, yCh (by omega)] at hv; rcases hv with ⟨_, rfl⟩ | ⟨k1, k2, _⟩ <;> omega
theorem yQq {D D' : yAn} {a b : Int} (h : yC6 D a b) (hA : yGW D D' a b) {m : Int} (h1 : a ≤ m) (h2 : m ≤ b) (ax : Int) : yBS D' m ax = yBS D m ax := by
 have h0 := h.lo; have hl := h.last m h1 h2; unfold yBS; rw [yCh (by omega), yCh (by omega), hA m h1 h2]; congr 1; refine List.filter_congr fun k hk => ?_
 rw [yOV] at hk; rw [hA k (by omega) (by omega)]
theorem yGc {g g' : Int → Int} : ∀ (l : List Int) (a : Int), (∀ u ∈ l, g' u = g u) → l.foldl (fun a u => orD a (g' u)) a = l.foldl (fun a u => orD a (g u)) a
 | [], _, _ => rfl
 | x :: r, a, h => by rw [List.foldl_cons, List.foldl_cons, h x List.mem_cons_self, yGc r _ fun u hu => h u (List.mem_cons_of_mem _ hu)]
theorem yRD {D D' : yAn} {a b : Int} (h : yC6 D a b) (hA : yGW D D' a b) {m : Int} (h1 : a ≤ m) (h2 : m ≤ b) (ax : Int) {g g' : Int → Int} (hg : ∀ u, a ≤ u → u ≤ b → g' u = g u) : yCv D' ax g' m = yCv D ax g m := by have h0 := h.lo; unfold yCv; rw [yQq h hA h1 h2, yBQ (by omega), yBQ (by omega), hA m h1 h2]; rw [yGc _ _ fun u hu => hg u (h.in_ h1 h2 hu).1 (h.in_ h1 h2 hu).2]
theorem yOM {D D' : yAn} {a b : Int} (h : yC6 D a b) (hA : yGW D D' a b) {m : Int} (h1 : a ≤ m) (h2 : m ≤ b) (nm : ByteArray) (c : Int) (txt : ByteArray) (num : Int) : yC2 D' nm c txt num m = yC2 D nm c txt num m := by have h0 := h.lo; unfold yC2; rw [yBQ (by omega), yBQ (by omega), yCQ (by omega), yCQ (by omega), hA m h1 h2]
theorem yLY {D D' : yAn} {a b : Int} (hA : yGW D D' a b) {m : Int} (h1 : a ≤ m) (h2 : m ≤ b) (ts : Int) (nm : ByteArray) : yAZ D' ts nm m = yAZ D ts nm m := by unfold yAZ; rw [hA m h1 h2]
mutual
theorem yOE {D D' : yAn} {a b : Int} (h : yC6 D a b) (hA : yGW D D' a b) : ∀ (x : Ex) (m : Int), a ≤ m → m ≤ b → exD D' x m = exD D x m
 | .mk op args sts nm cmp txt num, m, h1, h2 => by unfold exD; rw [yMs h hA op args m _ h1 h2, yK2 h hA sts _ _ (fun u k1 k2 => yOM h hA k1 k2 nm cmp txt num) m h1 h2]
theorem yMs {D D' : yAn} {a b : Int} (h : yC6 D a b) (hA : yGW D D' a b) (op : Int) : ∀ (l : List Ex) (m acc : Int), a ≤ m → m ≤ b → yBG D' op l m acc = yBG D op l m acc
 | [], _, _, _, _ => by unfold yBG; rfl
 | x :: r, m, acc, h1, h2 => by unfold yBG; rw [yOE h hA x m h1 h2, yMs h hA op r m _ h1 h2]
theorem yK2 {D D' : yAn} {a b : Int} (h : yC6 D a b) (hA : yGW D D' a b) : ∀ (l : List Gim.St) (g g' : Int → Int), (∀ u, a ≤ u → u ≤ b → g' u = g u) → ∀ m, a ≤ m → m ≤ b → stD D' l g' m = stD D l g m
 | [], g, g', hg, m, h1, h2 => by unfold stD; exact hg m h1 h2
 | .mk ax ts nm wh :: r, g, g', hg, m, h1, h2 => by
  unfold stD; refine yRD h hA h1 h2 ax fun u k1 k2 => ?_
  rw [yK2 h hA r g g' hg u k1 k2, yLY hA k1 k2, yKE h hA wh u _ k1 k2]
theorem yKE {D D' : yAn} {a b : Int} (h : yC6 D a b) (hA : yGW D D' a b) : ∀ (l : List Ex) (m acc : Int), a ≤ m → m ≤ b → whD D' l m acc = whD D l m acc
 | [], _, _, _, _ => by unfold whD; rfl
 | x :: r, m, acc, h1, h2 => by unfold whD; rw [yOE h hA x m h1 h2, yKE h hA r m _ h1 h2]
end
theorem yRS {D D' : yAn} {a b : Int} (h : yC6 D a b) (hA : yGW D D' a b) (t : Gim.St) {m : Int} (h1 : a ≤ m) (h2 : m ≤ b) : yI5 D' t m = yI5 D t m := by
 cases t
 show whD D' _ m (trD (yAZ D' _ _ m)) = whD D _ m (trD (yAZ D _ _ m)); rw [yLY hA h1 h2, yKE h hA _ _ _ h1 h2]
theorem yRz {D D' : yAn} {a b : Int} (h : yC6 D a b) (hA : yGW D D' a b) (nd : yAc) (p j : Nat) {m : Int} (h1 : a ≤ m) (h2 : m ≤ b) : yBW D' nd p j m = yBW D nd p j m := by unfold yBW; rw [yRS h hA _ h1 h2]; unfold yHY; rw [yK2 h hA _ (yEt D nd p) (yEt D' nd p) (fun u k1 k2 => yOM h hA k1 k2 _ _ _ _) m h1 h2]
/-! ### it is certain -/
def yCI (x : Int) : Prop := x = 0 ∨ x = 2
theorem yGf {a b : Int} (h1 : yCI a) (h2 : yCI b) : yCI (yB6 a b) := by unfold yB6; split <;> assumption
theorem yPd {a b : Int} (h1 : yCI a) (h2 : yCI b) : yCI (orD a b) := by unfold orD; split <;> assumption
theorem yHQ (b : Bool) : yCI (trD b) := by cases b <;> simp [trD, yCI]
theorem yM7 {g : Int → Int} : ∀ (l : List Int) (a : Int), yCI a → (∀ u ∈ l, yCI (g u)) → yCI (l.foldl (fun a u => orD a (g u)) a)
 | [], _, h, _ => h
 | x :: r, a, h, hg => by rw [List.foldl_cons]; exact yM7 r _ (yPd h (hg x List.mem_cons_self)) fun u hu => hg u (List.mem_cons_of_mem _ hu)
theorem yRg {D : yAn} {a b : Int} (h : yC6 D a b) (hC : yFT D a b) {m : Int} (h1 : a ≤ m) (h2 : m ≤ b) (ax : Int) {g : Int → Int} (hg : ∀ u, a ≤ u → u ≤ b → yCI (g u)) : yCI (yCv D ax g m) := by have h0 := h.lo; have hc := hC m h1 h2; unfold yCv; rw [if_neg (by rw [yBQ (by omega), decide_eq_true_eq]; omega)]; exact yM7 _ _ (.inl rfl) fun u hu => hg u (h.in_ h1 h2 hu).1 (h.in_ h1 h2 hu).2
theorem yO3 {D : yAn} {a b : Int} (h : yC6 D a b) (hC : yFT D a b) {m : Int} (h1 : a ≤ m) (h2 : m ≤ b) (nm : ByteArray) (c : Int) (txt : ByteArray) (num : Int) : yCI (yC2 D nm c txt num m) := by
 have h0 := h.lo; have hc := hC m h1 h2; unfold yC2; split
 ·split
  ·exact .inl rfl
  ·split
   ·exact .inl rfl
   ·exact yHQ _
 ·rw [if_neg (by rw [yBQ (by omega), decide_eq_true_eq]; omega)]; exact yHQ _
mutual
theorem yOz {D : yAn} {a b : Int} (h : yC6 D a b) (hC : yFT D a b) : ∀ (x : Ex) (m : Int), a ≤ m → m ≤ b → yCI (exD D x m)
 | .mk op args sts nm cmp txt num, m, h1, h2 => by
  unfold exD; split
  ·exact yK4 h hC sts _ (fun u k1 k2 => yO3 h hC k1 k2 nm cmp txt num) m h1 h2
  ·exact yMr h hC op args m _ h1 h2 (by split <;> simp [yCI])
theorem yMr {D : yAn} {a b : Int} (h : yC6 D a b) (hC : yFT D a b) (op : Int) : ∀ (l : List Ex) (m acc : Int), a ≤ m → m ≤ b → yCI acc → yCI (yBG D op l m acc)
 | [], _, _, _, _, ha => by unfold yBG; exact ha
 | x :: r, m, acc, h1, h2, ha => by
  have hx := yOz h hC x m h1 h2; unfold yBG; refine yMr h hC op r m _ h1 h2 ?_; split
  ·exact yGf ha hx
  ·split
   ·exact yPd ha hx
   ·unfold yCI at hx ⊢; omega
theorem yK4 {D : yAn} {a b : Int} (h : yC6 D a b) (hC : yFT D a b) : ∀ (l : List Gim.St) (g : Int → Int), (∀ u, a ≤ u → u ≤ b → yCI (g u)) → ∀ m, a ≤ m → m ≤ b → yCI (stD D l g m)
 | [], g, hg, m, h1, h2 => by unfold stD; exact hg m h1 h2
 | .mk ax ts nm wh :: r, g, hg, m, h1, h2 => by
  unfold stD; refine yRg h hC h1 h2 ax fun u k1 k2 => ?_
  exact yGf (yKH h hC wh u _ k1 k2 (yHQ _)) (yK4 h hC r g hg u k1 k2)
theorem yKH {D : yAn} {a b : Int} (h : yC6 D a b) (hC : yFT D a b) : ∀ (l : List Ex) (m acc : Int), a ≤ m → m ≤ b → yCI acc → yCI (whD D l m acc)
 | [], _, _, _, _, ha => by unfold whD; exact ha
 | x :: r, m, acc, h1, h2, ha => by unfold whD; exact yKH h hC r m _ h1 h2 (yGf ha (yOz h hC x m h1 h2))
end
theorem yMY {D : yAn} {a b : Int} (h : yC6 D a b) (hC : yFT D a b) (nd : yAc) (p j : Nat) {m : Int} (h1 : a ≤ m) (h2 : m ≤ b) : yCI (yBW D nd p j m) := by unfold yBW; refine yGf ?_ (yK4 h hC _ _ (fun u k1 k2 => yO3 h hC k1 k2 _ _ _ _) m h1 h2); exact yKH h hC _ _ _ h1 h2 (yHQ _)
structure NdS where
 nodes : List NdD
 op : List Int
def yCy (num : Int) (tx : ByteArray) (n : NdD) : NdD := { n with last := num, val := n.val ++ tx }
def yBK (num : Int) (tx : ByteArray) (op : List Int) (l : List NdD) : List NdD := op.foldl (fun l k => l.modify k.toNat (yCy num tx)) l
def yAP (i : Nat) (n : NdD) : NdD := { n with clo := i }
def yAB (op : List Int) : Int := if op.length = 0 then -1 else op.getD (op.length - 1) 0
def yBF (e : EvD) (i : Nat) (op : List Int) : NdD := ⟨e, yAB op, e.num, i, -1, e.tx⟩
def yBJ (S : NdS) (i : Nat) (e : EvD) : NdS :=
 if e.kd = 2 then ⟨S.nodes.modify e.num.toNat (yAP i), S.op.dropLast⟩
 else if e.kd = 0 then ⟨yBK e.num e.tx S.op (S.nodes ++ [yBF e i S.op]), S.op ++ [e.num]⟩
 else ⟨(yBK e.num e.tx S.op (S.nodes ++ [yBF e i S.op])).modify e.num.toNat (yAP i), S.op⟩
def yAg (es : List EvD) : Nat → NdS
 | 0 => ⟨[], []⟩
 | i + 1 => yBJ (yAg es i) i (es.getD i ze)
def ndG (l : List NdD) (m : Int) : NdD := l.getD m.toNat zn
theorem yFu {l : List NdD} {a k : Int} {g : NdD → NdD} (ha : 0 ≤ a) (ha2 : a < l.length) (hk : 0 ≤ k) : ndG (l.modify a.toNat g) k = if k = a then g (ndG l k) else ndG l k := by
 unfold ndG; rw [jg, jg, List.getElem?_modify]; by_cases e : k = a
 ·subst e; rw [if_pos rfl, jk (by omega)]; simp
 ·rw [if_neg e]; have : ¬ a.toNat = k.toNat := by omega
  cases l[k.toNat]? <;> simp [this]
theorem yDI (num : Int) (tx : ByteArray) : ∀ (op : List Int) (l : List NdD), (yBK num tx op l).length = l.length
 | [], _ => rfl
 | m :: r, l => by show (yBK num tx r (l.modify m.toNat (yCy num tx))).length = _; rw [yDI num tx r, List.length_modify]
theorem yPe (num : Int) (tx : ByteArray) : ∀ (op : List Int) (l : List NdD), op.Pairwise (· < ·) → (∀ m ∈ op, 0 ≤ m ∧ m < l.length) → ∀ k : Int, 0 ≤ k → ndG (yBK num tx op l) k = if k ∈ op then yCy num tx (ndG l k) else ndG l k
 | [], l, _, _, k, _ => by rw [if_neg (by simp)]; rfl
 | m :: r, l, hp, hb, k, hk => by
  obtain ⟨hp1, hp2⟩ := List.pairwise_cons.1 hp; have hm := hb m List.mem_cons_self; show ndG (yBK num tx r (l.modify m.toNat (yCy num tx))) k = _; rw [yPe num tx r _ hp2 (fun x hx => by rw [List.length_modify]; exact hb x (List.mem_cons_of_mem _ hx)) k hk, yFu hm.1 hm.2 hk]; by_cases e : k = m
  ·subst e; have hn : ¬ k ∈ r := fun h => by have := hp1 k h; omega
   rw [if_neg hn, if_pos rfl, if_pos List.mem_cons_self]
  ·rw [if_neg e]; by_cases h : k ∈ r
   ·rw [if_pos h, if_pos (List.mem_cons_of_mem _ h)]
   ·rw [if_neg h, if_neg (by rw [List.mem_cons]; rintro (h2 | h2); exact e h2; exact h h2)]
theorem yRf (l : List NdD) (x : NdD) {k : Int} (hk : 0 ≤ k) (hk2 : k ≤ l.length) : ndG (l ++ [x]) k = if k = l.length then x else ndG l k := by
 unfold ndG; rw [jg, jg]; by_cases e : k = l.length
 ·rw [if_pos e, show k.toNat = l.length by omega]; simp
 ·rw [if_neg e, List.getElem?_append_left (by omega)]
structure yBr (D : yAn) (op : List Int) : Prop where
 rise : op.Pairwise (· < ·)
 rng : ∀ m ∈ op, 0 ≤ m ∧ m < D.nodes.length
 opn : ∀ m : Int, 0 ≤ m → m < D.nodes.length → ((yAf D m).clo < 0 ↔ m ∈ op)
 lst : ∀ m ∈ op, (yAf D m).last = (D.nodes.length : Int) - 1
 rngs : ∀ m : Int, 0 ≤ m → m < D.nodes.length → 0 ≤ (yAf D m).clo → m ≤ (yAf D m).last ∧ (yAf D m).last < D.nodes.length ∧ yC6 D m (yAf D m).last ∧ yFT D m (yAf D m).last
 parO : ∀ j, j < op.length → (yAf D (op.getD j 0)).par = yAB (op.take j)
 parLo : ∀ m ∈ op, ∀ k, m < k → k < D.nodes.length → m ≤ (yAf D k).par
 ev : ∀ m ∈ op, (yAf D m).ev.kd = 0
 kd : ∀ m : Int, 0 ≤ m → m < D.nodes.length → (yAf D m).ev.kd = 0 ∨ (yAf D m).ev.kd = 1
def yF5 (D D' : yAn) : Prop := D.nodes.length ≤ D'.nodes.length ∧ ∀ k : Int, 0 ≤ k → k < D.nodes.length → 0 ≤ (yAf D k).clo → yAf D' k = yAf D k
theorem yF5.agr {D D' : yAn} (h : yF5 D D') {a b : Int} (ha : 0 ≤ a) (hb : b < D.nodes.length) (hC : yFT D a b) : yGW D D' a b := fun k h1 h2 => h.2 k (by omega) (by omega) (hC k h1 h2)
theorem yC6.keep {D D' : yAn} {a b : Int} (h : yC6 D a b) (hA : yGW D D' a b) : yC6 D' a b := ⟨h.lo, fun k h1 h2 => by rw [hA k h1 h2]; exact h.last k h1 h2⟩
theorem yFT.keep {D D' : yAn} {a b : Int} (h : yFT D a b) (hA : yGW D D' a b) : yFT D' a b := fun k h1 h2 => by rw [hA k h1 h2]; exact h k h1 h2
theorem yF5.rngs {D D' : yAn} (h : yF5 D D') {m : Int} (h0 : 0 ≤ m) (h1 : m < D.nodes.length) (hc : 0 ≤ (yAf D m).clo) (hr : m ≤ (yAf D m).last ∧ (yAf D m).last < D.nodes.length ∧ yC6 D m (yAf D m).last ∧ yFT D m (yAf D m).last) :
  m ≤ (yAf D' m).last ∧ (yAf D' m).last < D'.nodes.length ∧ yC6 D' m (yAf D' m).last ∧ yFT D' m (yAf D' m).last := by have hA := h.agr h0 hr.2.1 hr.2.2.2; rw [h.2 m h0 h1 hc]; have := h.1; exact ⟨hr.1, by omega, hr.2.2.1.keep hA, hr.2.2.2.keep hA⟩
theorem yCS {op : List Int} {j : Nat} (h : j < op.length) : op.getD j 0 ∈ op := by rw [jg, jk h]; exact List.getElem_mem h
theorem yE0 {op : List Int} (h : op.Pairwise (· < ·)) {i j : Nat} (hij : i < j) (hj : j < op.length) : op.getD i 0 < op.getD j 0 := by rw [jg, jg, jk (by omega), jk hj]; exact List.pairwise_iff_getElem.1 h i j (by omega) hj hij
theorem yGR {op : List Int} (h : op ≠ []) : yAB op ∈ op := by have : 0 < op.length := List.length_pos_iff.2 h; unfold yAB; rw [if_neg (by omega)]; exact yCS (by omega)
theorem yMU {op : List Int} (h : op.Pairwise (· < ·)) {m : Int} (hm : m ∈ op) : m ≤ yAB op := by
 obtain ⟨i, hi, rfl⟩ := List.mem_iff_getElem.1 hm; unfold yAB; rw [if_neg (by omega)]; have e : op[i] = op.getD i 0 := by rw [jg, jk hi]; rfl
 rw [e]; by_cases he : i = op.length - 1
 ·rw [he]; exact Int.le_refl _
 ·exact Int.le_of_lt (yE0 h (by omega) (by omega))
section
variable {D D' : yAn} {op : List Int}
theorem yNX (h : yBr D op) {e : EvD} {i : Nat} (_hn : e.num = D.nodes.length) {k : Int} (h0 : 0 ≤ k) (h1 : k ≤ D.nodes.length) :
  ndG (yBK e.num e.tx op (D.nodes ++ [yBF e i op])) k = if k = D.nodes.length then yBF e i op else if k ∈ op then yCy e.num e.tx (yAf D k) else yAf D k := by
 rw [yPe _ _ _ _ h.rise (fun m hm => by have := h.rng m hm; rw [jp]; simp; omega) k h0, yRf _ _ h0 h1]; by_cases e1 : k = D.nodes.length
 ·have hno : ¬ k ∈ op := fun hm => by have := h.rng k hm; omega
  rw [if_neg hno, if_pos e1, if_pos e1]
 ·rw [if_neg e1, if_neg e1]; rfl
theorem yJ4 (h : yBr D op) {e : EvD} {i : Nat} (hn : e.num = D.nodes.length) (hk : e.kd = 0 ∨ e.kd = 1) {op' : List Int} {c : Int}
  (hl : D'.nodes.length = D.nodes.length + 1) (hN : yAf D' D.nodes.length = { yBF e i op with clo := c }) (hO : ∀ k : Int, 0 ≤ k → k < D.nodes.length → yAf D' k = if k ∈ op then yCy e.num e.tx (yAf D k) else yAf D k)
  (hop : op' = op ++ [e.num] ∧ c < 0 ∧ e.kd = 0 ∨ op' = op ∧ 0 ≤ c) : yBr D' op' ∧ yF5 D D' := by
 have hK : yF5 D D' := ⟨by omega, fun k h0 h1 hc => by rw [hO k h0 h1, if_neg fun hm => by have := (h.opn k h0 h1).2 hm; omega]⟩
 have hmem : ∀ m, m ∈ op' → m ∈ op ∨ m = e.num ∧ c < 0 ∧ e.kd = 0 := fun m hm => by
  rcases hop with ⟨rfl, h2, h3⟩ | ⟨rfl, _⟩
  ·rcases List.mem_append.1 hm with hm | hm
   ·exact .inl hm
   ·exact .inr ⟨List.mem_singleton.1 hm, h2, h3⟩
  ·exact .inl hm
 have hsub : ∀ m ∈ op, m ∈ op' := fun m hm => by
  rcases hop with ⟨rfl, _⟩ | ⟨rfl, _⟩
  ·exact List.mem_append_left _ hm
  ·exact hm
 have hrng : ∀ m ∈ op', 0 ≤ m ∧ m < D'.nodes.length := fun m hm => by
  rcases hmem m hm with hm | ⟨rfl, _⟩
  ·have := h.rng m hm; omega
  ·omega
 have hpar : ∀ k : Int, 0 ≤ k → k < D.nodes.length → (yAf D' k).par = (yAf D k).par ∧ (yAf D' k).ev = (yAf D k).ev ∧ (yAf D' k).clo = (yAf D k).clo := fun k h0 h1 => by
  rw [hO k h0 h1]; split
  ·exact ⟨rfl, rfl, rfl⟩
  ·exact ⟨rfl, rfl, rfl⟩
 refine ⟨⟨?_, hrng, fun m h0 h1 => ?_, fun m hm => ?_, fun m h0 h1 hc => ?_, fun j hj => ?_, fun m hm k h1 h2 => ?_, fun m hm => ?_, fun m h0 h1 => ?_⟩, hK⟩
 ·rcases hop with ⟨rfl, _⟩ | ⟨rfl, _⟩
  ·rw [List.pairwise_append]; refine ⟨h.rise, List.pairwise_singleton _ _, fun a ha b hb => ?_⟩; rw [List.mem_singleton] at hb; have := h.rng a ha; omega
  ·exact h.rise
 ·by_cases e1 : m = D.nodes.length
  ·subst e1; rw [hN]; show c < 0 ↔ _; constructor
   ·intro hc; rcases hop with ⟨rfl, _⟩ | ⟨rfl, h2⟩
    ·rw [← hn]; simp
    ·omega
   ·intro hm; rcases hmem _ hm with hm | ⟨_, h2, _⟩
    ·have := h.rng _ hm; omega
    ·exact h2
  ·rw [(hpar m h0 (by omega)).2.2, h.opn m h0 (by omega)]; constructor
   ·exact hsub m
   ·intro hm; rcases hmem m hm with hm | ⟨e2, _⟩
    ·exact hm
    ·omega
 ·rcases hmem m hm with hm | ⟨rfl, _⟩
  ·have := h.rng m hm; rw [hO m (by omega) (by omega), if_pos hm, hl]; show e.num = _; omega
  ·rw [hn, hN, hl]; show e.num = _; omega
 ·by_cases e1 : m = D.nodes.length
  ·subst e1; have e2 : (yAf D' D.nodes.length).last = D.nodes.length := by rw [hN]; exact hn
   rw [e2]; refine ⟨Int.le_refl _, by omega, ⟨by omega, fun k k1 k2 => ?_⟩, fun k k1 k2 => ?_⟩
   ·obtain rfl : k = D.nodes.length := by omega
    rw [e2]; omega
   ·obtain rfl : k = D.nodes.length := by omega
    exact hc
  ·have h1' : m < D.nodes.length := by omega
   have hc' : 0 ≤ (yAf D m).clo := by rw [← (hpar m h0 h1').2.2]; exact hc
   exact hK.rngs h0 h1' hc' (h.rngs m h0 h1' hc')
 ·by_cases hj2 : j < op.length
  ·have e1 : op'.getD j 0 = op.getD j 0 := by
    rcases hop with ⟨rfl, _⟩ | ⟨rfl, _⟩
    ·rw [jg, List.getElem?_append_left hj2, ← jg]
    ·rfl
   have e2 : op'.take j = op.take j := by
    rcases hop with ⟨rfl, _⟩ | ⟨rfl, _⟩
    ·rw [List.take_append_of_le_length (by omega)]
    ·rfl
   have := h.rng _ (yCS hj2); rw [e1, e2, (hpar _ (by omega) (by omega)).1]; exact h.parO j hj2
  ·rcases hop with ⟨rfl, _⟩ | ⟨rfl, _⟩
   ·rw [jp, List.length_singleton] at hj; obtain rfl : j = op.length := by omega
    rw [jg, List.getElem?_append_right (jr _), Nat.sub_self, List.take_left]; show (yAf D' e.num).par = _; rw [hn, hN]; rfl
   ·omega
 ·have hk0 : 0 ≤ k := by have := hrng m hm; omega
  rcases hmem m hm with hm | ⟨rfl, _⟩
  ·by_cases e1 : k = D.nodes.length
   ·subst e1; rw [hN]; exact yMU h.rise hm
   ·rw [(hpar k hk0 (by omega)).1]; exact h.parLo m hm k h1 (by omega)
  ·omega
 ·rcases hmem m hm with hm | ⟨rfl, _, h3⟩
  ·have := h.rng m hm; rw [(hpar m (by omega) (by omega)).2.1]; exact h.ev m hm
  ·rw [hn, hN]; exact h3
 ·by_cases e1 : m = D.nodes.length
  ·subst e1; rw [hN]; exact hk
  ·rw [(hpar m h0 (by omega)).2.1]; exact h.kd m h0 (by omega)
theorem yMK (h : yBr D op) (hne : op ≠ []) {i : Nat} (hl : D'.nodes.length = D.nodes.length)
  (hN : yAf D' (yAB op) = yAP i (yAf D (yAB op))) (hO : ∀ k : Int, 0 ≤ k → k < D.nodes.length → k ≠ yAB op → yAf D' k = yAf D k) : yBr D' op.dropLast ∧ yF5 D D' := by
 have hpm := yGR hne; have hpr := h.rng _ hpm; have hlen : 0 < op.length := List.length_pos_iff.2 hne; have hK : yF5 D D' := ⟨by omega, fun k h0 h1 hc => hO k h0 h1 fun e => by subst e; have := (h.opn _ h0 h1).2 hpm; omega⟩
 have hsub : ∀ m, m ∈ op.dropLast → m ∈ op := fun m hm => List.dropLast_subset _ hm
 have hnot : ¬ yAB op ∈ op.dropLast := fun hm => by obtain ⟨i, hi, he⟩ := List.mem_iff_getElem.1 hm; rw [List.length_dropLast] at hi; rw [List.getElem_dropLast] at he; have h1 := yE0 h.rise (i := i) (j := op.length - 1) (by omega) (by omega); unfold yAB at he; rw [if_neg (by omega)] at he; rw [jg (i := i), jk (by omega)] at h1; simp only [Option.getD_some] at h1; omega
 have hmem : ∀ m, m ∈ op → m ≠ yAB op → m ∈ op.dropLast := fun m hm hm2 => by
  obtain ⟨i, hi, he⟩ := List.mem_iff_getElem.1 hm; refine List.mem_iff_getElem.2 ⟨i, ?_, ?_⟩
  ·rw [List.length_dropLast]; refine Nat.lt_of_le_of_ne (by omega) fun e => hm2 ?_
   unfold yAB; rw [if_neg (by omega), ← he, ← e, jg, jk hi]; rfl
  ·rw [List.getElem_dropLast]; exact he
 have hpar : ∀ k : Int, 0 ≤ k → k < D.nodes.length → (yAf D' k).par = (yAf D k).par ∧ (yAf D' k).ev = (yAf D k).ev ∧ (yAf D' k).last = (yAf D k).last := fun k h0 h1 => by
  by_cases e : k = yAB op
  ·subst e; rw [hN]; exact ⟨rfl, rfl, rfl⟩
  ·rw [hO k h0 h1 e]; exact ⟨rfl, rfl, rfl⟩
 refine ⟨⟨h.rise.sublist (List.dropLast_sublist _), fun m hm => by rw [hl]; exact h.rng m (hsub m hm), fun m h0 h1 => ?_, fun m hm => ?_, fun m h0 h1 hc => ?_, fun j hj => ?_, fun m hm k h1 h2 => ?_, fun m hm => ?_, fun m h0 h1 => ?_⟩, hK⟩
 ·rw [hl] at h1; by_cases e : m = yAB op
  ·subst e; rw [hN]; show (i : Int) < 0 ↔ _; exact ⟨fun h => by omega, fun h => absurd h hnot⟩
  ·rw [hO m h0 h1 e, h.opn m h0 h1]; exact ⟨fun hm => hmem m hm e, hsub m⟩
 ·have := h.rng m (hsub m hm); rw [(hpar m this.1 this.2).2.2, hl]; exact h.lst m (hsub m hm)
 ·rw [hl] at h1; by_cases e : m = yAB op
  ·subst e; have e2 : (yAf D' (yAB op)).last = (D.nodes.length : Int) - 1 := by rw [(hpar _ hpr.1 hpr.2).2.2]; exact h.lst _ hpm
   have hcl : ∀ k, yAB op < k → k < D.nodes.length → 0 ≤ (yAf D k).clo := fun k k1 k2 => by
    refine Int.not_lt.1 fun hc => ?_
    have := yMU h.rise ((h.opn k (by omega) k2).1 hc); omega
   rw [e2, hl]; refine ⟨by omega, by omega, ⟨hpr.1, fun k k1 k2 => ?_⟩, fun k k1 k2 => ?_⟩
   ·by_cases e3 : k = yAB op
    ·subst e3; rw [e2]; omega
    ·have := h.rngs k (by omega) (by omega) (hcl k (by omega) (by omega)); rw [(hpar k (by omega) (by omega)).2.2]; omega
   ·by_cases e3 : k = yAB op
    ·subst e3; exact hc
    ·rw [hO k (by omega) (by omega) e3]; exact hcl k (by omega) (by omega)
  ·have hc' : 0 ≤ (yAf D m).clo := by rw [← hO m h0 h1 e]; exact hc
   exact hK.rngs h0 h1 hc' (h.rngs m h0 h1 hc')
 ·rw [List.length_dropLast] at hj; have e1 : op.dropLast.getD j 0 = op.getD j 0 := by rw [jg, jg, List.getElem?_dropLast, if_pos hj]
  have e2 : op.dropLast.take j = op.take j := by rw [List.dropLast_eq_take, List.take_take, Nat.min_eq_left (by omega)]
  have := h.rng _ (yCS (show j < op.length by omega)); rw [e1, e2, (hpar _ this.1 this.2).1]; exact h.parO j (by omega)
 ·have := h.rng m (hsub m hm); rw [hl] at h2; rw [(hpar k (by omega) h2).1]; exact h.parLo m (hsub m hm) k h1 h2
 ·have := h.rng m (hsub m hm); rw [(hpar m this.1 this.2).2.1]; exact h.ev m (hsub m hm)
 ·rw [hl] at h1; rw [(hpar m h0 h1).2.1]; exact h.kd m h0 h1
theorem ySm (c : Bool) : yBr ⟨[], c⟩ [] :=
 ⟨List.Pairwise.nil, fun _ h => (by cases h), fun m h0 h1 => absurd h1 (by show ¬ m < ((0 : Nat) : Int); omega), fun _ h => (by cases h), fun m h0 h1 => absurd h1 (by show ¬ m < ((0 : Nat) : Int); omega), fun j hj => absurd hj (Nat.not_lt_zero _), fun _ h => (by cases h), fun _ h => (by cases h), fun m h0 h1 => absurd h1 (by show ¬ m < ((0 : Nat) : Int); omega)⟩
end
end Go.Proofs.YtkhejkfjhddobaaGreatDoor
namespace Gim
theorem same_iff (l T : List Int) : (decide (l.length = T.length) && !yCt l T) = decide (l = T) := by
 rw [Bool.eq_iff_iff, jb, decide_eq_true_eq, decide_eq_true_eq, Bool.not_eq_true']; constructor
 ·rintro ⟨h1, h2⟩; refine List.ext_getElem h1 fun j hj hj2 => ?_
  unfold yCt at h2; rw [List.any_eq_false] at h2; have := h2 j (List.mem_range.2 (by omega)); rw [bne_iff_ne, ne_eq, Classical.not_not, yFf hj, yFf hj2] at this; exact this.symm
 ·rintro rfl; exact ⟨rfl, by unfold yCt; simp⟩
theorem yH2 (l T : List Int) : (!yCt l T && decide (T.length ≤ l.length)) = yAj l T 0 := by
 rw [Bool.eq_iff_iff, jb, decide_eq_true_eq, Bool.not_eq_true', yAs]; unfold yCt; rw [List.any_eq_false]; constructor
 ·rintro ⟨h1, h2⟩; refine ⟨by omega, fun j hj => ?_⟩; have := h1 j (List.mem_range.2 (by omega)); rw [bne_iff_ne, ne_eq, Classical.not_not] at this; rw [Nat.zero_add]; exact this.symm
 ·rintro ⟨h1, h2⟩; refine ⟨fun j hj => ?_, by omega⟩; have := h2 j (by have := List.mem_range.1 hj; omega); rw [Nat.zero_add] at this; simp [this]
theorem yGk (l t : List Int) : ∀ (f n : Nat), (0 ≤ yCr l t f n) ↔ ∃ q, n ≤ q ∧ q < n + f ∧ yAj l t q = true
 | 0, n => by
  simp only [yCr]; constructor
  ·intro h; omega
  ·rintro ⟨q, h1, h2, _⟩; omega
 | f + 1, n => by
  unfold yCr; split
  ·rename_i h; exact ⟨fun _ => ⟨n, by omega, by omega, h⟩, fun _ => by omega⟩
  ·rename_i h; rw [yGk l t f (n + 1)]; constructor
   ·rintro ⟨q, h1, h2, h3⟩; exact ⟨q, by omega, by omega, h3⟩
   ·rintro ⟨q, h1, h2, h3⟩; exact ⟨q, by
     have : q ≠ n := fun e => h (e ▸ h3)
     omega, by omega, h3⟩
theorem yOv (l T : List Int) : yHM l T = decide (0 ≤ yDL l T) := by
 rw [Bool.eq_iff_iff, yEs, decide_eq_true_eq]; unfold yDL; rw [yGk]; constructor
 ·rintro ⟨p, hp⟩; exact ⟨p, by omega, by have := (yAs.1 hp).1; omega, hp⟩
 ·rintro ⟨q, _, _, h⟩; exact ⟨q, h⟩
end Gim
namespace Go.Proofs.YtkhejkfjhddobaaGreatDoor
open Go.RowKit Gim
def yQ1 (c : Int) (N : Nat) (T l : List Int) : Bool :=
 if c = 0 then true
 else if c = 1 then yBa l T == 0
 else if c = 2 then yBa l T != 0
 else if c = 3 then yAj l T 0
 else if c = 4 then yDR l T
 else if c = 5 then decide (0 ≤ yDL l T)
 else if c = 6 then decide (l.length = N)
 else if c = 7 then decide (N < l.length)
 else decide (l.length < N)
theorem yBV (a b : Bool) : yAx a b true = if a then 2 else 0 := by unfold yAx; cases a <;> cases b <;> rfl
theorem yIM {c : Int} {N : Nat} {s : ByteArray} {l : List Int} (h0 : 0 ≤ c) (h8 : c ≤ 8) : tB c N (yCl c s) l true = if yQ1 c N (rs s) l then 2 else 0 := by
 have hord : ∀ T : List Int, (yBa l T == 0) = decide (l = T) := fun T => by rw [Bool.eq_iff_iff, beq_iff_eq, decide_eq_true_eq]; exact yJq
 obtain rfl | rfl | rfl | rfl | rfl | rfl | rfl | rfl | rfl : c = 0 ∨ c = 1 ∨ c = 2 ∨ c = 3 ∨ c = 4 ∨ c = 5 ∨ c = 6 ∨ c = 7 ∨ c = 8 := by omega
 ·rfl
 ·show yAx (true && decide (l.length = (rs s).length) && !yCt l (rs s)) _ true = if yBa l (rs s) == 0 then 2 else 0
  rw [yBV, Bool.true_and, same_iff, hord]
 ·show 2 - yAx (true && decide (l.length = (rs s).length) && !yCt l (rs s)) _ true = if yBa l (rs s) != 0 then 2 else 0
  rw [yBV, Bool.true_and, same_iff, bne, hord]; by_cases h : l = rs s <;> simp [h]
 ·show yAx (!yCt l (rs s) && decide ((rs s).length ≤ l.length)) _ true = if yAj l (rs s) 0 then 2 else 0
  rw [yBV, yH2]
 ·show yAx (true && yDR l (rs s)) _ true = if yDR l (rs s) then 2 else 0
  rw [yBV, Bool.true_and]
 ·show yAx (yHM l (rs s)) _ true = if decide (0 ≤ yDL l (rs s)) then 2 else 0
  rw [yBV, yOv]
 ·show yAx (true && decide (l.length = N)) _ true = if decide (l.length = N) then 2 else 0
  rw [yBV, Bool.true_and]
 ·show yAx (decide (N < l.length)) _ true = if decide (N < l.length) then 2 else 0
  rw [yBV]
 ·show yAx (true && decide (l.length < N)) _ true = if decide (l.length < N) then 2 else 0
  rw [yBV, Bool.true_and]
def yAo (op : List Int) (d : Nat) : Int := if d = 0 then -1 else op.getD (d - 1) 0
def yAv (D : yAn) (op : List Int) (d : Nat) : Int := if d < op.length then op.getD d 0 else D.nodes.length
structure yDC (D : yAn) (nd : yAc) (m nx : Int) (f : FrS) : Prop where
 kind : f.kind = if m < 0 then 0 else if (yAf D m).ev.kd = 0 then 1 else 2
 name : 0 ≤ m → f.name = (yAf D m).ev.nm
 cl : f.child.length = nd.rows.length
 dl : f.deep.length = nd.rows.length
 attrs : ∀ p, p < nd.preds.length → opP nd p = 3 → (nd.preds.getD p zp).attr.toList ≠ [] → f.attrs.getD p 0 = yEt D nd p m
 hunts : ∀ p, p < nd.preds.length → opP nd p = 3 → (nd.preds.getD p zp).attr.toList = [] → (nd.preds.getD p zp).cmp ≠ 0 → f.hunts.getD p none = some ⟨(nd.preds.getD p zp).cmp, yCE (nd.preds.getD p zp).num, yCl (nd.preds.getD p zp).cmp (nd.preds.getD p zp).txt, rs (valD D m), !yB7 D m⟩
 ch : ∀ p j, p < nd.preds.length → opP nd p = 3 → j < yBc nd p → (f.child.getD (yAF nd p + j) false = true ↔ ∃ u, m < u ∧ u < nx ∧ (yAf D u).par = m ∧ yBW D nd p j u = 2)
 dp : ∀ p j, p < nd.preds.length → opP nd p = 3 → j < yBc nd p → (f.deep.getD (yAF nd p + j) false = true ↔ ∃ u, m < u ∧ u < nx ∧ yBW D nd p j u = 2)
def InB (D : yAn) (nd : yAc) (m nx : Int) : Option (List Int × List Int) → Prop
 | none => nx = yAY D m + 1
 | some q => m < nx ∧ nx ≤ yAY D m ∧ (yAf D nx).par = m ∧ (∀ v, nx < v → v ≤ yAY D m → (yAf D v).par ≠ m) ∧
  ∀ p j, p < nd.preds.length → opP nd p = 3 → j < yBc nd p → q.1.getD (yAF nd p + j) 0 = yBW D nd p j nx ∧ ∀ c, q.2.getD (yAF nd p + j) 0 ≤ c ↔ 0 ≤ c ∧ ∀ v, nx < v → v ≤ yAY D m → yBW D nd p j v ≤ c
theorem yLz {x : Int} {P : Int → Prop} (h : ∀ c, x ≤ c ↔ 0 ≤ c ∧ P c) (h2 : P 2) : 0 ≤ x ∧ x ≤ 2 := ⟨((h x).1 (Int.le_refl _)).1, (h 2).2 ⟨by decide, h2⟩⟩
theorem yON {l : List Int} {c : Int} (h : ∀ x ∈ l, 0 ≤ x ∧ x ≤ 2) : orF l ≤ c ↔ 0 ≤ c ∧ ∀ x ∈ l, x ≤ c := by unfold orF; exact yNU l 0 h
theorem yPR {D : yAn} {nd : yAc} {m nx : Int} {f : FrS} {ib : Option (List Int × List Int)} (hf : yDC D nd m nx f) (hi : InB D nd m nx ib) (h2 : ∀ v, m < v → v < nx → ∀ p j, yCI (yBW D nd p j v)) (hlt : nx ≤ yAY D m + 1)
  {p j : Nat} (hp : p < nd.preds.length) (h3 : opP nd p = 3) (hj : j < yBc nd p) {ax : Int} (hax : 0 ≤ ax ∧ ax ≤ 3) : yCo f ax (yAF nd p + j) (yBW D nd p j m) (yB7 D m) ib = yCv D ax (yBW D nd p j) m := by
 have hr := yH8 D nd p j; by_cases hs : ax = 3
 ·subst hs; unfold yCo; rw [if_pos rfl]; refine yI4 fun c => ?_
  rw [yL9]; constructor
  ·intro h; refine ⟨by have := hr m; omega, fun u hu => ?_, fun h _ => absurd rfl h⟩; rw [yBj] at hu; rcases hu with ⟨_, rfl⟩ | ⟨_, _, h⟩
   ·exact h
   ·omega
  ·rintro ⟨_, h, _⟩; exact h m (yBj.2 (.inl ⟨.inr rfl, rfl⟩))
 ·have hx3 : ∀ k : Int, (ax = 0 → (yAf D k).par = m) → (ax = 1 ∨ ax = 2 ∨ ax = 0 ∧ (yAf D k).par = m) := fun k hk => by
   obtain h | h | h : ax = 0 ∨ ax = 1 ∨ ax = 2 := by omega
   ·exact .inr (.inr ⟨h, hk h⟩)
   ·exact .inl h
   ·exact .inr (.inl h)
  obtain ⟨fl, hfl⟩ : ∃ fl, (if ax = 0 then f.child.getD (yAF nd p + j) false else f.deep.getD (yAF nd p + j) false) = fl := ⟨_, rfl⟩
  have hch := hf.ch p j hp h3 hj; have hdp := hf.dp p j hp h3 hj; unfold yCo; rw [if_neg hs]; have hib : ∀ q, ib = some q → (0 ≤ q.1.getD (yAF nd p + j) 0 ∧ q.1.getD (yAF nd p + j) 0 ≤ 2) ∧ (0 ≤ q.2.getD (yAF nd p + j) 0 ∧ q.2.getD (yAF nd p + j) 0 ≤ 2) := fun q hq => by subst hq; obtain ⟨e1, e2⟩ := hi.2.2.2.2 p j hp h3 hj; rw [e1]; exact ⟨hr nx, yLz e2 fun v _ _ => (hr v).2⟩
  have hrg : ∀ x ∈ yFy f ax (yAF nd p + j) (yBW D nd p j m) (yB7 D m) ib, 0 ≤ x ∧ x ≤ 2 := fun x hx => by
   unfold yFy at hx; rw [hfl] at hx; simp only [List.mem_append] at hx; rcases hx with (((hx | hx) | hx) | hx) | hx
   ·rw [List.mem_singleton] at hx; omega
   ·split at hx
    ·rw [List.mem_singleton] at hx; omega
    ·cases hx
   ·split at hx
    ·rw [List.mem_singleton] at hx; omega
    ·cases hx
   ·cases ib with
    | none => cases hx
    | some q =>
     obtain ⟨k1, k2⟩ := hib q rfl; rcases List.mem_append.1 hx with hx | hx
     ·rw [List.mem_singleton] at hx; rw [hx]; exact k1
     ·split at hx
      ·cases hx
      ·rw [List.mem_singleton] at hx; rw [hx]; exact k2
   ·split at hx
    ·rw [List.mem_singleton] at hx; rw [hx]; exact hr m
    ·cases hx
  refine yI4 fun c => ?_
  rw [yON hrg, yL9]; constructor
  ·rintro ⟨h0, h⟩; have hl : ∀ x, x ∈ yFy f ax (yAF nd p + j) (yBW D nd p j m) (yB7 D m) ib → x ≤ c := h
   unfold yFy at hl; rw [hfl] at hl; simp only [List.mem_append] at hl; refine ⟨h0, fun u hu => ?_, fun _ ho => hl 1 (.inl (.inl (.inl (.inr (by rw [if_pos ho]; simp)))))⟩; rw [yBj] at hu; rcases hu with ⟨ha, rfl⟩ | ⟨k1, k2, ha⟩
   ·have ha : ax = 2 := ha.resolve_right hs; exact hl _ (.inr (by rw [if_pos ha]; simp))
   ·by_cases e1 : u < nx
    ·rcases h2 u k1 e1 p j with e2 | e2
     ·omega
     ·rw [e2]; refine hl 2 (.inl (.inl (.inr ?_))); have hfl1 : fl = true := by
       rw [← hfl]; by_cases e3 : ax = 0
       ·rw [if_pos e3]; refine hch.2 ⟨u, k1, e1, ?_, e2⟩; rcases ha with h | h | h
        ·rw [e3] at h; cases h
        ·rw [e3] at h; cases h
        ·exact h.2
       ·rw [if_neg e3]; exact hdp.2 ⟨u, k1, e1, e2⟩
      rw [hfl1]; simp
    ·cases ib with
     | none =>
      have : nx = yAY D m + 1 := hi; omega
     | some q =>
      obtain ⟨g1, g2, g3, g4, g5⟩ := hi; obtain ⟨e4, e5⟩ := g5 p j hp h3 hj; by_cases e3 : u = nx
      ·subst e3; rw [← e4]; exact hl _ (.inl (.inr (List.mem_append_left _ (by simp))))
      ·have e6 : ax ≠ 0 := fun e => g4 u (by omega) k2 (by
        rcases ha with h | h | h
        ·rw [e] at h; cases h
        ·rw [e] at h; cases h
        ·exact h.2)
       have := hl (q.2.getD (yAF nd p + j) 0) (.inl (.inr (List.mem_append_right _ (by rw [if_neg e6]; simp)))); exact ((e5 c).1 this).2 u (by omega) k2
  ·rintro ⟨h0, h1, h3'⟩; refine ⟨h0, fun x hx => ?_⟩; unfold yFy at hx; rw [hfl] at hx; simp only [List.mem_append] at hx; rcases hx with (((hx | hx) | hx) | hx) | hx
   ·rw [List.mem_singleton] at hx; omega
   ·split at hx
    ·rename_i ho; rw [List.mem_singleton] at hx; rw [hx]; exact h3' hs ho
    ·cases hx
   ·split at hx
    ·rename_i ho; rw [List.mem_singleton] at hx; subst hx; rw [← hfl] at ho; by_cases e3 : ax = 0
     ·rw [if_pos e3] at ho; obtain ⟨u, k1, k2, k3, k4⟩ := hch.1 ho; rw [← k4]; exact h1 u (yBj.2 (.inr ⟨k1, by omega, .inr (.inr ⟨e3, k3⟩)⟩))
     ·rw [if_neg e3] at ho; obtain ⟨u, k1, k2, k4⟩ := hdp.1 ho; rw [← k4]; exact h1 u (yBj.2 (.inr ⟨k1, by omega, hx3 u fun h => absurd h e3⟩))
    ·cases hx
   ·cases ib with
    | none => cases hx
    | some q =>
     obtain ⟨g1, g2, g3, g4, g5⟩ := hi; obtain ⟨e4, e5⟩ := g5 p j hp h3 hj; rcases List.mem_append.1 hx with hx | hx
     ·rw [List.mem_singleton] at hx; rw [hx, e4]; exact h1 nx (yBj.2 (.inr ⟨g1, g2, hx3 nx fun _ => g3⟩))
     ·split at hx
      ·cases hx
      ·rename_i e3; rw [List.mem_singleton] at hx; rw [hx, e5]; exact ⟨h0, fun v k1 k2 => h1 v (yBj.2 (.inr ⟨by omega, k2, hx3 v fun h => absurd h e3⟩))⟩
   ·split at hx
    ·rename_i ha; rw [List.mem_singleton] at hx; rw [hx]; exact h1 m (yBj.2 (.inl ⟨.inl ha, rfl⟩))
    ·cases hx
/-! ### what a hunt knows -/
theorem yL2 {l T : List Int} (h : l.length ≤ T.length) : yCt l T = !yAj T l 0 := by
 rw [Bool.eq_iff_iff, Bool.not_eq_true', ← Bool.not_eq_true, yAs]; unfold yCt; rw [List.any_eq_true]; constructor
 ·rintro ⟨j, hj, hne⟩ ⟨_, h2⟩; have hj := List.mem_range.1 hj; have := h2 j (by omega); rw [Nat.zero_add] at this; rw [bne_iff_ne] at hne; exact hne this
 ·intro hn; refine Classical.byContradiction fun hc => hn ⟨by omega, fun j hj => ?_⟩
  rw [Nat.zero_add]; refine Classical.byContradiction fun hne => hc ⟨j, List.mem_range.2 (by omega), by rw [bne_iff_ne]; exact hne⟩
theorem yP0 {c num : Int} {txt : ByteArray} {l : List Int} (hc : 0 ≤ c ∧ c ≤ 8) (hn : 0 ≤ num) : tB c (yCE num) (yCl c txt) l false = yBL c (rs txt) l num := by
 have hN : ((yCE num : Nat) : Int) = num := by unfold yCE; omega
 have hst : ∀ T : List Int, yAj T l 0 = (decide (l.length ≤ T.length) && !yCt l T) := fun T => by
  by_cases hle : l.length ≤ T.length
  ·rw [yL2 hle, Bool.not_not]; simp [hle]
  ·rw [decide_eq_false hle, Bool.false_and, ← Bool.not_eq_true, yAs]; rintro ⟨h1, _⟩; omega
 obtain rfl | rfl | rfl | rfl | rfl | rfl | rfl | rfl | rfl : c = 0 ∨ c = 1 ∨ c = 2 ∨ c = 3 ∨ c = 4 ∨ c = 5 ∨ c = 6 ∨ c = 7 ∨ c = 8 := by omega
 ·rfl
 ·show yAx (false && decide (l.length = (rs txt).length) && !yCt l (rs txt)) (yCt l (rs txt) || decide ((rs txt).length < l.length)) false = if yAj (rs txt) l 0 then 1 else 0
  rw [hst]; unfold yAx; by_cases h1 : l.length ≤ (rs txt).length
  ·have h1' : ¬ (rs txt).length < l.length := by omega
   cases yCt l (rs txt) <;> simp [h1, h1']
  ·have h1' : (rs txt).length < l.length := by omega
   cases yCt l (rs txt) <;> simp [h1, h1']
 ·show 2 - yAx (false && decide (l.length = (rs txt).length) && !yCt l (rs txt)) (yCt l (rs txt) || decide ((rs txt).length < l.length)) false = if yAj (rs txt) l 0 then 1 else 2
  rw [hst]; unfold yAx; by_cases h1 : l.length ≤ (rs txt).length
  ·have h1' : ¬ (rs txt).length < l.length := by omega
   cases yCt l (rs txt) <;> simp [h1, h1']
  ·have h1' : (rs txt).length < l.length := by omega
   cases yCt l (rs txt) <;> simp [h1, h1']
 ·show yAx (!yCt l (rs txt) && decide ((rs txt).length ≤ l.length)) (yCt l (rs txt)) false = if yAj l (rs txt) 0 then 2 else if yAj (rs txt) l 0 then 1 else 0
  rw [← yH2, hst]; unfold yAx; by_cases h1 : l.length ≤ (rs txt).length
  ·by_cases h2 : (rs txt).length ≤ l.length <;> cases yCt l (rs txt) <;> simp [h1, h2]
  ·by_cases h2 : (rs txt).length ≤ l.length <;> cases yCt l (rs txt) <;> simp [h1, h2] <;> omega
 ·show yAx (false && yDR l (rs txt)) false false = 1; rfl
 ·show yAx (yHM l (rs txt)) false false = if 0 ≤ yDL l (rs txt) then 2 else 1
  rw [yOv]; unfold yAx; by_cases h : 0 ≤ yDL l (rs txt) <;> simp [h]
 ·show yAx (false && decide (l.length = yCE num)) (decide (yCE num < l.length)) false = if num < l.length then 0 else 1
  unfold yAx; by_cases h : num < l.length
  ·rw [if_pos h, decide_eq_true (show yCE num < l.length by omega)]; rfl
  ·rw [if_neg h, decide_eq_false (show ¬ yCE num < l.length by omega)]; rfl
 ·show yAx (decide (yCE num < l.length)) false false = if num < l.length then 2 else 1
  unfold yAx; by_cases h : num < l.length
  ·rw [if_pos h, decide_eq_true (show yCE num < l.length by omega)]; rfl
  ·rw [if_neg h, decide_eq_false (show ¬ yCE num < l.length by omega)]; rfl
 ·show yAx (false && decide (l.length < yCE num)) (decide (yCE num ≤ l.length)) false = if num ≤ l.length then 0 else 1
  unfold yAx; by_cases h : num ≤ l.length
  ·rw [if_pos h, decide_eq_true (show yCE num ≤ l.length by omega)]; rfl
  ·rw [if_neg h, decide_eq_false (show ¬ yCE num ≤ l.length by omega)]; rfl
theorem yLA {c num : Int} {T l : List Int} (hc : 0 ≤ c ∧ c ≤ 8) (hn : 0 ≤ num) : yQ1 c (yCE num) T l = yHe c T l num := by
 have hN : ((yCE num : Nat) : Int) = num := by unfold yCE; omega
 obtain rfl | rfl | rfl | rfl | rfl | rfl | rfl | rfl | rfl : c = 0 ∨ c = 1 ∨ c = 2 ∨ c = 3 ∨ c = 4 ∨ c = 5 ∨ c = 6 ∨ c = 7 ∨ c = 8 := by omega
 ·rfl
 ·show (yBa l T == 0) = decide (yBa l T = 0); rfl
 ·show (yBa l T != 0) = !decide (yBa l T = 0); rfl
 ·rfl
 ·rfl
 ·rfl
 ·show decide (l.length = yCE num) = decide ((l.length : Int) = num); rw [decide_eq_decide]; omega
 ·show decide (yCE num < l.length) = decide (num < l.length); rw [decide_eq_decide]; omega
 ·show decide (l.length < yCE num) = decide ((l.length : Int) < num); rw [decide_eq_decide]; omega
end Go.Proofs.YtkhejkfjhddobaaGreatDoor
