/- An append of one number inside a region that draws its order. -/
import Derived.Test.YtbbfifaojepjiaaDoorBase
import Derived.Deep.RegionLaw
import Derived.Laws.AppendOwn
namespace Gim
open Go Go.RowKit
theorem step_app1 {P : Program} (w : World) {ops : Array Oper} {o : Oper} {a : Act} {K : Act → World → Prop} {Q : Exit → Act → World → Prop} {E : Prop} (hgd : o.guard = none) (s x : Operand) (t : TypeId)
    (ho : o.op = .call { callee := .builtin .append, args := #[s, x], argTypes := #[t, t] }) (B : Nat) (e : TypeId) (k : IntKind) (bytes : Nat)
    (hinfo : (P.info? e).map (fun i => (i.zero, i.size, i.bytes)) = some (some (.int k 0), 1, bytes)) (ht : P.underlying t = some (.slice e))
    (v : Value) (xs : List Int) (hs : a.eval s = v) (X : Nat) (z : Int) (hx : a.eval x = .slice (some ⟨X, 0, none⟩) 1 1)
    (hlen : xs.length < 1099511627776) (hby : bytes ≤ 8) 
    (hrow : Row w B e k v xs) (hc : w.cell? ⟨X, 0, none⟩ = some (.int k z)) (hB : B ≤ w.heap.size)
    (hK : ∀ v' w', Row w' B e k v' (xs ++ [z]) → w.grownBy w' v.ownBlock → K (a.put o.dst v') w') :
    if Region.wanted o (yielded ops a.tmps) = true then Oper.wp P o a w K Q else E := by
  have hw : Region.wanted o (yielded ops a.tmps) = true := by simp [Region.wanted, hgd]
  rw [if_pos hw]
  obtain ⟨i0, hi, hz0, hz1, hz2⟩ := info_parts hinfo
  obtain ⟨v', w', hrun, r1, r2, _⟩ := run_append_own (P := P) (w := w) B t o.type e i0 (.int k 0) 1 bytes ht hi hz0 hz1 hz2 rfl (by decide) v xs.length (xs.map (Value.int k)) hrow ⟨X, 0, none⟩ 1 1 [.int k z] rfl
    (fun j u hj => by
      cases j with
      | zero => simp at hj; subst hj; simpa [Addr.add] using hc
      | succ j => simp at hj)
    (fun x hx => by simp at hx; rcases hx with rfl; rfl) (by unfold maxLen; omega) (by have := Nat.mul_le_mul_left (xs.length + 1) hby; omega) hB
  unfold Oper.wp execOp
  simp only [ho, resolve, invoke, builtin, Sem.run_bind, Sem.run_pure, Result.andThen_ok, List.map_toArray, List.map_cons, List.map_nil, hs, hx, hrun]
  refine hK v' w' ?_ r2
  unfold Row
  simpa using r1
end Gim
