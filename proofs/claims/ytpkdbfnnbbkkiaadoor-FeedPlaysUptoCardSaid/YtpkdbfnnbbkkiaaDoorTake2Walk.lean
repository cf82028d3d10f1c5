/- The walk of runes.Decoder.Take, whatever it answers; what it leaves as it was. -/
import Derived.Test.YtpkdbfnnbbkkiaaDoorTakesLaw
import Derived.Test.YtpkdbfnnbbkkiaaDoorTakeWalk
import Derived.Maps.AppendAt
namespace Gim
open Go Go.RowKit
/-- 'append(out, x)' of one number, and where the answer lies -/
theorem append1_at {P : Program} (w : World) {ops : Array Oper} {rest : List Oper} {o : Oper} {a : Act} {Q : Exit → Act → World → Prop} (hg : o.guard = none) (s x : Operand) (t : TypeId)
    (ho : o.op = .call { callee := .builtin .append, args := #[s, x], argTypes := #[t, t] }) (B : Nat) (e : TypeId) (k : IntKind) (bytes : Nat)
    (hinfo : (P.info? e).map (fun i => (i.zero, i.size, i.bytes)) = some (some (.int k 0), 1, bytes)) (ht : P.underlying t = some (.slice e))
    (v : Value) (xs : List Int) (hs : a.eval s = v) (hrow : Row w B e k v xs) (z : Int) (hx : a.eval x = .slice (some ⟨w.heap.size, 0, none⟩) 1 1)
    (hlen : xs.length < 1099511627776) (hby : bytes ≤ 8) (hB : B ≤ w.heap.size)
    (hK : ∀ v' w', Row w' B e k v' (xs ++ [z]) → w.grownBy w' v.ownBlock → (∀ g, v'.ownBlock = some g → v.ownBlock = some g ∨ w.heap.size ≤ g) → wpList P ops Q rest (a.put o.dst v') w') :
    wpList P ops Q (o :: rest) a (w.alloc (.cells #[.int k z] e)) := by
  obtain ⟨i0, hi, hz0, hz1, hz2⟩ := info_parts hinfo
  refine wpList_append_own_at _ hg s x t ho B e i0 (.int k 0) 1 bytes ht hi hz0 hz1 hz2 rfl (by decide) v xs.length (xs.map (Value.int k)) hs (World.ownsRow.alloc hrow _) ⟨w.heap.size, 0, none⟩ 1 1 [.int k z] hx rfl (one_new _ _ _)
    (fun x hx => by simp at hx; rcases hx with rfl; rfl) (by unfold maxLen; omega) (by have := Nat.mul_le_mul_left (xs.length + 1) hby; omega) (by simp; omega) ?_
  intro v' w' h1 h2 _ hat
  refine hK v' w' ?_ ?_ ?_
  · unfold Row
    simpa using h1
  · have h3 := World.grownBy_alloc w (.cells #[.int k z] e) v.ownBlock
    exact ⟨h2.os.trans h3.os, h2.tape.trans h3.tape, h2.output.trans h3.output, Nat.le_trans h3.size h2.size,
      fun j hj hne => (h2.block j (Nat.lt_of_lt_of_le hj h3.size) hne).trans (h3.block j hj hne)⟩
  · intro g hg
    rcases hat with h | h
    · exact .inl (h ▸ hg)
    · rw [h] at hg
      simp only [Option.some.injEq, World.alloc, Array.size_push] at hg
      exact .inr (by omega)
end Gim
namespace Go.Proofs.YtpkdbfnnbbkkiaaDoor
open Go.RowKit Gim
end Go.Proofs.YtpkdbfnnbbkkiaaDoor
