/- The walk of runes.MendParts. -/
import Derived.Test.YtpkdbfnnbbkkiaaDoorMendLaw
namespace Go.Proofs.YtpkdbfnnbbkkiaaDoor
open Go.RowKit Gim
theorem info_rune : (Tryd.prog.info? 21).map (fun i => (i.zero, i.size, i.bytes)) = some (some (.int .i32 0), 1, 4) := by kernel_rfl
theorem _root_.Gim.Row.stays {w w1 : World} {B : Nat} {e : TypeId} {k : IntKind} {v : Value} {xs : List Int} (h : Row w B e k v xs) (hb : Below w.heap.size w w1) : Row w1 B e k v xs := by
  refine ⟨h.1, ?_⟩
  rcases h.2 with h2 | ⟨g, cap, cur, a, b, c, rest⟩
  · exact .inl h2
  · exact .inr ⟨g, cap, cur, a, b, (hb.block g (Array.getElem?_eq_some_iff.1 c).1).trans c, rest⟩
/-- '[]byte(s)' -/
theorem rb_str (w : World) (s : ByteArray) (t : TypeId) (cap : Nat) (fr : Nat × Nat) (h1 : s.size ≤ cap) (h2 : cap ≤ maxLen) : Rb (w.alloc (.cells (bytesRow s cap) t fr)).drew (some ⟨w.heap.size, 0, none⟩) s.size cap (bz s.data.toList) := by
  have h := rd_bytes w s t cap fr h1 h2
  exact ⟨h.drewN 1, gt_all h.len fun x hx => bz_byte hx⟩
end Go.Proofs.YtpkdbfnnbbkkiaaDoor
