/- The walk of gimletlaw01.RunesOrder. -/
import Derived.Test.YtbbfifaojepjiaaDoorConvR
import Derived.Test.YtbbfifaojepjiaaDoorAwakeA
namespace Gim
open Go
theorem encs_size : ∀ {l : List Int}, (∀ r ∈ l, Ch r) → (encs l).length ≤ 4 * l.length
  | [], _ => by simp [encs]
  | r :: l, h => by
    have h1 := encs_size (fun x hx => h x (List.mem_cons_of_mem _ hx))
    have h2 := (enc_len (h r List.mem_cons_self)).2.1
    simp only [encs, List.flatMap_cons, List.length_append, List.length_cons] at h1 ⊢
    omega
theorem mend_size (s : ByteArray) : (runesBytes (rs s)).size ≤ 4 * s.size := by
  have h1 := encs_size (rs_ch s)
  have h2 := rs_length s
  have h3 := Lib.size_eq (runesBytes (rs s))
  rw [runesBytes_list] at h3
  omega
end Gim
namespace Go.Proofs.YtbbfifaojepjiaaDoor
open Go.RowKit Gim
end Go.Proofs.YtbbfifaojepjiaaDoor
