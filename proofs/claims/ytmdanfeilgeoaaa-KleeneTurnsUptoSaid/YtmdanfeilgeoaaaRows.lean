/-
  NARROWER THAN 'FOR EVERY INPUT', by the rows' own cells (each row's printed sentence says how): KleeneSimplifies: loops · KleeneTurns: loops · KleeneMemory: loops · KleeneGrows: loops · KleeneKeeps: loops.
  DERIVED. THE GIVEN ROWS OF THIS SEAT. 5 by the template 'for every input the law returns true; each argument reads behind the call as it read before'; 0 by the template 'total and deterministic' (their statements: YtmdanfeilgeoaaaTotals.lean).
  GIVEN WITH THE SEED: the statements are not yours to turn. If you find one false, say at which input.
  Laid BY PROGRAM, IN A SANDBOX (cutbox-rows.mjs): the forced cells as the released guide's own fill.sh prints them over the translation 4cabd837afc3ad29… (all of the seat's roots in one cut). By AI agents, Wed Nov 11 2026. No macro, syntax, notation, axiom, sorry.
-/
import Derived.Test.YtmdanfeilgeoaaaChecked
import GoSem.Claim
import GoSem.ClaimJoined
import GoSem.ClaimMapViews
import Derived.JoinedTies
import Derived.KernelRfl
namespace Go.Proofs.Ytmdanfeilgeoaaa
/- THE CELL 'sum', in the pinned program and in every row, IS THE sha256 OF THE DUMP (.gsa) THAT YtmdanfeilgeoaaaProg.lean LOADS. Nothing in Lean hashes anything: it is a label: what it is worth is what the hold of that sum in a sandbox is worth. -/
noncomputable def Try.pinned : Pinned := { name := "ytmdanfeilgeoaaa", sum := "4cabd837afc3ad299b2d2be08e8192116a3ce9215b99b0cc40d9624ff93ab942", checked := Try.checked }
namespace Rows
def none {H : Type} : Left H := { results := [], args := [] }

/-- 'gimletlaw14.KleeneSimplifies': WHATEVER THE INPUT: true; the input reads as it did. -/
def kleeneSimplifiesSpec : ChangeSpec := { name := "kleeneSimplifies", fn := fun _ => fun
  | [d1, d2] => { results := [.lit (.bool true)], args := [d1, d2] }
  | _ => none }
def kleeneSimplifiesRow : OpenClaim := { program := "ytmdanfeilgeoaaa", sum := "4cabd837afc3ad299b2d2be08e8192116a3ce9215b99b0cc40d9624ff93ab942", func := "gimlet/gimletlaw14.KleeneSimplifies", spec := "kleeneSimplifies", unfollowed := true, recurses := true, loops := true, apart := false }
def KleeneSimplifiesSaid : Prop := kleeneSimplifiesRow.holds Try.pinned (OpenSpec.ofChange kleeneSimplifiesSpec)

/-- ITS FALSE NEIGHBOUR: 'it returns false'. Refute it at one input. -/
def kleeneSimplifiesWrong : ChangeSpec := { name := "kleeneSimplifies", fn := fun _ => fun
  | [d1, d2] => { results := [.lit (.bool false)], args := [d1, d2] }
  | _ => none }
def KleeneSimplifiesWrongFalsely : Prop := kleeneSimplifiesRow.holds Try.pinned (OpenSpec.ofChange kleeneSimplifiesWrong)

/-- 'gimletlaw14.KleeneTurns': WHATEVER THE INPUT: true; the input reads as it did. -/
def kleeneTurnsSpec : ChangeSpec := { name := "kleeneTurns", fn := fun _ => fun
  | [d] => { results := [.lit (.bool true)], args := [d] }
  | _ => none }
def kleeneTurnsRow : OpenClaim := { program := "ytmdanfeilgeoaaa", sum := "4cabd837afc3ad299b2d2be08e8192116a3ce9215b99b0cc40d9624ff93ab942", func := "gimlet/gimletlaw14.KleeneTurns", spec := "kleeneTurns", unfollowed := true, recurses := true, loops := true, apart := false }
def KleeneTurnsSaid : Prop := kleeneTurnsRow.holds Try.pinned (OpenSpec.ofChange kleeneTurnsSpec)

/-- ITS FALSE NEIGHBOUR: 'it returns false'. Refute it at one input. -/
def kleeneTurnsWrong : ChangeSpec := { name := "kleeneTurns", fn := fun _ => fun
  | [d] => { results := [.lit (.bool false)], args := [d] }
  | _ => none }
def KleeneTurnsWrongFalsely : Prop := kleeneTurnsRow.holds Try.pinned (OpenSpec.ofChange kleeneTurnsWrong)

/-- 'gimletlaw14.KleeneMemory': WHATEVER THE INPUT: true; the input reads as it did. -/
def kleeneMemorySpec : ChangeSpec := { name := "kleeneMemory", fn := fun _ => fun
  | [d1, d2] => { results := [.lit (.bool true)], args := [d1, d2] }
  | _ => none }
def kleeneMemoryRow : OpenClaim := { program := "ytmdanfeilgeoaaa", sum := "4cabd837afc3ad299b2d2be08e8192116a3ce9215b99b0cc40d9624ff93ab942", func := "gimlet/gimletlaw14.KleeneMemory", spec := "kleeneMemory", unfollowed := true, recurses := true, loops := true, apart := false }
def KleeneMemorySaid : Prop := kleeneMemoryRow.holds Try.pinned (OpenSpec.ofChange kleeneMemorySpec)

/-- ITS FALSE NEIGHBOUR: 'it returns false'. Refute it at one input. -/
def kleeneMemoryWrong : ChangeSpec := { name := "kleeneMemory", fn := fun _ => fun
  | [d1, d2] => { results := [.lit (.bool false)], args := [d1, d2] }
  | _ => none }
def KleeneMemoryWrongFalsely : Prop := kleeneMemoryRow.holds Try.pinned (OpenSpec.ofChange kleeneMemoryWrong)

/-- 'gimletlaw14.KleeneGrows': WHATEVER THE INPUT: true; the input reads as it did. -/
def kleeneGrowsSpec : ChangeSpec := { name := "kleeneGrows", fn := fun _ => fun
  | [d1, d2, d3] => { results := [.lit (.bool true)], args := [d1, d2, d3] }
  | _ => none }
def kleeneGrowsRow : OpenClaim := { program := "ytmdanfeilgeoaaa", sum := "4cabd837afc3ad299b2d2be08e8192116a3ce9215b99b0cc40d9624ff93ab942", func := "gimlet/gimletlaw14.KleeneGrows", spec := "kleeneGrows", unfollowed := true, recurses := true, loops := true, apart := false }
def KleeneGrowsSaid : Prop := kleeneGrowsRow.holds Try.pinned (OpenSpec.ofChange kleeneGrowsSpec)

/-- ITS FALSE NEIGHBOUR: 'it returns false'. Refute it at one input. -/
def kleeneGrowsWrong : ChangeSpec := { name := "kleeneGrows", fn := fun _ => fun
  | [d1, d2, d3] => { results := [.lit (.bool false)], args := [d1, d2, d3] }
  | _ => none }
def KleeneGrowsWrongFalsely : Prop := kleeneGrowsRow.holds Try.pinned (OpenSpec.ofChange kleeneGrowsWrong)

/-- 'gimletlaw14.KleeneKeeps': WHATEVER THE INPUT: true; the input reads as it did. -/
def kleeneKeepsSpec : ChangeSpec := { name := "kleeneKeeps", fn := fun _ => fun
  | [d1, d2, d3] => { results := [.lit (.bool true)], args := [d1, d2, d3] }
  | _ => none }
def kleeneKeepsRow : OpenClaim := { program := "ytmdanfeilgeoaaa", sum := "4cabd837afc3ad299b2d2be08e8192116a3ce9215b99b0cc40d9624ff93ab942", func := "gimlet/gimletlaw14.KleeneKeeps", spec := "kleeneKeeps", unfollowed := true, recurses := true, loops := true, apart := false }
def KleeneKeepsSaid : Prop := kleeneKeepsRow.holds Try.pinned (OpenSpec.ofChange kleeneKeepsSpec)

/-- ITS FALSE NEIGHBOUR: 'it returns false'. Refute it at one input. -/
def kleeneKeepsWrong : ChangeSpec := { name := "kleeneKeeps", fn := fun _ => fun
  | [d1, d2, d3] => { results := [.lit (.bool false)], args := [d1, d2, d3] }
  | _ => none }
def KleeneKeepsWrongFalsely : Prop := kleeneKeepsRow.holds Try.pinned (OpenSpec.ofChange kleeneKeepsWrong)

/- THE SECOND FORM. 'bulk': how many values and letters a reading holds, each counted each time it is reached (what is shared counts as often as it is met; a slice's spare places count too). A statement '..UptoSaid' is the law's where the arguments, and the package variables that the reading takes, are together of bulk at most 1048576: NARROWER than '..Said'. Prove '..Said' where nothing that the law and all that it calls make is longer than what came in: it says more and counts as full. Else prove '..UptoSaid'. A law counts once. -/
mutual
def uptoBulk {H : Type} : DataW H → Nat
  | .lit (.string bytes) => bytes.length + 1
  | .lit _ => 1
  | .nil => 1
  | .ptr d => uptoBulk d + 1
  | .slice elems spare => uptoBulkAll elems + uptoBulkAll spare + 1
  | .agg parts => uptoBulkAll parts + 1
  | .iface _ d => uptoBulk d + 1
  | .map entries => uptoBulkEntries entries + 1
  | .held _ => 1
def uptoBulkAll {H : Type} : List (DataW H) → Nat
  | [] => 0
  | d :: r => uptoBulk d + uptoBulkAll r
def uptoBulkEntries {H : Type} : List (Lit × DataW H) → Nat
  | [] => 0
  | x :: r => uptoBulkEntry x + uptoBulkEntries r
def uptoBulkEntry {H : Type} : Lit × DataW H → Nat
  | (.string bytes, d) => bytes.length + uptoBulk d + 1
  | (_, d) => uptoBulk d + 1
 end
def uptoSmall : (H : Type) → List (DataW H) → Bool := fun _ ds => decide (uptoBulkAll ds ≤ 1048576)
def OpenSpec.upto (s : _root_.Go.ChangeSpec) : _root_.Go.OpenSpec := { _root_.Go.OpenSpec.ofChange s with cond := some uptoSmall }

/-- 'gimletlaw14.KleeneSimplifies', WHERE WHAT IT READS IS OF BULK AT MOST 1048576: true; the input reads as it did. -/
def kleeneSimplifiesUptoRow : OpenClaim := { program := "ytmdanfeilgeoaaa", sum := "4cabd837afc3ad299b2d2be08e8192116a3ce9215b99b0cc40d9624ff93ab942", func := "gimlet/gimletlaw14.KleeneSimplifies", spec := "kleeneSimplifies", unfollowed := true, recurses := true, loops := true, apart := false, narrowed := true }
def KleeneSimplifiesUptoSaid : Prop := kleeneSimplifiesUptoRow.holds Try.pinned (OpenSpec.upto kleeneSimplifiesSpec)

/-- 'gimletlaw14.KleeneTurns', WHERE WHAT IT READS IS OF BULK AT MOST 1048576: true; the input reads as it did. -/
def kleeneTurnsUptoRow : OpenClaim := { program := "ytmdanfeilgeoaaa", sum := "4cabd837afc3ad299b2d2be08e8192116a3ce9215b99b0cc40d9624ff93ab942", func := "gimlet/gimletlaw14.KleeneTurns", spec := "kleeneTurns", unfollowed := true, recurses := true, loops := true, apart := false, narrowed := true }
def KleeneTurnsUptoSaid : Prop := kleeneTurnsUptoRow.holds Try.pinned (OpenSpec.upto kleeneTurnsSpec)

/-- 'gimletlaw14.KleeneMemory', WHERE WHAT IT READS IS OF BULK AT MOST 1048576: true; the input reads as it did. -/
def kleeneMemoryUptoRow : OpenClaim := { program := "ytmdanfeilgeoaaa", sum := "4cabd837afc3ad299b2d2be08e8192116a3ce9215b99b0cc40d9624ff93ab942", func := "gimlet/gimletlaw14.KleeneMemory", spec := "kleeneMemory", unfollowed := true, recurses := true, loops := true, apart := false, narrowed := true }
def KleeneMemoryUptoSaid : Prop := kleeneMemoryUptoRow.holds Try.pinned (OpenSpec.upto kleeneMemorySpec)

/-- 'gimletlaw14.KleeneGrows', WHERE WHAT IT READS IS OF BULK AT MOST 1048576: true; the input reads as it did. -/
def kleeneGrowsUptoRow : OpenClaim := { program := "ytmdanfeilgeoaaa", sum := "4cabd837afc3ad299b2d2be08e8192116a3ce9215b99b0cc40d9624ff93ab942", func := "gimlet/gimletlaw14.KleeneGrows", spec := "kleeneGrows", unfollowed := true, recurses := true, loops := true, apart := false, narrowed := true }
def KleeneGrowsUptoSaid : Prop := kleeneGrowsUptoRow.holds Try.pinned (OpenSpec.upto kleeneGrowsSpec)

/-- 'gimletlaw14.KleeneKeeps', WHERE WHAT IT READS IS OF BULK AT MOST 1048576: true; the input reads as it did. -/
def kleeneKeepsUptoRow : OpenClaim := { program := "ytmdanfeilgeoaaa", sum := "4cabd837afc3ad299b2d2be08e8192116a3ce9215b99b0cc40d9624ff93ab942", func := "gimlet/gimletlaw14.KleeneKeeps", spec := "kleeneKeeps", unfollowed := true, recurses := true, loops := true, apart := false, narrowed := true }
def KleeneKeepsUptoSaid : Prop := kleeneKeepsUptoRow.holds Try.pinned (OpenSpec.upto kleeneKeepsSpec)

end Rows
end Go.Proofs.Ytmdanfeilgeoaaa
