/-
  No cell of these rows narrows 'for every input' (looked for: loops, veiled, ifaces, maps, wideKeys, modest, calm, conditions, laid).
  DERIVED. THE GIVEN ROWS OF THIS SEAT. 5 by the template 'for every input the law returns true; each argument reads behind the call as it read before'; 0 by the template 'total and deterministic' (their statements: YtgajinnbmnnccaaTotals.lean).
  GIVEN WITH THE SEED: the statements are not yours to turn. If you find one false, say at which input.
  Laid BY PROGRAM, IN A SANDBOX (cutbox-rows.mjs): the forced cells as the released guide's own fill.sh prints them over the translation ef733a892c75e790… (all of the seat's roots in one cut). By AI agents, Wed Nov 11 2026. No macro, syntax, notation, axiom, sorry.
-/
import Derived.Test.YtgajinnbmnnccaaChecked
import GoSem.Claim
import GoSem.ClaimJoined
import GoSem.ClaimMapViews
import Derived.JoinedTies
import Derived.KernelRfl
namespace Go.Proofs.Ytgajinnbmnnccaa
/- THE CELL 'sum', in the pinned program and in every row, IS THE sha256 OF THE DUMP (.gsa) THAT YtgajinnbmnnccaaProg.lean LOADS. Nothing in Lean hashes anything: it is a label: what it is worth is what the hold of that sum in a sandbox is worth. -/
noncomputable def Try.pinned : Pinned := { name := "ytgajinnbmnnccaa", sum := "ef733a892c75e79030acf586250b733915ad77b4b7ccbf86f57a7fbda5021d3d", checked := Try.checked }
namespace Rows
def none {H : Type} : Left H := { results := [], args := [] }

/-- 'gimletlaw16.HuntTurned': WHATEVER THE INPUT: true; the input reads as it did. -/
def huntTurnedSpec : ChangeSpec := { name := "huntTurned", fn := fun _ => fun
  | [d1, d2] => { results := [.lit (.bool true)], args := [d1, d2] }
  | _ => none }
def huntTurnedRow : OpenClaim := { program := "ytgajinnbmnnccaa", sum := "ef733a892c75e79030acf586250b733915ad77b4b7ccbf86f57a7fbda5021d3d", func := "gimlet/gimletlaw16.HuntTurned", spec := "huntTurned", apart := false }
def HuntTurnedSaid : Prop := huntTurnedRow.holds Try.pinned (OpenSpec.ofChange huntTurnedSpec)

/-- ITS FALSE NEIGHBOUR: 'it returns false'. Refute it at one input. -/
def huntTurnedWrong : ChangeSpec := { name := "huntTurned", fn := fun _ => fun
  | [d1, d2] => { results := [.lit (.bool false)], args := [d1, d2] }
  | _ => none }
def HuntTurnedWrongFalsely : Prop := huntTurnedRow.holds Try.pinned (OpenSpec.ofChange huntTurnedWrong)

/-- 'gimletlaw16.HuntOnce': WHATEVER THE INPUT: true; the input reads as it did. -/
def huntOnceSpec : ChangeSpec := { name := "huntOnce", fn := fun _ => fun
  | [d1, d2, d3] => { results := [.lit (.bool true)], args := [d1, d2, d3] }
  | _ => none }
def huntOnceRow : OpenClaim := { program := "ytgajinnbmnnccaa", sum := "ef733a892c75e79030acf586250b733915ad77b4b7ccbf86f57a7fbda5021d3d", func := "gimlet/gimletlaw16.HuntOnce", spec := "huntOnce", apart := false }
def HuntOnceSaid : Prop := huntOnceRow.holds Try.pinned (OpenSpec.ofChange huntOnceSpec)

/-- ITS FALSE NEIGHBOUR: 'it returns false'. Refute it at one input. -/
def huntOnceWrong : ChangeSpec := { name := "huntOnce", fn := fun _ => fun
  | [d1, d2, d3] => { results := [.lit (.bool false)], args := [d1, d2, d3] }
  | _ => none }
def HuntOnceWrongFalsely : Prop := huntOnceRow.holds Try.pinned (OpenSpec.ofChange huntOnceWrong)

/-- 'gimletlaw16.HuntPlays': WHATEVER THE INPUT: true; the input reads as it did. -/
def huntPlaysSpec : ChangeSpec := { name := "huntPlays", fn := fun _ => fun
  | [d1, d2, d3] => { results := [.lit (.bool true)], args := [d1, d2, d3] }
  | _ => none }
def huntPlaysRow : OpenClaim := { program := "ytgajinnbmnnccaa", sum := "ef733a892c75e79030acf586250b733915ad77b4b7ccbf86f57a7fbda5021d3d", func := "gimlet/gimletlaw16.HuntPlays", spec := "huntPlays", apart := false }
def HuntPlaysSaid : Prop := huntPlaysRow.holds Try.pinned (OpenSpec.ofChange huntPlaysSpec)

/-- ITS FALSE NEIGHBOUR: 'it returns false'. Refute it at one input. -/
def huntPlaysWrong : ChangeSpec := { name := "huntPlays", fn := fun _ => fun
  | [d1, d2, d3] => { results := [.lit (.bool false)], args := [d1, d2, d3] }
  | _ => none }
def HuntPlaysWrongFalsely : Prop := huntPlaysRow.holds Try.pinned (OpenSpec.ofChange huntPlaysWrong)

/-- 'gimletlaw16.HuntEarly': WHATEVER THE INPUT: true; the input reads as it did. -/
def huntEarlySpec : ChangeSpec := { name := "huntEarly", fn := fun _ => fun
  | [d1, d2, d3] => { results := [.lit (.bool true)], args := [d1, d2, d3] }
  | _ => none }
def huntEarlyRow : OpenClaim := { program := "ytgajinnbmnnccaa", sum := "ef733a892c75e79030acf586250b733915ad77b4b7ccbf86f57a7fbda5021d3d", func := "gimlet/gimletlaw16.HuntEarly", spec := "huntEarly", apart := false }
def HuntEarlySaid : Prop := huntEarlyRow.holds Try.pinned (OpenSpec.ofChange huntEarlySpec)

/-- ITS FALSE NEIGHBOUR: 'it returns false'. Refute it at one input. -/
def huntEarlyWrong : ChangeSpec := { name := "huntEarly", fn := fun _ => fun
  | [d1, d2, d3] => { results := [.lit (.bool false)], args := [d1, d2, d3] }
  | _ => none }
def HuntEarlyWrongFalsely : Prop := huntEarlyRow.holds Try.pinned (OpenSpec.ofChange huntEarlyWrong)

/-- 'gimletlaw16.HuntWords': WHATEVER THE INPUT: true; the input reads as it did. -/
def huntWordsSpec : ChangeSpec := { name := "huntWords", fn := fun _ => fun
  | [d1, d2] => { results := [.lit (.bool true)], args := [d1, d2] }
  | _ => none }
def huntWordsRow : OpenClaim := { program := "ytgajinnbmnnccaa", sum := "ef733a892c75e79030acf586250b733915ad77b4b7ccbf86f57a7fbda5021d3d", func := "gimlet/gimletlaw16.HuntWords", spec := "huntWords", apart := false }
def HuntWordsSaid : Prop := huntWordsRow.holds Try.pinned (OpenSpec.ofChange huntWordsSpec)

/-- ITS FALSE NEIGHBOUR: 'it returns false'. Refute it at one input. -/
def huntWordsWrong : ChangeSpec := { name := "huntWords", fn := fun _ => fun
  | [d1, d2] => { results := [.lit (.bool false)], args := [d1, d2] }
  | _ => none }
def HuntWordsWrongFalsely : Prop := huntWordsRow.holds Try.pinned (OpenSpec.ofChange huntWordsWrong)

/- THE SECOND FORM. 'bulk': how many values and letters a reading holds, each counted each time it is reached (what is shared counts as often as it is met; a slice's spare places count too). A statement '..UptoSaid' is the law's where the arguments, and the package variables that the reading takes, are together of bulk at most 1048576: NARROWER than '..Said'. Prove '..Said' where nothing that the law and all that it calls make is longer than what came in: it says more and counts as full. Else prove '..UptoSaid'. A law counts once. -/
mutual
def uptoBulk {H : Type} : DataW H → Nat
  | .lit (.string bytes) => bytes.length + 1
  | .lit _ => 1
  | .nil => 1
  | .ptr d => uptoBulk d + 1
  | .slice elems spare => uptoBulkAll elems + uptoBulkAll spare + 1
  | .agg parts => uptoBulkAll parts + 1
  | .iface _ d => uptoBulk d + 1
  | .map entries => uptoBulkEntries entries + 1
  | .held _ => 1
def uptoBulkAll {H : Type} : List (DataW H) → Nat
  | [] => 0
  | d :: r => uptoBulk d + uptoBulkAll r
def uptoBulkEntries {H : Type} : List (Lit × DataW H) → Nat
  | [] => 0
  | x :: r => uptoBulkEntry x + uptoBulkEntries r
def uptoBulkEntry {H : Type} : Lit × DataW H → Nat
  | (.string bytes, d) => bytes.length + uptoBulk d + 1
  | (_, d) => uptoBulk d + 1
 end
def uptoSmall : (H : Type) → List (DataW H) → Bool := fun _ ds => decide (uptoBulkAll ds ≤ 1048576)
def OpenSpec.upto (s : _root_.Go.ChangeSpec) : _root_.Go.OpenSpec := { _root_.Go.OpenSpec.ofChange s with cond := some uptoSmall }

/-- 'gimletlaw16.HuntTurned', WHERE WHAT IT READS IS OF BULK AT MOST 1048576: true; the input reads as it did. -/
def huntTurnedUptoRow : OpenClaim := { program := "ytgajinnbmnnccaa", sum := "ef733a892c75e79030acf586250b733915ad77b4b7ccbf86f57a7fbda5021d3d", func := "gimlet/gimletlaw16.HuntTurned", spec := "huntTurned", apart := false, narrowed := true }
def HuntTurnedUptoSaid : Prop := huntTurnedUptoRow.holds Try.pinned (OpenSpec.upto huntTurnedSpec)

/-- 'gimletlaw16.HuntOnce', WHERE WHAT IT READS IS OF BULK AT MOST 1048576: true; the input reads as it did. -/
def huntOnceUptoRow : OpenClaim := { program := "ytgajinnbmnnccaa", sum := "ef733a892c75e79030acf586250b733915ad77b4b7ccbf86f57a7fbda5021d3d", func := "gimlet/gimletlaw16.HuntOnce", spec := "huntOnce", apart := false, narrowed := true }
def HuntOnceUptoSaid : Prop := huntOnceUptoRow.holds Try.pinned (OpenSpec.upto huntOnceSpec)

/-- 'gimletlaw16.HuntPlays', WHERE WHAT IT READS IS OF BULK AT MOST 1048576: true; the input reads as it did. -/
def huntPlaysUptoRow : OpenClaim := { program := "ytgajinnbmnnccaa", sum := "ef733a892c75e79030acf586250b733915ad77b4b7ccbf86f57a7fbda5021d3d", func := "gimlet/gimletlaw16.HuntPlays", spec := "huntPlays", apart := false, narrowed := true }
def HuntPlaysUptoSaid : Prop := huntPlaysUptoRow.holds Try.pinned (OpenSpec.upto huntPlaysSpec)

/-- 'gimletlaw16.HuntEarly', WHERE WHAT IT READS IS OF BULK AT MOST 1048576: true; the input reads as it did. -/
def huntEarlyUptoRow : OpenClaim := { program := "ytgajinnbmnnccaa", sum := "ef733a892c75e79030acf586250b733915ad77b4b7ccbf86f57a7fbda5021d3d", func := "gimlet/gimletlaw16.HuntEarly", spec := "huntEarly", apart := false, narrowed := true }
def HuntEarlyUptoSaid : Prop := huntEarlyUptoRow.holds Try.pinned (OpenSpec.upto huntEarlySpec)

/-- 'gimletlaw16.HuntWords', WHERE WHAT IT READS IS OF BULK AT MOST 1048576: true; the input reads as it did. -/
def huntWordsUptoRow : OpenClaim := { program := "ytgajinnbmnnccaa", sum := "ef733a892c75e79030acf586250b733915ad77b4b7ccbf86f57a7fbda5021d3d", func := "gimlet/gimletlaw16.HuntWords", spec := "huntWords", apart := false, narrowed := true }
def HuntWordsUptoSaid : Prop := huntWordsUptoRow.holds Try.pinned (OpenSpec.upto huntWordsSpec)

end Rows
end Go.Proofs.Ytgajinnbmnnccaa
