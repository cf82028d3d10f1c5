/-
  NARROWER THAN 'FOR EVERY INPUT', by the rows' own cells (each row's printed sentence says how): WholeFeeds: laid · FeedCuts: laid · FeedEager: laid · FeedPlays: laid · FeedChars: laid.
  DERIVED. THE GIVEN ROWS OF THIS SEAT. 5 by the template 'for every input the law returns true; each argument reads behind the call as it read before'; 0 by the template 'total and deterministic' (their statements: YtpkdbfnnbbkkiaaDoorTotals.lean).
  GIVEN WITH THE SEED: the statements are not yours to turn. If you find one false, say at which input.
  Laid BY PROGRAM, IN A SANDBOX (cutbox-rows.mjs): the forced cells as the released guide's own fill.sh prints them over the translation a1aac6d009dc7ddf… (all of the seat's roots in one cut). By AI agents, Wed Nov 11 2026. No macro, syntax, notation, axiom, sorry.
-/
import Derived.Test.YtpkdbfnnbbkkiaaDoorChecked
import GoSem.PinnedTables
import GoSem.Claim
import GoSem.ClaimJoined
import GoSem.ClaimMapViews
import Derived.JoinedTies
import Derived.KernelRfl
namespace Go.Proofs.YtpkdbfnnbbkkiaaDoor
/- THE CELL 'sum', in the pinned program and in every row, IS THE sha256 OF THE DUMP (.gsa) THAT YtpkdbfnnbbkkiaaDoorProg.lean LOADS. Nothing in Lean hashes anything: it is a label: what it is worth is what the hold of that sum in a sandbox is worth. -/
noncomputable def Tryd.pinned : Pinned := { name := "ytpkdbfnnbbkkiaadoor", sum := "a1aac6d009dc7ddf0ee6819642815aa4ad972103ca31c01b9075879e8b886ed4", checked := Tryd.checked }
namespace Rows
def none {H : Type} : Left H := { results := [], args := [] }

/- WHAT THE LISTED PACKAGE-LEVEL VARIABLES READ AS WHEN THE CALL BEGINS. Each datum BY PROGRAM (the guide's laid-datum.mjs) off the statement by which the dump's own 'gosem.cut.vars' lays the variable. In a bare row this is a premise. The card (YtpkdbfnnbbkkiaaDoorCards.lean) ties it to the program's text. -/
def laid_unicode_utf8_acceptRanges {H : Type} : DataW H := .agg [.agg [.lit (.int .u8 128), .lit (.int .u8 191)], .agg [.lit (.int .u8 160), .lit (.int .u8 191)], .agg [.lit (.int .u8 128), .lit (.int .u8 159)], .agg [.lit (.int .u8 144), .lit (.int .u8 191)], .agg [.lit (.int .u8 128), .lit (.int .u8 143)], .agg [.lit (.int .u8 0), .lit (.int .u8 0)], .agg [.lit (.int .u8 0), .lit (.int .u8 0)], .agg [.lit (.int .u8 0), .lit (.int .u8 0)], .agg [.lit (.int .u8 0), .lit (.int .u8 0)], .agg [.lit (.int .u8 0), .lit (.int .u8 0)], .agg [.lit (.int .u8 0), .lit (.int .u8 0)], .agg [.lit (.int .u8 0), .lit (.int .u8 0)], .agg [.lit (.int .u8 0), .lit (.int .u8 0)], .agg [.lit (.int .u8 0), .lit (.int .u8 0)], .agg [.lit (.int .u8 0), .lit (.int .u8 0)], .agg [.lit (.int .u8 0), .lit (.int .u8 0)]]
/-- One of Go's own tables, pinned by name: the form's constant. -/
def laid_unicode_utf8_first : DataW Unit := Go.Pinned.utf8First

/-- 'gimlettop.WholeFeeds': WHATEVER THE INPUT: true; the input reads as it did. -/
def wholeFeedsSpec : ChangeSpec := { name := "wholeFeeds", fn := fun _ => fun
  | [d1, d2] => { results := [.lit (.bool true)], args := [d1, d2] }
  | _ => none }
def wholeFeedsRow : OpenClaim := { program := "ytpkdbfnnbbkkiaadoor", sum := "a1aac6d009dc7ddf0ee6819642815aa4ad972103ca31c01b9075879e8b886ed4", func := "gimlet/gimlettop.WholeFeeds", spec := "wholeFeeds", named := ["unicode/utf8.first", "unicode/utf8.acceptRanges"], apart := false, laid := [("unicode/utf8.acceptRanges", laid_unicode_utf8_acceptRanges), ("unicode/utf8.first", laid_unicode_utf8_first)] }
def WholeFeedsSaid : Prop := wholeFeedsRow.holds Tryd.pinned (OpenSpec.ofChange wholeFeedsSpec)

/-- ITS FALSE NEIGHBOUR: 'it returns false'. Refute it at one input. -/
def wholeFeedsWrong : ChangeSpec := { name := "wholeFeeds", fn := fun _ => fun
  | [d1, d2] => { results := [.lit (.bool false)], args := [d1, d2] }
  | _ => none }
def WholeFeedsWrongFalsely : Prop := wholeFeedsRow.holds Tryd.pinned (OpenSpec.ofChange wholeFeedsWrong)

/-- 'gimletlaw04.FeedCuts': WHATEVER THE INPUT: true; the input reads as it did. -/
def feedCutsSpec : ChangeSpec := { name := "feedCuts", fn := fun _ => fun
  | [d1, d2, d3] => { results := [.lit (.bool true)], args := [d1, d2, d3] }
  | _ => none }
def feedCutsRow : OpenClaim := { program := "ytpkdbfnnbbkkiaadoor", sum := "a1aac6d009dc7ddf0ee6819642815aa4ad972103ca31c01b9075879e8b886ed4", func := "gimlet/gimletlaw04.FeedCuts", spec := "feedCuts", named := ["unicode/utf8.first", "unicode/utf8.acceptRanges"], apart := false, laid := [("unicode/utf8.acceptRanges", laid_unicode_utf8_acceptRanges), ("unicode/utf8.first", laid_unicode_utf8_first)] }
def FeedCutsSaid : Prop := feedCutsRow.holds Tryd.pinned (OpenSpec.ofChange feedCutsSpec)

/-- ITS FALSE NEIGHBOUR: 'it returns false'. Refute it at one input. -/
def feedCutsWrong : ChangeSpec := { name := "feedCuts", fn := fun _ => fun
  | [d1, d2, d3] => { results := [.lit (.bool false)], args := [d1, d2, d3] }
  | _ => none }
def FeedCutsWrongFalsely : Prop := feedCutsRow.holds Tryd.pinned (OpenSpec.ofChange feedCutsWrong)

/-- 'gimletlaw04.FeedEager': WHATEVER THE INPUT: true; the input reads as it did. -/
def feedEagerSpec : ChangeSpec := { name := "feedEager", fn := fun _ => fun
  | [d] => { results := [.lit (.bool true)], args := [d] }
  | _ => none }
def feedEagerRow : OpenClaim := { program := "ytpkdbfnnbbkkiaadoor", sum := "a1aac6d009dc7ddf0ee6819642815aa4ad972103ca31c01b9075879e8b886ed4", func := "gimlet/gimletlaw04.FeedEager", spec := "feedEager", named := ["unicode/utf8.first", "unicode/utf8.acceptRanges"], apart := false, laid := [("unicode/utf8.acceptRanges", laid_unicode_utf8_acceptRanges), ("unicode/utf8.first", laid_unicode_utf8_first)] }
def FeedEagerSaid : Prop := feedEagerRow.holds Tryd.pinned (OpenSpec.ofChange feedEagerSpec)

/-- ITS FALSE NEIGHBOUR: 'it returns false'. Refute it at one input. -/
def feedEagerWrong : ChangeSpec := { name := "feedEager", fn := fun _ => fun
  | [d] => { results := [.lit (.bool false)], args := [d] }
  | _ => none }
def FeedEagerWrongFalsely : Prop := feedEagerRow.holds Tryd.pinned (OpenSpec.ofChange feedEagerWrong)

/-- 'gimletlaw04.FeedPlays': WHATEVER THE INPUT: true; the input reads as it did. -/
def feedPlaysSpec : ChangeSpec := { name := "feedPlays", fn := fun _ => fun
  | [d] => { results := [.lit (.bool true)], args := [d] }
  | _ => none }
def feedPlaysRow : OpenClaim := { program := "ytpkdbfnnbbkkiaadoor", sum := "a1aac6d009dc7ddf0ee6819642815aa4ad972103ca31c01b9075879e8b886ed4", func := "gimlet/gimletlaw04.FeedPlays", spec := "feedPlays", named := ["unicode/utf8.first", "unicode/utf8.acceptRanges"], apart := false, laid := [("unicode/utf8.acceptRanges", laid_unicode_utf8_acceptRanges), ("unicode/utf8.first", laid_unicode_utf8_first)] }
def FeedPlaysSaid : Prop := feedPlaysRow.holds Tryd.pinned (OpenSpec.ofChange feedPlaysSpec)

/-- ITS FALSE NEIGHBOUR: 'it returns false'. Refute it at one input. -/
def feedPlaysWrong : ChangeSpec := { name := "feedPlays", fn := fun _ => fun
  | [d] => { results := [.lit (.bool false)], args := [d] }
  | _ => none }
def FeedPlaysWrongFalsely : Prop := feedPlaysRow.holds Tryd.pinned (OpenSpec.ofChange feedPlaysWrong)

/-- 'gimletlaw04.FeedChars': WHATEVER THE INPUT: true; the input reads as it did. -/
def feedCharsSpec : ChangeSpec := { name := "feedChars", fn := fun _ => fun
  | [d1, d2] => { results := [.lit (.bool true)], args := [d1, d2] }
  | _ => none }
def feedCharsRow : OpenClaim := { program := "ytpkdbfnnbbkkiaadoor", sum := "a1aac6d009dc7ddf0ee6819642815aa4ad972103ca31c01b9075879e8b886ed4", func := "gimlet/gimletlaw04.FeedChars", spec := "feedChars", unfollowed := true, recurses := true, named := ["unicode/utf8.first", "unicode/utf8.acceptRanges"], apart := false, laid := [("unicode/utf8.acceptRanges", laid_unicode_utf8_acceptRanges), ("unicode/utf8.first", laid_unicode_utf8_first)] }
def FeedCharsSaid : Prop := feedCharsRow.holds Tryd.pinned (OpenSpec.ofChange feedCharsSpec)

/-- ITS FALSE NEIGHBOUR: 'it returns false'. Refute it at one input. -/
def feedCharsWrong : ChangeSpec := { name := "feedChars", fn := fun _ => fun
  | [d1, d2] => { results := [.lit (.bool false)], args := [d1, d2] }
  | _ => none }
def FeedCharsWrongFalsely : Prop := feedCharsRow.holds Tryd.pinned (OpenSpec.ofChange feedCharsWrong)

/- THE SECOND FORM. 'bulk': how many values and letters a reading holds, each counted each time it is reached (what is shared counts as often as it is met; a slice's spare places count too). A statement '..UptoSaid' is the law's where the arguments, and the package variables that the reading takes, are together of bulk at most 1048576: NARROWER than '..Said'. Prove '..Said' where nothing that the law and all that it calls make is longer than what came in: it says more and counts as full. Else prove '..UptoSaid'. A law counts once. -/
mutual
def uptoBulk {H : Type} : DataW H → Nat
  | .lit (.string bytes) => bytes.length + 1
  | .lit _ => 1
  | .nil => 1
  | .ptr d => uptoBulk d + 1
  | .slice elems spare => uptoBulkAll elems + uptoBulkAll spare + 1
  | .agg parts => uptoBulkAll parts + 1
  | .iface _ d => uptoBulk d + 1
  | .map entries => uptoBulkEntries entries + 1
  | .held _ => 1
def uptoBulkAll {H : Type} : List (DataW H) → Nat
  | [] => 0
  | d :: r => uptoBulk d + uptoBulkAll r
def uptoBulkEntries {H : Type} : List (Lit × DataW H) → Nat
  | [] => 0
  | x :: r => uptoBulkEntry x + uptoBulkEntries r
def uptoBulkEntry {H : Type} : Lit × DataW H → Nat
  | (.string bytes, d) => bytes.length + uptoBulk d + 1
  | (_, d) => uptoBulk d + 1
 end
def uptoSmall : (H : Type) → List (DataW H) → Bool := fun _ ds => decide (uptoBulkAll ds ≤ 1048576)
def OpenSpec.upto (s : _root_.Go.ChangeSpec) : _root_.Go.OpenSpec := { _root_.Go.OpenSpec.ofChange s with cond := some uptoSmall }

/-- 'gimlettop.WholeFeeds', WHERE WHAT IT READS IS OF BULK AT MOST 1048576: true; the input reads as it did. -/
def wholeFeedsUptoRow : OpenClaim := { program := "ytpkdbfnnbbkkiaadoor", sum := "a1aac6d009dc7ddf0ee6819642815aa4ad972103ca31c01b9075879e8b886ed4", func := "gimlet/gimlettop.WholeFeeds", spec := "wholeFeeds", named := ["unicode/utf8.first", "unicode/utf8.acceptRanges"], apart := false, laid := [("unicode/utf8.acceptRanges", laid_unicode_utf8_acceptRanges), ("unicode/utf8.first", laid_unicode_utf8_first)], narrowed := true }
def WholeFeedsUptoSaid : Prop := wholeFeedsUptoRow.holds Tryd.pinned (OpenSpec.upto wholeFeedsSpec)

/-- 'gimletlaw04.FeedCuts', WHERE WHAT IT READS IS OF BULK AT MOST 1048576: true; the input reads as it did. -/
def feedCutsUptoRow : OpenClaim := { program := "ytpkdbfnnbbkkiaadoor", sum := "a1aac6d009dc7ddf0ee6819642815aa4ad972103ca31c01b9075879e8b886ed4", func := "gimlet/gimletlaw04.FeedCuts", spec := "feedCuts", named := ["unicode/utf8.first", "unicode/utf8.acceptRanges"], apart := false, laid := [("unicode/utf8.acceptRanges", laid_unicode_utf8_acceptRanges), ("unicode/utf8.first", laid_unicode_utf8_first)], narrowed := true }
def FeedCutsUptoSaid : Prop := feedCutsUptoRow.holds Tryd.pinned (OpenSpec.upto feedCutsSpec)

/-- 'gimletlaw04.FeedEager', WHERE WHAT IT READS IS OF BULK AT MOST 1048576: true; the input reads as it did. -/
def feedEagerUptoRow : OpenClaim := { program := "ytpkdbfnnbbkkiaadoor", sum := "a1aac6d009dc7ddf0ee6819642815aa4ad972103ca31c01b9075879e8b886ed4", func := "gimlet/gimletlaw04.FeedEager", spec := "feedEager", named := ["unicode/utf8.first", "unicode/utf8.acceptRanges"], apart := false, laid := [("unicode/utf8.acceptRanges", laid_unicode_utf8_acceptRanges), ("unicode/utf8.first", laid_unicode_utf8_first)], narrowed := true }
def FeedEagerUptoSaid : Prop := feedEagerUptoRow.holds Tryd.pinned (OpenSpec.upto feedEagerSpec)

/-- 'gimletlaw04.FeedPlays', WHERE WHAT IT READS IS OF BULK AT MOST 1048576: true; the input reads as it did. -/
def feedPlaysUptoRow : OpenClaim := { program := "ytpkdbfnnbbkkiaadoor", sum := "a1aac6d009dc7ddf0ee6819642815aa4ad972103ca31c01b9075879e8b886ed4", func := "gimlet/gimletlaw04.FeedPlays", spec := "feedPlays", named := ["unicode/utf8.first", "unicode/utf8.acceptRanges"], apart := false, laid := [("unicode/utf8.acceptRanges", laid_unicode_utf8_acceptRanges), ("unicode/utf8.first", laid_unicode_utf8_first)], narrowed := true }
def FeedPlaysUptoSaid : Prop := feedPlaysUptoRow.holds Tryd.pinned (OpenSpec.upto feedPlaysSpec)

/-- 'gimletlaw04.FeedChars', WHERE WHAT IT READS IS OF BULK AT MOST 1048576: true; the input reads as it did. -/
def feedCharsUptoRow : OpenClaim := { program := "ytpkdbfnnbbkkiaadoor", sum := "a1aac6d009dc7ddf0ee6819642815aa4ad972103ca31c01b9075879e8b886ed4", func := "gimlet/gimletlaw04.FeedChars", spec := "feedChars", unfollowed := true, recurses := true, named := ["unicode/utf8.first", "unicode/utf8.acceptRanges"], apart := false, laid := [("unicode/utf8.acceptRanges", laid_unicode_utf8_acceptRanges), ("unicode/utf8.first", laid_unicode_utf8_first)], narrowed := true }
def FeedCharsUptoSaid : Prop := feedCharsUptoRow.holds Tryd.pinned (OpenSpec.upto feedCharsSpec)

end Rows
end Go.Proofs.YtpkdbfnnbbkkiaaDoor
