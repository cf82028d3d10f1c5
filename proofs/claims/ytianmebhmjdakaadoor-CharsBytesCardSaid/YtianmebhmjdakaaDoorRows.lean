/-
  NARROWER THAN 'FOR EVERY INPUT', by the rows' own cells (each row's printed sentence says how): CharsTexts: laid · CharsRange: laid · CharsIs: laid · CharsChain: laid · CharsWithin: laid · CharsAll: laid · CharsBegins: laid · CharsBytes: laid.
  DERIVED. THE GIVEN ROWS OF THIS SEAT. 8 by the template 'for every input the law returns true; each argument reads behind the call as it read before'; 0 by the template 'total and deterministic' (their statements: YtianmebhmjdakaaDoorTotals.lean).
  GIVEN WITH THE SEED: the statements are not yours to turn. If you find one false, say at which input.
  Laid BY PROGRAM, IN A SANDBOX (cutbox-rows.mjs): the forced cells as the released guide's own fill.sh prints them over the translation aa2ba4c5fa92cfe5… (all of the seat's roots in one cut). By AI agents, Wed Nov 11 2026. No macro, syntax, notation, axiom, sorry.
-/
import Derived.Test.YtianmebhmjdakaaDoorChecked
import GoSem.PinnedTables
import GoSem.Claim
import GoSem.ClaimJoined
import GoSem.ClaimMapViews
import Derived.JoinedTies
import Derived.KernelRfl
namespace Go.Proofs.YtianmebhmjdakaaDoor
/- THE CELL 'sum', in the pinned program and in every row, IS THE sha256 OF THE DUMP (.gsa) THAT YtianmebhmjdakaaDoorProg.lean LOADS. Nothing in Lean hashes anything: it is a label: what it is worth is what the hold of that sum in a sandbox is worth. -/
noncomputable def Tryd.pinned : Pinned := { name := "ytianmebhmjdakaadoor", sum := "aa2ba4c5fa92cfe5c540846029ed8345d2d1df2308c1368d0c29b4311edb43bf", checked := Tryd.checked }
namespace Rows
def none {H : Type} : Left H := { results := [], args := [] }

/- WHAT THE LISTED PACKAGE-LEVEL VARIABLES READ AS WHEN THE CALL BEGINS. Each datum BY PROGRAM (the guide's laid-datum.mjs) off the statement by which the dump's own 'gosem.cut.vars' lays the variable. In a bare row this is a premise. The card (YtianmebhmjdakaaDoorCards.lean) ties it to the program's text. -/
def laid_unicode_utf8_acceptRanges {H : Type} : DataW H := .agg [.agg [.lit (.int .u8 128), .lit (.int .u8 191)], .agg [.lit (.int .u8 160), .lit (.int .u8 191)], .agg [.lit (.int .u8 128), .lit (.int .u8 159)], .agg [.lit (.int .u8 144), .lit (.int .u8 191)], .agg [.lit (.int .u8 128), .lit (.int .u8 143)], .agg [.lit (.int .u8 0), .lit (.int .u8 0)], .agg [.lit (.int .u8 0), .lit (.int .u8 0)], .agg [.lit (.int .u8 0), .lit (.int .u8 0)], .agg [.lit (.int .u8 0), .lit (.int .u8 0)], .agg [.lit (.int .u8 0), .lit (.int .u8 0)], .agg [.lit (.int .u8 0), .lit (.int .u8 0)], .agg [.lit (.int .u8 0), .lit (.int .u8 0)], .agg [.lit (.int .u8 0), .lit (.int .u8 0)], .agg [.lit (.int .u8 0), .lit (.int .u8 0)], .agg [.lit (.int .u8 0), .lit (.int .u8 0)], .agg [.lit (.int .u8 0), .lit (.int .u8 0)]]
def laid_gimlet_chars_ranges {H : Type} : DataW H := .agg [.slice [.agg [.lit (.int .i32 9), .lit (.int .i32 10)], .agg [.lit (.int .i32 13), .lit (.int .i32 13)], .agg [.lit (.int .i32 32), .lit (.int .i32 55295)], .agg [.lit (.int .i32 57344), .lit (.int .i32 65533)], .agg [.lit (.int .i32 65536), .lit (.int .i32 1114111)]] [], .slice [.agg [.lit (.int .i32 9), .lit (.int .i32 10)], .agg [.lit (.int .i32 13), .lit (.int .i32 13)], .agg [.lit (.int .i32 32), .lit (.int .i32 32)]] [], .slice [.agg [.lit (.int .i32 65), .lit (.int .i32 90)], .agg [.lit (.int .i32 95), .lit (.int .i32 95)], .agg [.lit (.int .i32 97), .lit (.int .i32 122)], .agg [.lit (.int .i32 192), .lit (.int .i32 214)], .agg [.lit (.int .i32 216), .lit (.int .i32 246)], .agg [.lit (.int .i32 248), .lit (.int .i32 767)], .agg [.lit (.int .i32 880), .lit (.int .i32 893)], .agg [.lit (.int .i32 895), .lit (.int .i32 8191)], .agg [.lit (.int .i32 8204), .lit (.int .i32 8205)], .agg [.lit (.int .i32 8304), .lit (.int .i32 8591)], .agg [.lit (.int .i32 11264), .lit (.int .i32 12271)], .agg [.lit (.int .i32 12289), .lit (.int .i32 55295)], .agg [.lit (.int .i32 63744), .lit (.int .i32 64975)], .agg [.lit (.int .i32 65008), .lit (.int .i32 65533)], .agg [.lit (.int .i32 65536), .lit (.int .i32 983039)]] [], .slice [.agg [.lit (.int .i32 45), .lit (.int .i32 46)], .agg [.lit (.int .i32 48), .lit (.int .i32 57)], .agg [.lit (.int .i32 65), .lit (.int .i32 90)], .agg [.lit (.int .i32 95), .lit (.int .i32 95)], .agg [.lit (.int .i32 97), .lit (.int .i32 122)], .agg [.lit (.int .i32 183), .lit (.int .i32 183)], .agg [.lit (.int .i32 192), .lit (.int .i32 214)], .agg [.lit (.int .i32 216), .lit (.int .i32 246)], .agg [.lit (.int .i32 248), .lit (.int .i32 893)], .agg [.lit (.int .i32 895), .lit (.int .i32 8191)], .agg [.lit (.int .i32 8204), .lit (.int .i32 8205)], .agg [.lit (.int .i32 8255), .lit (.int .i32 8256)], .agg [.lit (.int .i32 8304), .lit (.int .i32 8591)], .agg [.lit (.int .i32 11264), .lit (.int .i32 12271)], .agg [.lit (.int .i32 12289), .lit (.int .i32 55295)], .agg [.lit (.int .i32 63744), .lit (.int .i32 64975)], .agg [.lit (.int .i32 65008), .lit (.int .i32 65533)], .agg [.lit (.int .i32 65536), .lit (.int .i32 983039)]] [], .slice [.agg [.lit (.int .i32 48), .lit (.int .i32 57)]] [], .slice [.agg [.lit (.int .i32 48), .lit (.int .i32 57)], .agg [.lit (.int .i32 65), .lit (.int .i32 70)], .agg [.lit (.int .i32 97), .lit (.int .i32 102)]] []]
/-- One of Go's own tables, pinned by name: the form's constant. -/
def laid_unicode_utf8_first : DataW Unit := Go.Pinned.utf8First

/-- 'gimletlaw02.CharsTexts': WHATEVER THE INPUT: true; the input reads as it did. -/
def charsTextsSpec : ChangeSpec := { name := "charsTexts", fn := fun _ => fun
  | [d] => { results := [.lit (.bool true)], args := [d] }
  | _ => none }
def charsTextsRow : OpenClaim := { program := "ytianmebhmjdakaadoor", sum := "aa2ba4c5fa92cfe5c540846029ed8345d2d1df2308c1368d0c29b4311edb43bf", func := "gimlet/gimletlaw02.CharsTexts", spec := "charsTexts", named := ["gimlet/chars.ranges", "unicode/utf8.first", "unicode/utf8.acceptRanges"], apart := false, laid := [("unicode/utf8.acceptRanges", laid_unicode_utf8_acceptRanges), ("gimlet/chars.ranges", laid_gimlet_chars_ranges), ("unicode/utf8.first", laid_unicode_utf8_first)] }
def CharsTextsSaid : Prop := charsTextsRow.holds Tryd.pinned (OpenSpec.ofChange charsTextsSpec)

/-- ITS FALSE NEIGHBOUR: 'it returns false'. Refute it at one input. -/
def charsTextsWrong : ChangeSpec := { name := "charsTexts", fn := fun _ => fun
  | [d] => { results := [.lit (.bool false)], args := [d] }
  | _ => none }
def CharsTextsWrongFalsely : Prop := charsTextsRow.holds Tryd.pinned (OpenSpec.ofChange charsTextsWrong)

/-- 'gimletlaw02.CharsRange': WHATEVER THE INPUT: true; the input reads as it did. -/
def charsRangeSpec : ChangeSpec := { name := "charsRange", fn := fun _ => fun
  | [d] => { results := [.lit (.bool true)], args := [d] }
  | _ => none }
def charsRangeRow : OpenClaim := { program := "ytianmebhmjdakaadoor", sum := "aa2ba4c5fa92cfe5c540846029ed8345d2d1df2308c1368d0c29b4311edb43bf", func := "gimlet/gimletlaw02.CharsRange", spec := "charsRange", named := ["gimlet/chars.ranges", "unicode/utf8.first", "unicode/utf8.acceptRanges"], apart := false, laid := [("unicode/utf8.acceptRanges", laid_unicode_utf8_acceptRanges), ("gimlet/chars.ranges", laid_gimlet_chars_ranges), ("unicode/utf8.first", laid_unicode_utf8_first)] }
def CharsRangeSaid : Prop := charsRangeRow.holds Tryd.pinned (OpenSpec.ofChange charsRangeSpec)

/-- ITS FALSE NEIGHBOUR: 'it returns false'. Refute it at one input. -/
def charsRangeWrong : ChangeSpec := { name := "charsRange", fn := fun _ => fun
  | [d] => { results := [.lit (.bool false)], args := [d] }
  | _ => none }
def CharsRangeWrongFalsely : Prop := charsRangeRow.holds Tryd.pinned (OpenSpec.ofChange charsRangeWrong)

/-- 'gimletlaw02.CharsIs': WHATEVER THE INPUT: true; the input reads as it did. -/
def charsIsSpec : ChangeSpec := { name := "charsIs", fn := fun _ => fun
  | [d1, d2] => { results := [.lit (.bool true)], args := [d1, d2] }
  | _ => none }
def charsIsRow : OpenClaim := { program := "ytianmebhmjdakaadoor", sum := "aa2ba4c5fa92cfe5c540846029ed8345d2d1df2308c1368d0c29b4311edb43bf", func := "gimlet/gimletlaw02.CharsIs", spec := "charsIs", named := ["gimlet/chars.ranges", "unicode/utf8.first", "unicode/utf8.acceptRanges"], apart := false, laid := [("unicode/utf8.acceptRanges", laid_unicode_utf8_acceptRanges), ("gimlet/chars.ranges", laid_gimlet_chars_ranges), ("unicode/utf8.first", laid_unicode_utf8_first)] }
def CharsIsSaid : Prop := charsIsRow.holds Tryd.pinned (OpenSpec.ofChange charsIsSpec)

/-- ITS FALSE NEIGHBOUR: 'it returns false'. Refute it at one input. -/
def charsIsWrong : ChangeSpec := { name := "charsIs", fn := fun _ => fun
  | [d1, d2] => { results := [.lit (.bool false)], args := [d1, d2] }
  | _ => none }
def CharsIsWrongFalsely : Prop := charsIsRow.holds Tryd.pinned (OpenSpec.ofChange charsIsWrong)

/-- 'gimletlaw02.CharsChain': WHATEVER THE INPUT: true; the input reads as it did. -/
def charsChainSpec : ChangeSpec := { name := "charsChain", fn := fun _ => fun
  | [d1, d2] => { results := [.lit (.bool true)], args := [d1, d2] }
  | _ => none }
def charsChainRow : OpenClaim := { program := "ytianmebhmjdakaadoor", sum := "aa2ba4c5fa92cfe5c540846029ed8345d2d1df2308c1368d0c29b4311edb43bf", func := "gimlet/gimletlaw02.CharsChain", spec := "charsChain", named := ["gimlet/chars.ranges", "unicode/utf8.first", "unicode/utf8.acceptRanges"], apart := false, laid := [("unicode/utf8.acceptRanges", laid_unicode_utf8_acceptRanges), ("gimlet/chars.ranges", laid_gimlet_chars_ranges), ("unicode/utf8.first", laid_unicode_utf8_first)] }
def CharsChainSaid : Prop := charsChainRow.holds Tryd.pinned (OpenSpec.ofChange charsChainSpec)

/-- ITS FALSE NEIGHBOUR: 'it returns false'. Refute it at one input. -/
def charsChainWrong : ChangeSpec := { name := "charsChain", fn := fun _ => fun
  | [d1, d2] => { results := [.lit (.bool false)], args := [d1, d2] }
  | _ => none }
def CharsChainWrongFalsely : Prop := charsChainRow.holds Tryd.pinned (OpenSpec.ofChange charsChainWrong)

/-- 'gimletlaw02.CharsWithin': WHATEVER THE INPUT: true; the input reads as it did. -/
def charsWithinSpec : ChangeSpec := { name := "charsWithin", fn := fun _ => fun
  | [d] => { results := [.lit (.bool true)], args := [d] }
  | _ => none }
def charsWithinRow : OpenClaim := { program := "ytianmebhmjdakaadoor", sum := "aa2ba4c5fa92cfe5c540846029ed8345d2d1df2308c1368d0c29b4311edb43bf", func := "gimlet/gimletlaw02.CharsWithin", spec := "charsWithin", named := ["gimlet/chars.ranges", "unicode/utf8.first", "unicode/utf8.acceptRanges"], apart := false, laid := [("unicode/utf8.acceptRanges", laid_unicode_utf8_acceptRanges), ("gimlet/chars.ranges", laid_gimlet_chars_ranges), ("unicode/utf8.first", laid_unicode_utf8_first)] }
def CharsWithinSaid : Prop := charsWithinRow.holds Tryd.pinned (OpenSpec.ofChange charsWithinSpec)

/-- ITS FALSE NEIGHBOUR: 'it returns false'. Refute it at one input. -/
def charsWithinWrong : ChangeSpec := { name := "charsWithin", fn := fun _ => fun
  | [d] => { results := [.lit (.bool false)], args := [d] }
  | _ => none }
def CharsWithinWrongFalsely : Prop := charsWithinRow.holds Tryd.pinned (OpenSpec.ofChange charsWithinWrong)

/-- 'gimletlaw02.CharsAll': WHATEVER THE INPUT: true; the input reads as it did. -/
def charsAllSpec : ChangeSpec := { name := "charsAll", fn := fun _ => fun
  | [d1, d2] => { results := [.lit (.bool true)], args := [d1, d2] }
  | _ => none }
def charsAllRow : OpenClaim := { program := "ytianmebhmjdakaadoor", sum := "aa2ba4c5fa92cfe5c540846029ed8345d2d1df2308c1368d0c29b4311edb43bf", func := "gimlet/gimletlaw02.CharsAll", spec := "charsAll", unfollowed := true, recurses := true, named := ["gimlet/chars.ranges", "unicode/utf8.first", "unicode/utf8.acceptRanges"], apart := false, laid := [("unicode/utf8.acceptRanges", laid_unicode_utf8_acceptRanges), ("gimlet/chars.ranges", laid_gimlet_chars_ranges), ("unicode/utf8.first", laid_unicode_utf8_first)] }
def CharsAllSaid : Prop := charsAllRow.holds Tryd.pinned (OpenSpec.ofChange charsAllSpec)

/-- ITS FALSE NEIGHBOUR: 'it returns false'. Refute it at one input. -/
def charsAllWrong : ChangeSpec := { name := "charsAll", fn := fun _ => fun
  | [d1, d2] => { results := [.lit (.bool false)], args := [d1, d2] }
  | _ => none }
def CharsAllWrongFalsely : Prop := charsAllRow.holds Tryd.pinned (OpenSpec.ofChange charsAllWrong)

/-- 'gimletlaw02.CharsBegins': WHATEVER THE INPUT: true; the input reads as it did. -/
def charsBeginsSpec : ChangeSpec := { name := "charsBegins", fn := fun _ => fun
  | [d1, d2] => { results := [.lit (.bool true)], args := [d1, d2] }
  | _ => none }
def charsBeginsRow : OpenClaim := { program := "ytianmebhmjdakaadoor", sum := "aa2ba4c5fa92cfe5c540846029ed8345d2d1df2308c1368d0c29b4311edb43bf", func := "gimlet/gimletlaw02.CharsBegins", spec := "charsBegins", named := ["gimlet/chars.ranges", "unicode/utf8.first", "unicode/utf8.acceptRanges"], apart := false, laid := [("unicode/utf8.acceptRanges", laid_unicode_utf8_acceptRanges), ("gimlet/chars.ranges", laid_gimlet_chars_ranges), ("unicode/utf8.first", laid_unicode_utf8_first)] }
def CharsBeginsSaid : Prop := charsBeginsRow.holds Tryd.pinned (OpenSpec.ofChange charsBeginsSpec)

/-- ITS FALSE NEIGHBOUR: 'it returns false'. Refute it at one input. -/
def charsBeginsWrong : ChangeSpec := { name := "charsBegins", fn := fun _ => fun
  | [d1, d2] => { results := [.lit (.bool false)], args := [d1, d2] }
  | _ => none }
def CharsBeginsWrongFalsely : Prop := charsBeginsRow.holds Tryd.pinned (OpenSpec.ofChange charsBeginsWrong)

/-- 'gimletlaw02.CharsBytes': WHATEVER THE INPUT: true; the input reads as it did. -/
def charsBytesSpec : ChangeSpec := { name := "charsBytes", fn := fun _ => fun
  | [d] => { results := [.lit (.bool true)], args := [d] }
  | _ => none }
def charsBytesRow : OpenClaim := { program := "ytianmebhmjdakaadoor", sum := "aa2ba4c5fa92cfe5c540846029ed8345d2d1df2308c1368d0c29b4311edb43bf", func := "gimlet/gimletlaw02.CharsBytes", spec := "charsBytes", named := ["gimlet/chars.ranges", "unicode/utf8.first", "unicode/utf8.acceptRanges"], apart := false, laid := [("unicode/utf8.acceptRanges", laid_unicode_utf8_acceptRanges), ("gimlet/chars.ranges", laid_gimlet_chars_ranges), ("unicode/utf8.first", laid_unicode_utf8_first)] }
def CharsBytesSaid : Prop := charsBytesRow.holds Tryd.pinned (OpenSpec.ofChange charsBytesSpec)

/-- ITS FALSE NEIGHBOUR: 'it returns false'. Refute it at one input. -/
def charsBytesWrong : ChangeSpec := { name := "charsBytes", fn := fun _ => fun
  | [d] => { results := [.lit (.bool false)], args := [d] }
  | _ => none }
def CharsBytesWrongFalsely : Prop := charsBytesRow.holds Tryd.pinned (OpenSpec.ofChange charsBytesWrong)

/- THE SECOND FORM. 'bulk': how many values and letters a reading holds, each counted each time it is reached (what is shared counts as often as it is met; a slice's spare places count too). A statement '..UptoSaid' is the law's where the arguments, and the package variables that the reading takes, are together of bulk at most 1048576: NARROWER than '..Said'. Prove '..Said' where nothing that the law and all that it calls make is longer than what came in: it says more and counts as full. Else prove '..UptoSaid'. A law counts once. -/
mutual
def uptoBulk {H : Type} : DataW H → Nat
  | .lit (.string bytes) => bytes.length + 1
  | .lit _ => 1
  | .nil => 1
  | .ptr d => uptoBulk d + 1
  | .slice elems spare => uptoBulkAll elems + uptoBulkAll spare + 1
  | .agg parts => uptoBulkAll parts + 1
  | .iface _ d => uptoBulk d + 1
  | .map entries => uptoBulkEntries entries + 1
  | .held _ => 1
def uptoBulkAll {H : Type} : List (DataW H) → Nat
  | [] => 0
  | d :: r => uptoBulk d + uptoBulkAll r
def uptoBulkEntries {H : Type} : List (Lit × DataW H) → Nat
  | [] => 0
  | x :: r => uptoBulkEntry x + uptoBulkEntries r
def uptoBulkEntry {H : Type} : Lit × DataW H → Nat
  | (.string bytes, d) => bytes.length + uptoBulk d + 1
  | (_, d) => uptoBulk d + 1
 end
def uptoSmall : (H : Type) → List (DataW H) → Bool := fun _ ds => decide (uptoBulkAll ds ≤ 1048576)
def OpenSpec.upto (s : _root_.Go.ChangeSpec) : _root_.Go.OpenSpec := { _root_.Go.OpenSpec.ofChange s with cond := some uptoSmall }

/-- 'gimletlaw02.CharsTexts', WHERE WHAT IT READS IS OF BULK AT MOST 1048576: true; the input reads as it did. -/
def charsTextsUptoRow : OpenClaim := { program := "ytianmebhmjdakaadoor", sum := "aa2ba4c5fa92cfe5c540846029ed8345d2d1df2308c1368d0c29b4311edb43bf", func := "gimlet/gimletlaw02.CharsTexts", spec := "charsTexts", named := ["gimlet/chars.ranges", "unicode/utf8.first", "unicode/utf8.acceptRanges"], apart := false, laid := [("unicode/utf8.acceptRanges", laid_unicode_utf8_acceptRanges), ("gimlet/chars.ranges", laid_gimlet_chars_ranges), ("unicode/utf8.first", laid_unicode_utf8_first)], narrowed := true }
def CharsTextsUptoSaid : Prop := charsTextsUptoRow.holds Tryd.pinned (OpenSpec.upto charsTextsSpec)

/-- 'gimletlaw02.CharsRange', WHERE WHAT IT READS IS OF BULK AT MOST 1048576: true; the input reads as it did. -/
def charsRangeUptoRow : OpenClaim := { program := "ytianmebhmjdakaadoor", sum := "aa2ba4c5fa92cfe5c540846029ed8345d2d1df2308c1368d0c29b4311edb43bf", func := "gimlet/gimletlaw02.CharsRange", spec := "charsRange", named := ["gimlet/chars.ranges", "unicode/utf8.first", "unicode/utf8.acceptRanges"], apart := false, laid := [("unicode/utf8.acceptRanges", laid_unicode_utf8_acceptRanges), ("gimlet/chars.ranges", laid_gimlet_chars_ranges), ("unicode/utf8.first", laid_unicode_utf8_first)], narrowed := true }
def CharsRangeUptoSaid : Prop := charsRangeUptoRow.holds Tryd.pinned (OpenSpec.upto charsRangeSpec)

/-- 'gimletlaw02.CharsIs', WHERE WHAT IT READS IS OF BULK AT MOST 1048576: true; the input reads as it did. -/
def charsIsUptoRow : OpenClaim := { program := "ytianmebhmjdakaadoor", sum := "aa2ba4c5fa92cfe5c540846029ed8345d2d1df2308c1368d0c29b4311edb43bf", func := "gimlet/gimletlaw02.CharsIs", spec := "charsIs", named := ["gimlet/chars.ranges", "unicode/utf8.first", "unicode/utf8.acceptRanges"], apart := false, laid := [("unicode/utf8.acceptRanges", laid_unicode_utf8_acceptRanges), ("gimlet/chars.ranges", laid_gimlet_chars_ranges), ("unicode/utf8.first", laid_unicode_utf8_first)], narrowed := true }
def CharsIsUptoSaid : Prop := charsIsUptoRow.holds Tryd.pinned (OpenSpec.upto charsIsSpec)

/-- 'gimletlaw02.CharsChain', WHERE WHAT IT READS IS OF BULK AT MOST 1048576: true; the input reads as it did. -/
def charsChainUptoRow : OpenClaim := { program := "ytianmebhmjdakaadoor", sum := "aa2ba4c5fa92cfe5c540846029ed8345d2d1df2308c1368d0c29b4311edb43bf", func := "gimlet/gimletlaw02.CharsChain", spec := "charsChain", named := ["gimlet/chars.ranges", "unicode/utf8.first", "unicode/utf8.acceptRanges"], apart := false, laid := [("unicode/utf8.acceptRanges", laid_unicode_utf8_acceptRanges), ("gimlet/chars.ranges", laid_gimlet_chars_ranges), ("unicode/utf8.first", laid_unicode_utf8_first)], narrowed := true }
def CharsChainUptoSaid : Prop := charsChainUptoRow.holds Tryd.pinned (OpenSpec.upto charsChainSpec)

/-- 'gimletlaw02.CharsWithin', WHERE WHAT IT READS IS OF BULK AT MOST 1048576: true; the input reads as it did. -/
def charsWithinUptoRow : OpenClaim := { program := "ytianmebhmjdakaadoor", sum := "aa2ba4c5fa92cfe5c540846029ed8345d2d1df2308c1368d0c29b4311edb43bf", func := "gimlet/gimletlaw02.CharsWithin", spec := "charsWithin", named := ["gimlet/chars.ranges", "unicode/utf8.first", "unicode/utf8.acceptRanges"], apart := false, laid := [("unicode/utf8.acceptRanges", laid_unicode_utf8_acceptRanges), ("gimlet/chars.ranges", laid_gimlet_chars_ranges), ("unicode/utf8.first", laid_unicode_utf8_first)], narrowed := true }
def CharsWithinUptoSaid : Prop := charsWithinUptoRow.holds Tryd.pinned (OpenSpec.upto charsWithinSpec)

/-- 'gimletlaw02.CharsAll', WHERE WHAT IT READS IS OF BULK AT MOST 1048576: true; the input reads as it did. -/
def charsAllUptoRow : OpenClaim := { program := "ytianmebhmjdakaadoor", sum := "aa2ba4c5fa92cfe5c540846029ed8345d2d1df2308c1368d0c29b4311edb43bf", func := "gimlet/gimletlaw02.CharsAll", spec := "charsAll", unfollowed := true, recurses := true, named := ["gimlet/chars.ranges", "unicode/utf8.first", "unicode/utf8.acceptRanges"], apart := false, laid := [("unicode/utf8.acceptRanges", laid_unicode_utf8_acceptRanges), ("gimlet/chars.ranges", laid_gimlet_chars_ranges), ("unicode/utf8.first", laid_unicode_utf8_first)], narrowed := true }
def CharsAllUptoSaid : Prop := charsAllUptoRow.holds Tryd.pinned (OpenSpec.upto charsAllSpec)

/-- 'gimletlaw02.CharsBegins', WHERE WHAT IT READS IS OF BULK AT MOST 1048576: true; the input reads as it did. -/
def charsBeginsUptoRow : OpenClaim := { program := "ytianmebhmjdakaadoor", sum := "aa2ba4c5fa92cfe5c540846029ed8345d2d1df2308c1368d0c29b4311edb43bf", func := "gimlet/gimletlaw02.CharsBegins", spec := "charsBegins", named := ["gimlet/chars.ranges", "unicode/utf8.first", "unicode/utf8.acceptRanges"], apart := false, laid := [("unicode/utf8.acceptRanges", laid_unicode_utf8_acceptRanges), ("gimlet/chars.ranges", laid_gimlet_chars_ranges), ("unicode/utf8.first", laid_unicode_utf8_first)], narrowed := true }
def CharsBeginsUptoSaid : Prop := charsBeginsUptoRow.holds Tryd.pinned (OpenSpec.upto charsBeginsSpec)

/-- 'gimletlaw02.CharsBytes', WHERE WHAT IT READS IS OF BULK AT MOST 1048576: true; the input reads as it did. -/
def charsBytesUptoRow : OpenClaim := { program := "ytianmebhmjdakaadoor", sum := "aa2ba4c5fa92cfe5c540846029ed8345d2d1df2308c1368d0c29b4311edb43bf", func := "gimlet/gimletlaw02.CharsBytes", spec := "charsBytes", named := ["gimlet/chars.ranges", "unicode/utf8.first", "unicode/utf8.acceptRanges"], apart := false, laid := [("unicode/utf8.acceptRanges", laid_unicode_utf8_acceptRanges), ("gimlet/chars.ranges", laid_gimlet_chars_ranges), ("unicode/utf8.first", laid_unicode_utf8_first)], narrowed := true }
def CharsBytesUptoSaid : Prop := charsBytesUptoRow.holds Tryd.pinned (OpenSpec.upto charsBytesSpec)

end Rows
end Go.Proofs.YtianmebhmjdakaaDoor
