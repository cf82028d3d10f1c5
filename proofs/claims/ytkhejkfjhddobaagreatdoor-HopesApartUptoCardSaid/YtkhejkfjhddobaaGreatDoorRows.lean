/-
  NARROWER THAN 'FOR EVERY INPUT', by the rows' own cells (each row's printed sentence says how): HopesTruths: loops, laid · HopesApart: loops, laid · HopesRefuses: loops, laid · HopesEntries: loops, laid.
  DERIVED. THE GIVEN ROWS OF THIS SEAT. 4 by the template 'for every input the law returns true; each argument reads behind the call as it read before'; 0 by the template 'total and deterministic' (their statements: YtkhejkfjhddobaaGreatDoorTotals.lean).
  GIVEN WITH THE SEED: the statements are not yours to turn. If you find one false, say at which input.
  Laid BY PROGRAM, IN A SANDBOX (cutbox-rows.mjs): the forced cells as the released guide's own fill.sh prints them over the translation 8b399f5a5cd560fa… (all of the seat's roots in one cut). By AI agents, Wed Nov 11 2026. No macro, syntax, notation, axiom, sorry.
-/
import Derived.Test.YtkhejkfjhddobaaGreatDoorChecked
import GoSem.PinnedTables
import GoSem.Claim
import GoSem.ClaimJoined
import GoSem.ClaimMapViews
import Derived.JoinedTies
import Derived.KernelRfl
namespace Go.Proofs.YtkhejkfjhddobaaGreatDoor
/- THE CELL 'sum', in the pinned program and in every row, IS THE sha256 OF THE DUMP (.gsa) THAT YtkhejkfjhddobaaGreatDoorProg.lean LOADS. Nothing in Lean hashes anything: it is a label: what it is worth is what the hold of that sum in a sandbox is worth. -/
noncomputable def Tryz.pinned : Pinned := { name := "ytkhejkfjhddobaagreatdoor", sum := "8b399f5a5cd560fa425c99e649754626e81d9288bd5d3fea50159fec64b5e77f", checked := Tryz.checked }
namespace Rows
def none {H : Type} : Left H := { results := [], args := [] }

/- WHAT THE LISTED PACKAGE-LEVEL VARIABLES READ AS WHEN THE CALL BEGINS. Each datum BY PROGRAM (the guide's laid-datum.mjs) off the statement by which the dump's own 'gosem.cut.vars' lays the variable. In a bare row this is a premise. The card (YtkhejkfjhddobaaGreatDoorCards.lean) ties it to the program's text. -/
def laid_unicode_utf8_acceptRanges {H : Type} : DataW H := .agg [.agg [.lit (.int .u8 128), .lit (.int .u8 191)], .agg [.lit (.int .u8 160), .lit (.int .u8 191)], .agg [.lit (.int .u8 128), .lit (.int .u8 159)], .agg [.lit (.int .u8 144), .lit (.int .u8 191)], .agg [.lit (.int .u8 128), .lit (.int .u8 143)], .agg [.lit (.int .u8 0), .lit (.int .u8 0)], .agg [.lit (.int .u8 0), .lit (.int .u8 0)], .agg [.lit (.int .u8 0), .lit (.int .u8 0)], .agg [.lit (.int .u8 0), .lit (.int .u8 0)], .agg [.lit (.int .u8 0), .lit (.int .u8 0)], .agg [.lit (.int .u8 0), .lit (.int .u8 0)], .agg [.lit (.int .u8 0), .lit (.int .u8 0)], .agg [.lit (.int .u8 0), .lit (.int .u8 0)], .agg [.lit (.int .u8 0), .lit (.int .u8 0)], .agg [.lit (.int .u8 0), .lit (.int .u8 0)], .agg [.lit (.int .u8 0), .lit (.int .u8 0)]]
def laid_gimlet_chars_ranges {H : Type} : DataW H := .agg [.slice [.agg [.lit (.int .i32 9), .lit (.int .i32 10)], .agg [.lit (.int .i32 13), .lit (.int .i32 13)], .agg [.lit (.int .i32 32), .lit (.int .i32 55295)], .agg [.lit (.int .i32 57344), .lit (.int .i32 65533)], .agg [.lit (.int .i32 65536), .lit (.int .i32 1114111)]] [], .slice [.agg [.lit (.int .i32 9), .lit (.int .i32 10)], .agg [.lit (.int .i32 13), .lit (.int .i32 13)], .agg [.lit (.int .i32 32), .lit (.int .i32 32)]] [], .slice [.agg [.lit (.int .i32 65), .lit (.int .i32 90)], .agg [.lit (.int .i32 95), .lit (.int .i32 95)], .agg [.lit (.int .i32 97), .lit (.int .i32 122)], .agg [.lit (.int .i32 192), .lit (.int .i32 214)], .agg [.lit (.int .i32 216), .lit (.int .i32 246)], .agg [.lit (.int .i32 248), .lit (.int .i32 767)], .agg [.lit (.int .i32 880), .lit (.int .i32 893)], .agg [.lit (.int .i32 895), .lit (.int .i32 8191)], .agg [.lit (.int .i32 8204), .lit (.int .i32 8205)], .agg [.lit (.int .i32 8304), .lit (.int .i32 8591)], .agg [.lit (.int .i32 11264), .lit (.int .i32 12271)], .agg [.lit (.int .i32 12289), .lit (.int .i32 55295)], .agg [.lit (.int .i32 63744), .lit (.int .i32 64975)], .agg [.lit (.int .i32 65008), .lit (.int .i32 65533)], .agg [.lit (.int .i32 65536), .lit (.int .i32 983039)]] [], .slice [.agg [.lit (.int .i32 45), .lit (.int .i32 46)], .agg [.lit (.int .i32 48), .lit (.int .i32 57)], .agg [.lit (.int .i32 65), .lit (.int .i32 90)], .agg [.lit (.int .i32 95), .lit (.int .i32 95)], .agg [.lit (.int .i32 97), .lit (.int .i32 122)], .agg [.lit (.int .i32 183), .lit (.int .i32 183)], .agg [.lit (.int .i32 192), .lit (.int .i32 214)], .agg [.lit (.int .i32 216), .lit (.int .i32 246)], .agg [.lit (.int .i32 248), .lit (.int .i32 893)], .agg [.lit (.int .i32 895), .lit (.int .i32 8191)], .agg [.lit (.int .i32 8204), .lit (.int .i32 8205)], .agg [.lit (.int .i32 8255), .lit (.int .i32 8256)], .agg [.lit (.int .i32 8304), .lit (.int .i32 8591)], .agg [.lit (.int .i32 11264), .lit (.int .i32 12271)], .agg [.lit (.int .i32 12289), .lit (.int .i32 55295)], .agg [.lit (.int .i32 63744), .lit (.int .i32 64975)], .agg [.lit (.int .i32 65008), .lit (.int .i32 65533)], .agg [.lit (.int .i32 65536), .lit (.int .i32 983039)]] [], .slice [.agg [.lit (.int .i32 48), .lit (.int .i32 57)]] [], .slice [.agg [.lit (.int .i32 48), .lit (.int .i32 57)], .agg [.lit (.int .i32 65), .lit (.int .i32 70)], .agg [.lit (.int .i32 97), .lit (.int .i32 102)]] []]
/-- One of Go's own tables, pinned by name: the form's constant. -/
def laid_unicode_utf8_first : DataW Unit := Go.Pinned.utf8First

/-- 'gimletlaw18.HopesTruths': WHATEVER THE INPUT: true; the input reads as it did. -/
def hopesTruthsSpec : ChangeSpec := { name := "hopesTruths", fn := fun _ => fun
  | [d1, d2] => { results := [.lit (.bool true)], args := [d1, d2] }
  | _ => none }
def hopesTruthsRow : OpenClaim := { program := "ytkhejkfjhddobaagreatdoor", sum := "8b399f5a5cd560fa425c99e649754626e81d9288bd5d3fea50159fec64b5e77f", func := "gimlet/gimletlaw18.HopesTruths", spec := "hopesTruths", inPlace := ["internal/bytealg.IndexByteString", "internal/bytealg.IndexString"], unfollowed := true, recurses := true, named := ["gimlet/chars.ranges", "unicode/utf8.first", "unicode/utf8.acceptRanges", "internal/bytealg.MaxLen"], loops := true, apart := false, laid := [("unicode/utf8.acceptRanges", laid_unicode_utf8_acceptRanges), ("gimlet/chars.ranges", laid_gimlet_chars_ranges), ("unicode/utf8.first", laid_unicode_utf8_first)] }
def HopesTruthsSaid : Prop := hopesTruthsRow.holds Tryz.pinned (OpenSpec.ofChange hopesTruthsSpec)

/-- ITS FALSE NEIGHBOUR: 'it returns false'. Refute it at one input. -/
def hopesTruthsWrong : ChangeSpec := { name := "hopesTruths", fn := fun _ => fun
  | [d1, d2] => { results := [.lit (.bool false)], args := [d1, d2] }
  | _ => none }
def HopesTruthsWrongFalsely : Prop := hopesTruthsRow.holds Tryz.pinned (OpenSpec.ofChange hopesTruthsWrong)

/-- 'gimletlaw18.HopesApart': WHATEVER THE INPUT: true; the input reads as it did. -/
def hopesApartSpec : ChangeSpec := { name := "hopesApart", fn := fun _ => fun
  | [d1, d2] => { results := [.lit (.bool true)], args := [d1, d2] }
  | _ => none }
def hopesApartRow : OpenClaim := { program := "ytkhejkfjhddobaagreatdoor", sum := "8b399f5a5cd560fa425c99e649754626e81d9288bd5d3fea50159fec64b5e77f", func := "gimlet/gimletlaw18.HopesApart", spec := "hopesApart", inPlace := ["internal/bytealg.IndexByteString", "internal/bytealg.IndexString"], unfollowed := true, recurses := true, named := ["gimlet/chars.ranges", "unicode/utf8.first", "unicode/utf8.acceptRanges", "internal/bytealg.MaxLen"], loops := true, apart := false, laid := [("unicode/utf8.acceptRanges", laid_unicode_utf8_acceptRanges), ("gimlet/chars.ranges", laid_gimlet_chars_ranges), ("unicode/utf8.first", laid_unicode_utf8_first)] }
def HopesApartSaid : Prop := hopesApartRow.holds Tryz.pinned (OpenSpec.ofChange hopesApartSpec)

/-- ITS FALSE NEIGHBOUR: 'it returns false'. Refute it at one input. -/
def hopesApartWrong : ChangeSpec := { name := "hopesApart", fn := fun _ => fun
  | [d1, d2] => { results := [.lit (.bool false)], args := [d1, d2] }
  | _ => none }
def HopesApartWrongFalsely : Prop := hopesApartRow.holds Tryz.pinned (OpenSpec.ofChange hopesApartWrong)

/-- 'gimletlaw18.HopesRefuses': WHATEVER THE INPUT: true; the input reads as it did. -/
def hopesRefusesSpec : ChangeSpec := { name := "hopesRefuses", fn := fun _ => fun
  | [d1, d2] => { results := [.lit (.bool true)], args := [d1, d2] }
  | _ => none }
def hopesRefusesRow : OpenClaim := { program := "ytkhejkfjhddobaagreatdoor", sum := "8b399f5a5cd560fa425c99e649754626e81d9288bd5d3fea50159fec64b5e77f", func := "gimlet/gimletlaw18.HopesRefuses", spec := "hopesRefuses", inPlace := ["internal/bytealg.IndexByteString", "internal/bytealg.IndexString"], unfollowed := true, recurses := true, named := ["gimlet/chars.ranges", "unicode/utf8.first", "unicode/utf8.acceptRanges", "internal/bytealg.MaxLen"], loops := true, apart := false, laid := [("unicode/utf8.acceptRanges", laid_unicode_utf8_acceptRanges), ("gimlet/chars.ranges", laid_gimlet_chars_ranges), ("unicode/utf8.first", laid_unicode_utf8_first)] }
def HopesRefusesSaid : Prop := hopesRefusesRow.holds Tryz.pinned (OpenSpec.ofChange hopesRefusesSpec)

/-- ITS FALSE NEIGHBOUR: 'it returns false'. Refute it at one input. -/
def hopesRefusesWrong : ChangeSpec := { name := "hopesRefuses", fn := fun _ => fun
  | [d1, d2] => { results := [.lit (.bool false)], args := [d1, d2] }
  | _ => none }
def HopesRefusesWrongFalsely : Prop := hopesRefusesRow.holds Tryz.pinned (OpenSpec.ofChange hopesRefusesWrong)

/-- 'gimletlaw18.HopesEntries': WHATEVER THE INPUT: true; the input reads as it did. -/
def hopesEntriesSpec : ChangeSpec := { name := "hopesEntries", fn := fun _ => fun
  | [d1, d2] => { results := [.lit (.bool true)], args := [d1, d2] }
  | _ => none }
def hopesEntriesRow : OpenClaim := { program := "ytkhejkfjhddobaagreatdoor", sum := "8b399f5a5cd560fa425c99e649754626e81d9288bd5d3fea50159fec64b5e77f", func := "gimlet/gimletlaw18.HopesEntries", spec := "hopesEntries", inPlace := ["internal/bytealg.IndexByteString", "internal/bytealg.IndexString"], unfollowed := true, recurses := true, named := ["gimlet/chars.ranges", "unicode/utf8.first", "unicode/utf8.acceptRanges", "internal/bytealg.MaxLen"], loops := true, apart := false, laid := [("unicode/utf8.acceptRanges", laid_unicode_utf8_acceptRanges), ("gimlet/chars.ranges", laid_gimlet_chars_ranges), ("unicode/utf8.first", laid_unicode_utf8_first)] }
def HopesEntriesSaid : Prop := hopesEntriesRow.holds Tryz.pinned (OpenSpec.ofChange hopesEntriesSpec)

/-- ITS FALSE NEIGHBOUR: 'it returns false'. Refute it at one input. -/
def hopesEntriesWrong : ChangeSpec := { name := "hopesEntries", fn := fun _ => fun
  | [d1, d2] => { results := [.lit (.bool false)], args := [d1, d2] }
  | _ => none }
def HopesEntriesWrongFalsely : Prop := hopesEntriesRow.holds Tryz.pinned (OpenSpec.ofChange hopesEntriesWrong)

/- THE SECOND FORM. 'bulk': how many values and letters a reading holds, each counted each time it is reached (what is shared counts as often as it is met; a slice's spare places count too). A statement '..UptoSaid' is the law's where the arguments, and the package variables that the reading takes, are together of bulk at most 1048576: NARROWER than '..Said'. Prove '..Said' where nothing that the law and all that it calls make is longer than what came in: it says more and counts as full. Else prove '..UptoSaid'. A law counts once. -/
mutual
def uptoBulk {H : Type} : DataW H → Nat
  | .lit (.string bytes) => bytes.length + 1
  | .lit _ => 1
  | .nil => 1
  | .ptr d => uptoBulk d + 1
  | .slice elems spare => uptoBulkAll elems + uptoBulkAll spare + 1
  | .agg parts => uptoBulkAll parts + 1
  | .iface _ d => uptoBulk d + 1
  | .map entries => uptoBulkEntries entries + 1
  | .held _ => 1
def uptoBulkAll {H : Type} : List (DataW H) → Nat
  | [] => 0
  | d :: r => uptoBulk d + uptoBulkAll r
def uptoBulkEntries {H : Type} : List (Lit × DataW H) → Nat
  | [] => 0
  | x :: r => uptoBulkEntry x + uptoBulkEntries r
def uptoBulkEntry {H : Type} : Lit × DataW H → Nat
  | (.string bytes, d) => bytes.length + uptoBulk d + 1
  | (_, d) => uptoBulk d + 1
 end
def uptoSmall : (H : Type) → List (DataW H) → Bool := fun _ ds => decide (uptoBulkAll ds ≤ 1048576)
def OpenSpec.upto (s : _root_.Go.ChangeSpec) : _root_.Go.OpenSpec := { _root_.Go.OpenSpec.ofChange s with cond := some uptoSmall }

/-- 'gimletlaw18.HopesTruths', WHERE WHAT IT READS IS OF BULK AT MOST 1048576: true; the input reads as it did. -/
def hopesTruthsUptoRow : OpenClaim := { program := "ytkhejkfjhddobaagreatdoor", sum := "8b399f5a5cd560fa425c99e649754626e81d9288bd5d3fea50159fec64b5e77f", func := "gimlet/gimletlaw18.HopesTruths", spec := "hopesTruths", inPlace := ["internal/bytealg.IndexByteString", "internal/bytealg.IndexString"], unfollowed := true, recurses := true, named := ["gimlet/chars.ranges", "unicode/utf8.first", "unicode/utf8.acceptRanges", "internal/bytealg.MaxLen"], loops := true, apart := false, laid := [("unicode/utf8.acceptRanges", laid_unicode_utf8_acceptRanges), ("gimlet/chars.ranges", laid_gimlet_chars_ranges), ("unicode/utf8.first", laid_unicode_utf8_first)], narrowed := true }
def HopesTruthsUptoSaid : Prop := hopesTruthsUptoRow.holds Tryz.pinned (OpenSpec.upto hopesTruthsSpec)

/-- 'gimletlaw18.HopesApart', WHERE WHAT IT READS IS OF BULK AT MOST 1048576: true; the input reads as it did. -/
def hopesApartUptoRow : OpenClaim := { program := "ytkhejkfjhddobaagreatdoor", sum := "8b399f5a5cd560fa425c99e649754626e81d9288bd5d3fea50159fec64b5e77f", func := "gimlet/gimletlaw18.HopesApart", spec := "hopesApart", inPlace := ["internal/bytealg.IndexByteString", "internal/bytealg.IndexString"], unfollowed := true, recurses := true, named := ["gimlet/chars.ranges", "unicode/utf8.first", "unicode/utf8.acceptRanges", "internal/bytealg.MaxLen"], loops := true, apart := false, laid := [("unicode/utf8.acceptRanges", laid_unicode_utf8_acceptRanges), ("gimlet/chars.ranges", laid_gimlet_chars_ranges), ("unicode/utf8.first", laid_unicode_utf8_first)], narrowed := true }
def HopesApartUptoSaid : Prop := hopesApartUptoRow.holds Tryz.pinned (OpenSpec.upto hopesApartSpec)

/-- 'gimletlaw18.HopesRefuses', WHERE WHAT IT READS IS OF BULK AT MOST 1048576: true; the input reads as it did. -/
def hopesRefusesUptoRow : OpenClaim := { program := "ytkhejkfjhddobaagreatdoor", sum := "8b399f5a5cd560fa425c99e649754626e81d9288bd5d3fea50159fec64b5e77f", func := "gimlet/gimletlaw18.HopesRefuses", spec := "hopesRefuses", inPlace := ["internal/bytealg.IndexByteString", "internal/bytealg.IndexString"], unfollowed := true, recurses := true, named := ["gimlet/chars.ranges", "unicode/utf8.first", "unicode/utf8.acceptRanges", "internal/bytealg.MaxLen"], loops := true, apart := false, laid := [("unicode/utf8.acceptRanges", laid_unicode_utf8_acceptRanges), ("gimlet/chars.ranges", laid_gimlet_chars_ranges), ("unicode/utf8.first", laid_unicode_utf8_first)], narrowed := true }
def HopesRefusesUptoSaid : Prop := hopesRefusesUptoRow.holds Tryz.pinned (OpenSpec.upto hopesRefusesSpec)

/-- 'gimletlaw18.HopesEntries', WHERE WHAT IT READS IS OF BULK AT MOST 1048576: true; the input reads as it did. -/
def hopesEntriesUptoRow : OpenClaim := { program := "ytkhejkfjhddobaagreatdoor", sum := "8b399f5a5cd560fa425c99e649754626e81d9288bd5d3fea50159fec64b5e77f", func := "gimlet/gimletlaw18.HopesEntries", spec := "hopesEntries", inPlace := ["internal/bytealg.IndexByteString", "internal/bytealg.IndexString"], unfollowed := true, recurses := true, named := ["gimlet/chars.ranges", "unicode/utf8.first", "unicode/utf8.acceptRanges", "internal/bytealg.MaxLen"], loops := true, apart := false, laid := [("unicode/utf8.acceptRanges", laid_unicode_utf8_acceptRanges), ("gimlet/chars.ranges", laid_gimlet_chars_ranges), ("unicode/utf8.first", laid_unicode_utf8_first)], narrowed := true }
def HopesEntriesUptoSaid : Prop := hopesEntriesUptoRow.holds Tryz.pinned (OpenSpec.upto hopesEntriesSpec)

end Rows
end Go.Proofs.YtkhejkfjhddobaaGreatDoor
