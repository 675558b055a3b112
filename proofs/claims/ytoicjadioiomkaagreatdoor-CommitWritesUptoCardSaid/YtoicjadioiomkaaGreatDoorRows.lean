/-
  NARROWER THAN 'FOR EVERY INPUT', by the rows' own cells (each row's printed sentence says how): ScanHides: laid · ScanSees: laid · ScanRuns: laid · ScanFast: laid · CommitDamaged: laid · CommitWrites: laid · CommitStays: laid.
  DERIVED. THE GIVEN ROWS OF THIS SEAT. 7 by the template 'for every input the law returns true; each argument reads behind the call as it read before'; 0 by the template 'total and deterministic' (their statements: YtoicjadioiomkaaGreatDoorTotals.lean).
  GIVEN WITH THE SEED: the statements are not yours to turn. If you find one false, say at which input.
  Laid BY PROGRAM, IN A SANDBOX (cutbox-rows.mjs): the forced cells as the released guide's own fill.sh prints them over the translation ba248bbc37ca0454… (all of the seat's roots in one cut). By AI agents, Wed Nov 11 2026. No macro, syntax, notation, axiom, sorry.
-/
import Derived.Test.YtoicjadioiomkaaGreatDoorChecked
import GoSem.PinnedTables
import GoSem.Claim
import GoSem.ClaimJoined
import GoSem.ClaimMapViews
import Derived.JoinedTies
import Derived.KernelRfl
namespace Go.Proofs.YtoicjadioiomkaaGreatDoor
/- THE CELL 'sum', in the pinned program and in every row, IS THE sha256 OF THE DUMP (.gsa) THAT YtoicjadioiomkaaGreatDoorProg.lean LOADS. Nothing in Lean hashes anything: it is a label: what it is worth is what the hold of that sum in a sandbox is worth. -/
noncomputable def Tryz.pinned : Pinned := { name := "ytoicjadioiomkaagreatdoor", sum := "ba248bbc37ca04546ac53b6cdc38ba4fb47e68ee9e81ceaa72bb27ade68af014", checked := Tryz.checked }
namespace Rows
def none {H : Type} : Left H := { results := [], args := [] }

/- WHAT THE LISTED PACKAGE-LEVEL VARIABLES READ AS WHEN THE CALL BEGINS. Each datum BY PROGRAM (the guide's laid-datum.mjs) off the statement by which the dump's own 'gosem.cut.vars' lays the variable. In a bare row this is a premise. The card (YtoicjadioiomkaaGreatDoorCards.lean) ties it to the program's text. -/
def laid_unicode_utf8_acceptRanges {H : Type} : DataW H := .agg [.agg [.lit (.int .u8 128), .lit (.int .u8 191)], .agg [.lit (.int .u8 160), .lit (.int .u8 191)], .agg [.lit (.int .u8 128), .lit (.int .u8 159)], .agg [.lit (.int .u8 144), .lit (.int .u8 191)], .agg [.lit (.int .u8 128), .lit (.int .u8 143)], .agg [.lit (.int .u8 0), .lit (.int .u8 0)], .agg [.lit (.int .u8 0), .lit (.int .u8 0)], .agg [.lit (.int .u8 0), .lit (.int .u8 0)], .agg [.lit (.int .u8 0), .lit (.int .u8 0)], .agg [.lit (.int .u8 0), .lit (.int .u8 0)], .agg [.lit (.int .u8 0), .lit (.int .u8 0)], .agg [.lit (.int .u8 0), .lit (.int .u8 0)], .agg [.lit (.int .u8 0), .lit (.int .u8 0)], .agg [.lit (.int .u8 0), .lit (.int .u8 0)], .agg [.lit (.int .u8 0), .lit (.int .u8 0)], .agg [.lit (.int .u8 0), .lit (.int .u8 0)]]
/-- One of Go's own tables, pinned by name: the form's constant. -/
def laid_unicode_utf8_first : DataW Unit := Go.Pinned.utf8First

/-- 'hawserlaw11.ScanHides': WHATEVER THE INPUT: true; the input reads as it did. -/
def scanHidesSpec : ChangeSpec := { name := "scanHides", fn := fun _ => fun
  | [d1, d2] => { results := [.lit (.bool true)], args := [d1, d2] }
  | _ => none }
def scanHidesRow : OpenClaim := { program := "ytoicjadioiomkaagreatdoor", sum := "ba248bbc37ca04546ac53b6cdc38ba4fb47e68ee9e81ceaa72bb27ade68af014", func := "hawser/hawserlaw11.ScanHides", spec := "scanHides", inPlace := ["internal/bytealg.CountString", "internal/bytealg.IndexByteString", "internal/bytealg.IndexString", "maps.clone"], unfollowed := true, recurses := true, named := ["internal/bytealg.MaxLen", "unicode/utf8.first", "unicode/utf8.acceptRanges"], plainKeys := false, apart := false, laid := [("unicode/utf8.acceptRanges", laid_unicode_utf8_acceptRanges), ("unicode/utf8.first", laid_unicode_utf8_first)] }
def ScanHidesSaid : Prop := scanHidesRow.holds Tryz.pinned (OpenSpec.ofChange scanHidesSpec)

/-- ITS FALSE NEIGHBOUR: 'it returns false'. Refute it at one input. -/
def scanHidesWrong : ChangeSpec := { name := "scanHides", fn := fun _ => fun
  | [d1, d2] => { results := [.lit (.bool false)], args := [d1, d2] }
  | _ => none }
def ScanHidesWrongFalsely : Prop := scanHidesRow.holds Tryz.pinned (OpenSpec.ofChange scanHidesWrong)

/-- 'hawserlaw11.ScanSees': WHATEVER THE INPUT: true; the input reads as it did. -/
def scanSeesSpec : ChangeSpec := { name := "scanSees", fn := fun _ => fun
  | [d1, d2] => { results := [.lit (.bool true)], args := [d1, d2] }
  | _ => none }
def scanSeesRow : OpenClaim := { program := "ytoicjadioiomkaagreatdoor", sum := "ba248bbc37ca04546ac53b6cdc38ba4fb47e68ee9e81ceaa72bb27ade68af014", func := "hawser/hawserlaw11.ScanSees", spec := "scanSees", inPlace := ["internal/bytealg.CountString", "internal/bytealg.IndexByteString", "internal/bytealg.IndexString", "maps.clone"], unfollowed := true, recurses := true, named := ["internal/bytealg.MaxLen", "unicode/utf8.first", "unicode/utf8.acceptRanges"], plainKeys := false, apart := false, laid := [("unicode/utf8.acceptRanges", laid_unicode_utf8_acceptRanges), ("unicode/utf8.first", laid_unicode_utf8_first)] }
def ScanSeesSaid : Prop := scanSeesRow.holds Tryz.pinned (OpenSpec.ofChange scanSeesSpec)

/-- ITS FALSE NEIGHBOUR: 'it returns false'. Refute it at one input. -/
def scanSeesWrong : ChangeSpec := { name := "scanSees", fn := fun _ => fun
  | [d1, d2] => { results := [.lit (.bool false)], args := [d1, d2] }
  | _ => none }
def ScanSeesWrongFalsely : Prop := scanSeesRow.holds Tryz.pinned (OpenSpec.ofChange scanSeesWrong)

/-- 'hawserlaw11.ScanRuns': WHATEVER THE INPUT: true; the input reads as it did. -/
def scanRunsSpec : ChangeSpec := { name := "scanRuns", fn := fun _ => fun
  | [d1, d2, d3] => { results := [.lit (.bool true)], args := [d1, d2, d3] }
  | _ => none }
def scanRunsRow : OpenClaim := { program := "ytoicjadioiomkaagreatdoor", sum := "ba248bbc37ca04546ac53b6cdc38ba4fb47e68ee9e81ceaa72bb27ade68af014", func := "hawser/hawserlaw11.ScanRuns", spec := "scanRuns", inPlace := ["internal/bytealg.CountString", "internal/bytealg.IndexByteString", "internal/bytealg.IndexString", "maps.clone", "internal/abi.NoEscape", "internal/bytealg.MakeNoZero"], unfollowed := true, recurses := true, named := ["internal/bytealg.MaxLen", "unicode/utf8.first", "unicode/utf8.acceptRanges"], plainKeys := false, apart := false, laid := [("unicode/utf8.acceptRanges", laid_unicode_utf8_acceptRanges), ("unicode/utf8.first", laid_unicode_utf8_first)] }
def ScanRunsSaid : Prop := scanRunsRow.holds Tryz.pinned (OpenSpec.ofChange scanRunsSpec)

/-- ITS FALSE NEIGHBOUR: 'it returns false'. Refute it at one input. -/
def scanRunsWrong : ChangeSpec := { name := "scanRuns", fn := fun _ => fun
  | [d1, d2, d3] => { results := [.lit (.bool false)], args := [d1, d2, d3] }
  | _ => none }
def ScanRunsWrongFalsely : Prop := scanRunsRow.holds Tryz.pinned (OpenSpec.ofChange scanRunsWrong)

/-- 'hawserlaw11.ScanFast': WHATEVER THE INPUT: true; the input reads as it did. -/
def scanFastSpec : ChangeSpec := { name := "scanFast", fn := fun _ => fun
  | [d1, d2, d3] => { results := [.lit (.bool true)], args := [d1, d2, d3] }
  | _ => none }
def scanFastRow : OpenClaim := { program := "ytoicjadioiomkaagreatdoor", sum := "ba248bbc37ca04546ac53b6cdc38ba4fb47e68ee9e81ceaa72bb27ade68af014", func := "hawser/hawserlaw11.ScanFast", spec := "scanFast", inPlace := ["internal/bytealg.CountString", "internal/bytealg.IndexByteString", "internal/bytealg.IndexString", "maps.clone", "internal/abi.NoEscape", "internal/bytealg.MakeNoZero"], unfollowed := true, recurses := true, named := ["internal/bytealg.MaxLen", "unicode/utf8.first", "unicode/utf8.acceptRanges"], plainKeys := false, apart := false, laid := [("unicode/utf8.acceptRanges", laid_unicode_utf8_acceptRanges), ("unicode/utf8.first", laid_unicode_utf8_first)] }
def ScanFastSaid : Prop := scanFastRow.holds Tryz.pinned (OpenSpec.ofChange scanFastSpec)

/-- ITS FALSE NEIGHBOUR: 'it returns false'. Refute it at one input. -/
def scanFastWrong : ChangeSpec := { name := "scanFast", fn := fun _ => fun
  | [d1, d2, d3] => { results := [.lit (.bool false)], args := [d1, d2, d3] }
  | _ => none }
def ScanFastWrongFalsely : Prop := scanFastRow.holds Tryz.pinned (OpenSpec.ofChange scanFastWrong)

/-- 'hawserlaw20.CommitDamaged': WHATEVER THE INPUT: true; the input reads as it did. -/
def commitDamagedSpec : ChangeSpec := { name := "commitDamaged", fn := fun _ => fun
  | [d1, d2, d3] => { results := [.lit (.bool true)], args := [d1, d2, d3] }
  | _ => none }
def commitDamagedRow : OpenClaim := { program := "ytoicjadioiomkaagreatdoor", sum := "ba248bbc37ca04546ac53b6cdc38ba4fb47e68ee9e81ceaa72bb27ade68af014", func := "hawser/hawserlaw20.CommitDamaged", spec := "commitDamaged", inPlace := ["internal/bytealg.CountString", "internal/bytealg.IndexByteString", "internal/bytealg.IndexString", "maps.clone", "internal/abi.NoEscape"], unfollowed := true, recurses := true, named := ["internal/bytealg.MaxLen", "unicode/utf8.first", "unicode/utf8.acceptRanges"], plainKeys := false, apart := false, laid := [("unicode/utf8.acceptRanges", laid_unicode_utf8_acceptRanges), ("unicode/utf8.first", laid_unicode_utf8_first)] }
def CommitDamagedSaid : Prop := commitDamagedRow.holds Tryz.pinned (OpenSpec.ofChange commitDamagedSpec)

/-- ITS FALSE NEIGHBOUR: 'it returns false'. Refute it at one input. -/
def commitDamagedWrong : ChangeSpec := { name := "commitDamaged", fn := fun _ => fun
  | [d1, d2, d3] => { results := [.lit (.bool false)], args := [d1, d2, d3] }
  | _ => none }
def CommitDamagedWrongFalsely : Prop := commitDamagedRow.holds Tryz.pinned (OpenSpec.ofChange commitDamagedWrong)

/-- 'hawserlaw20.CommitWrites': WHATEVER THE INPUT: true; the input reads as it did. -/
def commitWritesSpec : ChangeSpec := { name := "commitWrites", fn := fun _ => fun
  | [d1, d2, d3] => { results := [.lit (.bool true)], args := [d1, d2, d3] }
  | _ => none }
def commitWritesRow : OpenClaim := { program := "ytoicjadioiomkaagreatdoor", sum := "ba248bbc37ca04546ac53b6cdc38ba4fb47e68ee9e81ceaa72bb27ade68af014", func := "hawser/hawserlaw20.CommitWrites", spec := "commitWrites", inPlace := ["internal/bytealg.CountString", "internal/bytealg.IndexByteString", "internal/bytealg.IndexString", "maps.clone", "internal/abi.NoEscape"], unfollowed := true, recurses := true, named := ["internal/bytealg.MaxLen", "unicode/utf8.first", "unicode/utf8.acceptRanges"], plainKeys := false, apart := false, laid := [("unicode/utf8.acceptRanges", laid_unicode_utf8_acceptRanges), ("unicode/utf8.first", laid_unicode_utf8_first)] }
def CommitWritesSaid : Prop := commitWritesRow.holds Tryz.pinned (OpenSpec.ofChange commitWritesSpec)

/-- ITS FALSE NEIGHBOUR: 'it returns false'. Refute it at one input. -/
def commitWritesWrong : ChangeSpec := { name := "commitWrites", fn := fun _ => fun
  | [d1, d2, d3] => { results := [.lit (.bool false)], args := [d1, d2, d3] }
  | _ => none }
def CommitWritesWrongFalsely : Prop := commitWritesRow.holds Tryz.pinned (OpenSpec.ofChange commitWritesWrong)

/-- 'hawserlaw20.CommitStays': WHATEVER THE INPUT: true; the input reads as it did. -/
def commitStaysSpec : ChangeSpec := { name := "commitStays", fn := fun _ => fun
  | [d1, d2] => { results := [.lit (.bool true)], args := [d1, d2] }
  | _ => none }
def commitStaysRow : OpenClaim := { program := "ytoicjadioiomkaagreatdoor", sum := "ba248bbc37ca04546ac53b6cdc38ba4fb47e68ee9e81ceaa72bb27ade68af014", func := "hawser/hawserlaw20.CommitStays", spec := "commitStays", inPlace := ["internal/bytealg.CountString", "internal/bytealg.IndexByteString", "internal/bytealg.IndexString", "maps.clone", "internal/abi.NoEscape"], unfollowed := true, recurses := true, named := ["internal/bytealg.MaxLen", "unicode/utf8.first", "unicode/utf8.acceptRanges"], plainKeys := false, apart := false, laid := [("unicode/utf8.acceptRanges", laid_unicode_utf8_acceptRanges), ("unicode/utf8.first", laid_unicode_utf8_first)] }
def CommitStaysSaid : Prop := commitStaysRow.holds Tryz.pinned (OpenSpec.ofChange commitStaysSpec)

/-- ITS FALSE NEIGHBOUR: 'it returns false'. Refute it at one input. -/
def commitStaysWrong : ChangeSpec := { name := "commitStays", fn := fun _ => fun
  | [d1, d2] => { results := [.lit (.bool false)], args := [d1, d2] }
  | _ => none }
def CommitStaysWrongFalsely : Prop := commitStaysRow.holds Tryz.pinned (OpenSpec.ofChange commitStaysWrong)

/- THE SECOND FORM. 'bulk': how many values and letters a reading holds, each counted each time it is reached (what is shared counts as often as it is met; a slice's spare places count too). A statement '..UptoSaid' is the law's where the arguments, and the package variables that the reading takes, are together of bulk at most 1048576: NARROWER than '..Said'. Prove '..Said' where nothing that the law and all that it calls make is longer than what came in: it says more and counts as full. Else prove '..UptoSaid'. A law counts once. -/
mutual
def uptoBulk {H : Type} : DataW H → Nat
  | .lit (.string bytes) => bytes.length + 1
  | .lit _ => 1
  | .nil => 1
  | .ptr d => uptoBulk d + 1
  | .slice elems spare => uptoBulkAll elems + uptoBulkAll spare + 1
  | .agg parts => uptoBulkAll parts + 1
  | .iface _ d => uptoBulk d + 1
  | .map entries => uptoBulkEntries entries + 1
  | .held _ => 1
def uptoBulkAll {H : Type} : List (DataW H) → Nat
  | [] => 0
  | d :: r => uptoBulk d + uptoBulkAll r
def uptoBulkEntries {H : Type} : List (Lit × DataW H) → Nat
  | [] => 0
  | x :: r => uptoBulkEntry x + uptoBulkEntries r
def uptoBulkEntry {H : Type} : Lit × DataW H → Nat
  | (.string bytes, d) => bytes.length + uptoBulk d + 1
  | (_, d) => uptoBulk d + 1
 end
def uptoSmall : (H : Type) → List (DataW H) → Bool := fun _ ds => decide (uptoBulkAll ds ≤ 1048576)
def OpenSpec.upto (s : _root_.Go.ChangeSpec) : _root_.Go.OpenSpec := { _root_.Go.OpenSpec.ofChange s with cond := some uptoSmall }

/-- 'hawserlaw11.ScanHides', WHERE WHAT IT READS IS OF BULK AT MOST 1048576: true; the input reads as it did. -/
def scanHidesUptoRow : OpenClaim := { program := "ytoicjadioiomkaagreatdoor", sum := "ba248bbc37ca04546ac53b6cdc38ba4fb47e68ee9e81ceaa72bb27ade68af014", func := "hawser/hawserlaw11.ScanHides", spec := "scanHides", inPlace := ["internal/bytealg.CountString", "internal/bytealg.IndexByteString", "internal/bytealg.IndexString", "maps.clone"], unfollowed := true, recurses := true, named := ["internal/bytealg.MaxLen", "unicode/utf8.first", "unicode/utf8.acceptRanges"], plainKeys := false, apart := false, laid := [("unicode/utf8.acceptRanges", laid_unicode_utf8_acceptRanges), ("unicode/utf8.first", laid_unicode_utf8_first)], narrowed := true }
def ScanHidesUptoSaid : Prop := scanHidesUptoRow.holds Tryz.pinned (OpenSpec.upto scanHidesSpec)

/-- 'hawserlaw11.ScanSees', WHERE WHAT IT READS IS OF BULK AT MOST 1048576: true; the input reads as it did. -/
def scanSeesUptoRow : OpenClaim := { program := "ytoicjadioiomkaagreatdoor", sum := "ba248bbc37ca04546ac53b6cdc38ba4fb47e68ee9e81ceaa72bb27ade68af014", func := "hawser/hawserlaw11.ScanSees", spec := "scanSees", inPlace := ["internal/bytealg.CountString", "internal/bytealg.IndexByteString", "internal/bytealg.IndexString", "maps.clone"], unfollowed := true, recurses := true, named := ["internal/bytealg.MaxLen", "unicode/utf8.first", "unicode/utf8.acceptRanges"], plainKeys := false, apart := false, laid := [("unicode/utf8.acceptRanges", laid_unicode_utf8_acceptRanges), ("unicode/utf8.first", laid_unicode_utf8_first)], narrowed := true }
def ScanSeesUptoSaid : Prop := scanSeesUptoRow.holds Tryz.pinned (OpenSpec.upto scanSeesSpec)

/-- 'hawserlaw11.ScanRuns', WHERE WHAT IT READS IS OF BULK AT MOST 1048576: true; the input reads as it did. -/
def scanRunsUptoRow : OpenClaim := { program := "ytoicjadioiomkaagreatdoor", sum := "ba248bbc37ca04546ac53b6cdc38ba4fb47e68ee9e81ceaa72bb27ade68af014", func := "hawser/hawserlaw11.ScanRuns", spec := "scanRuns", inPlace := ["internal/bytealg.CountString", "internal/bytealg.IndexByteString", "internal/bytealg.IndexString", "maps.clone", "internal/abi.NoEscape", "internal/bytealg.MakeNoZero"], unfollowed := true, recurses := true, named := ["internal/bytealg.MaxLen", "unicode/utf8.first", "unicode/utf8.acceptRanges"], plainKeys := false, apart := false, laid := [("unicode/utf8.acceptRanges", laid_unicode_utf8_acceptRanges), ("unicode/utf8.first", laid_unicode_utf8_first)], narrowed := true }
def ScanRunsUptoSaid : Prop := scanRunsUptoRow.holds Tryz.pinned (OpenSpec.upto scanRunsSpec)

/-- 'hawserlaw11.ScanFast', WHERE WHAT IT READS IS OF BULK AT MOST 1048576: true; the input reads as it did. -/
def scanFastUptoRow : OpenClaim := { program := "ytoicjadioiomkaagreatdoor", sum := "ba248bbc37ca04546ac53b6cdc38ba4fb47e68ee9e81ceaa72bb27ade68af014", func := "hawser/hawserlaw11.ScanFast", spec := "scanFast", inPlace := ["internal/bytealg.CountString", "internal/bytealg.IndexByteString", "internal/bytealg.IndexString", "maps.clone", "internal/abi.NoEscape", "internal/bytealg.MakeNoZero"], unfollowed := true, recurses := true, named := ["internal/bytealg.MaxLen", "unicode/utf8.first", "unicode/utf8.acceptRanges"], plainKeys := false, apart := false, laid := [("unicode/utf8.acceptRanges", laid_unicode_utf8_acceptRanges), ("unicode/utf8.first", laid_unicode_utf8_first)], narrowed := true }
def ScanFastUptoSaid : Prop := scanFastUptoRow.holds Tryz.pinned (OpenSpec.upto scanFastSpec)

/-- 'hawserlaw20.CommitDamaged', WHERE WHAT IT READS IS OF BULK AT MOST 1048576: true; the input reads as it did. -/
def commitDamagedUptoRow : OpenClaim := { program := "ytoicjadioiomkaagreatdoor", sum := "ba248bbc37ca04546ac53b6cdc38ba4fb47e68ee9e81ceaa72bb27ade68af014", func := "hawser/hawserlaw20.CommitDamaged", spec := "commitDamaged", inPlace := ["internal/bytealg.CountString", "internal/bytealg.IndexByteString", "internal/bytealg.IndexString", "maps.clone", "internal/abi.NoEscape"], unfollowed := true, recurses := true, named := ["internal/bytealg.MaxLen", "unicode/utf8.first", "unicode/utf8.acceptRanges"], plainKeys := false, apart := false, laid := [("unicode/utf8.acceptRanges", laid_unicode_utf8_acceptRanges), ("unicode/utf8.first", laid_unicode_utf8_first)], narrowed := true }
def CommitDamagedUptoSaid : Prop := commitDamagedUptoRow.holds Tryz.pinned (OpenSpec.upto commitDamagedSpec)

/-- 'hawserlaw20.CommitWrites', WHERE WHAT IT READS IS OF BULK AT MOST 1048576: true; the input reads as it did. -/
def commitWritesUptoRow : OpenClaim := { program := "ytoicjadioiomkaagreatdoor", sum := "ba248bbc37ca04546ac53b6cdc38ba4fb47e68ee9e81ceaa72bb27ade68af014", func := "hawser/hawserlaw20.CommitWrites", spec := "commitWrites", inPlace := ["internal/bytealg.CountString", "internal/bytealg.IndexByteString", "internal/bytealg.IndexString", "maps.clone", "internal/abi.NoEscape"], unfollowed := true, recurses := true, named := ["internal/bytealg.MaxLen", "unicode/utf8.first", "unicode/utf8.acceptRanges"], plainKeys := false, apart := false, laid := [("unicode/utf8.acceptRanges", laid_unicode_utf8_acceptRanges), ("unicode/utf8.first", laid_unicode_utf8_first)], narrowed := true }
def CommitWritesUptoSaid : Prop := commitWritesUptoRow.holds Tryz.pinned (OpenSpec.upto commitWritesSpec)

/-- 'hawserlaw20.CommitStays', WHERE WHAT IT READS IS OF BULK AT MOST 1048576: true; the input reads as it did. -/
def commitStaysUptoRow : OpenClaim := { program := "ytoicjadioiomkaagreatdoor", sum := "ba248bbc37ca04546ac53b6cdc38ba4fb47e68ee9e81ceaa72bb27ade68af014", func := "hawser/hawserlaw20.CommitStays", spec := "commitStays", inPlace := ["internal/bytealg.CountString", "internal/bytealg.IndexByteString", "internal/bytealg.IndexString", "maps.clone", "internal/abi.NoEscape"], unfollowed := true, recurses := true, named := ["internal/bytealg.MaxLen", "unicode/utf8.first", "unicode/utf8.acceptRanges"], plainKeys := false, apart := false, laid := [("unicode/utf8.acceptRanges", laid_unicode_utf8_acceptRanges), ("unicode/utf8.first", laid_unicode_utf8_first)], narrowed := true }
def CommitStaysUptoSaid : Prop := commitStaysUptoRow.holds Tryz.pinned (OpenSpec.upto commitStaysSpec)

end Rows
end Go.Proofs.YtoicjadioiomkaaGreatDoor
