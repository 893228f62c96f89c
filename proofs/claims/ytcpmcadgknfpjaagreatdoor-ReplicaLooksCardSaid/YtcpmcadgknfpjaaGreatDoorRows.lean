/-
  NARROWER THAN 'FOR EVERY INPUT', by the rows' own cells (each row's printed sentence says how): VersionEdits: laid · VersionPlays: laid · CursorStays: laid · CursorTells: laid · EventReplays: laid · ReplicaLooks: laid · ReplicaPlays: laid.
  DERIVED. THE GIVEN ROWS OF THIS SEAT. 7 by the template 'for every input the law returns true; each argument reads behind the call as it read before'; 0 by the template 'total and deterministic' (their statements: YtcpmcadgknfpjaaGreatDoorTotals.lean).
  GIVEN WITH THE SEED: the statements are not yours to turn. If you find one false, say at which input.
  Laid BY PROGRAM, IN A SANDBOX (cutbox-rows.mjs): the forced cells as the released guide's own fill.sh prints them over the translation b4be35593a65fe38… (all of the seat's roots in one cut). By AI agents, Wed Nov 11 2026. No macro, syntax, notation, axiom, sorry.
-/
import Derived.Test.YtcpmcadgknfpjaaGreatDoorChecked
import GoSem.Claim
import GoSem.ClaimJoined
import GoSem.ClaimMapViews
import Derived.JoinedTies
import Derived.KernelRfl
namespace Go.Proofs.YtcpmcadgknfpjaaGreatDoor
/- THE CELL 'sum', in the pinned program and in every row, IS THE sha256 OF THE DUMP (.gsa) THAT YtcpmcadgknfpjaaGreatDoorProg.lean LOADS. Nothing in Lean hashes anything: it is a label: what it is worth is what the hold of that sum in a sandbox is worth. -/
noncomputable def Tryz.pinned : Pinned := { name := "ytcpmcadgknfpjaagreatdoor", sum := "b4be35593a65fe389af3141f1be4554cb1781eed734a6d310f5f9bf6711266f9", checked := Tryz.checked }
namespace Rows
def none {H : Type} : Left H := { results := [], args := [] }

/- WHAT THE LISTED PACKAGE-LEVEL VARIABLES READ AS WHEN THE CALL BEGINS. Each datum BY PROGRAM (the guide's laid-datum.mjs) off the statement by which the dump's own 'gosem.cut.vars' lays the variable. In a bare row this is a premise. The card (YtcpmcadgknfpjaaGreatDoorCards.lean) ties it to the program's text. -/
def laid_math_bits_deBruijn32tab {H : Type} : DataW H := .agg [.lit (.int .u8 0), .lit (.int .u8 1), .lit (.int .u8 28), .lit (.int .u8 2), .lit (.int .u8 29), .lit (.int .u8 14), .lit (.int .u8 24), .lit (.int .u8 3), .lit (.int .u8 30), .lit (.int .u8 22), .lit (.int .u8 20), .lit (.int .u8 15), .lit (.int .u8 25), .lit (.int .u8 17), .lit (.int .u8 4), .lit (.int .u8 8), .lit (.int .u8 31), .lit (.int .u8 27), .lit (.int .u8 13), .lit (.int .u8 23), .lit (.int .u8 21), .lit (.int .u8 19), .lit (.int .u8 16), .lit (.int .u8 7), .lit (.int .u8 26), .lit (.int .u8 12), .lit (.int .u8 18), .lit (.int .u8 6), .lit (.int .u8 11), .lit (.int .u8 5), .lit (.int .u8 10), .lit (.int .u8 9)]
def laid_math_bits_deBruijn64tab {H : Type} : DataW H := .agg [.lit (.int .u8 0), .lit (.int .u8 1), .lit (.int .u8 56), .lit (.int .u8 2), .lit (.int .u8 57), .lit (.int .u8 49), .lit (.int .u8 28), .lit (.int .u8 3), .lit (.int .u8 61), .lit (.int .u8 58), .lit (.int .u8 42), .lit (.int .u8 50), .lit (.int .u8 38), .lit (.int .u8 29), .lit (.int .u8 17), .lit (.int .u8 4), .lit (.int .u8 62), .lit (.int .u8 47), .lit (.int .u8 59), .lit (.int .u8 36), .lit (.int .u8 45), .lit (.int .u8 43), .lit (.int .u8 51), .lit (.int .u8 22), .lit (.int .u8 53), .lit (.int .u8 39), .lit (.int .u8 33), .lit (.int .u8 30), .lit (.int .u8 24), .lit (.int .u8 18), .lit (.int .u8 12), .lit (.int .u8 5), .lit (.int .u8 63), .lit (.int .u8 55), .lit (.int .u8 48), .lit (.int .u8 27), .lit (.int .u8 60), .lit (.int .u8 41), .lit (.int .u8 37), .lit (.int .u8 16), .lit (.int .u8 46), .lit (.int .u8 35), .lit (.int .u8 44), .lit (.int .u8 21), .lit (.int .u8 52), .lit (.int .u8 32), .lit (.int .u8 23), .lit (.int .u8 11), .lit (.int .u8 54), .lit (.int .u8 26), .lit (.int .u8 40), .lit (.int .u8 15), .lit (.int .u8 34), .lit (.int .u8 20), .lit (.int .u8 31), .lit (.int .u8 10), .lit (.int .u8 25), .lit (.int .u8 14), .lit (.int .u8 19), .lit (.int .u8 9), .lit (.int .u8 13), .lit (.int .u8 8), .lit (.int .u8 7), .lit (.int .u8 6)]
def laid_internal_strconv_uint64pow10 {H : Type} : DataW H := .agg [.lit (.int .u64 1), .lit (.int .u64 10), .lit (.int .u64 100), .lit (.int .u64 1000), .lit (.int .u64 10000), .lit (.int .u64 100000), .lit (.int .u64 1000000), .lit (.int .u64 10000000), .lit (.int .u64 100000000), .lit (.int .u64 1000000000), .lit (.int .u64 10000000000), .lit (.int .u64 100000000000), .lit (.int .u64 1000000000000), .lit (.int .u64 10000000000000), .lit (.int .u64 100000000000000), .lit (.int .u64 1000000000000000), .lit (.int .u64 10000000000000000), .lit (.int .u64 100000000000000000), .lit (.int .u64 1000000000000000000), .lit (.int .u64 10000000000000000000)]

/-- 'selvedgelaw08.VersionEdits': WHATEVER THE INPUT: true; the input reads as it did. -/
def versionEditsSpec : ChangeSpec := { name := "versionEdits", fn := fun _ => fun
  | [d1, d2, d3, d4] => { results := [.lit (.bool true)], args := [d1, d2, d3, d4] }
  | _ => none }
def versionEditsRow : OpenClaim := { program := "ytcpmcadgknfpjaagreatdoor", sum := "b4be35593a65fe389af3141f1be4554cb1781eed734a6d310f5f9bf6711266f9", func := "selvedge/selvedgelaw08.VersionEdits", spec := "versionEdits", inPlace := ["internal/abi.NoEscape", "internal/bytealg.MakeNoZero"], unfollowed := true, recurses := true, named := ["internal/strconv.uint64pow10", "math/bits.deBruijn32tab", "math/bits.deBruijn64tab"], apart := false, laid := [("math/bits.deBruijn32tab", laid_math_bits_deBruijn32tab), ("math/bits.deBruijn64tab", laid_math_bits_deBruijn64tab), ("internal/strconv.uint64pow10", laid_internal_strconv_uint64pow10)] }
def VersionEditsSaid : Prop := versionEditsRow.holds Tryz.pinned (OpenSpec.ofChange versionEditsSpec)

/-- ITS FALSE NEIGHBOUR: 'it returns false'. Refute it at one input. -/
def versionEditsWrong : ChangeSpec := { name := "versionEdits", fn := fun _ => fun
  | [d1, d2, d3, d4] => { results := [.lit (.bool false)], args := [d1, d2, d3, d4] }
  | _ => none }
def VersionEditsWrongFalsely : Prop := versionEditsRow.holds Tryz.pinned (OpenSpec.ofChange versionEditsWrong)

/-- 'selvedgelaw08.VersionPlays': WHATEVER THE INPUT: true; the input reads as it did. -/
def versionPlaysSpec : ChangeSpec := { name := "versionPlays", fn := fun _ => fun
  | [d1, d2, d3] => { results := [.lit (.bool true)], args := [d1, d2, d3] }
  | _ => none }
def versionPlaysRow : OpenClaim := { program := "ytcpmcadgknfpjaagreatdoor", sum := "b4be35593a65fe389af3141f1be4554cb1781eed734a6d310f5f9bf6711266f9", func := "selvedge/selvedgelaw08.VersionPlays", spec := "versionPlays", inPlace := ["internal/abi.NoEscape", "internal/bytealg.MakeNoZero"], unfollowed := true, recurses := true, named := ["internal/strconv.uint64pow10", "math/bits.deBruijn32tab", "math/bits.deBruijn64tab"], apart := false, laid := [("math/bits.deBruijn32tab", laid_math_bits_deBruijn32tab), ("math/bits.deBruijn64tab", laid_math_bits_deBruijn64tab), ("internal/strconv.uint64pow10", laid_internal_strconv_uint64pow10)] }
def VersionPlaysSaid : Prop := versionPlaysRow.holds Tryz.pinned (OpenSpec.ofChange versionPlaysSpec)

/-- ITS FALSE NEIGHBOUR: 'it returns false'. Refute it at one input. -/
def versionPlaysWrong : ChangeSpec := { name := "versionPlays", fn := fun _ => fun
  | [d1, d2, d3] => { results := [.lit (.bool false)], args := [d1, d2, d3] }
  | _ => none }
def VersionPlaysWrongFalsely : Prop := versionPlaysRow.holds Tryz.pinned (OpenSpec.ofChange versionPlaysWrong)

/-- 'selvedgelaw11.CursorStays': WHATEVER THE INPUT: true; the input reads as it did. -/
def cursorStaysSpec : ChangeSpec := { name := "cursorStays", fn := fun _ => fun
  | [d1, d2, d3] => { results := [.lit (.bool true)], args := [d1, d2, d3] }
  | _ => none }
def cursorStaysRow : OpenClaim := { program := "ytcpmcadgknfpjaagreatdoor", sum := "b4be35593a65fe389af3141f1be4554cb1781eed734a6d310f5f9bf6711266f9", func := "selvedge/selvedgelaw11.CursorStays", spec := "cursorStays", inPlace := ["internal/abi.NoEscape", "internal/bytealg.MakeNoZero"], unfollowed := true, recurses := true, named := ["internal/strconv.uint64pow10", "math/bits.deBruijn32tab", "math/bits.deBruijn64tab"], apart := false, laid := [("math/bits.deBruijn32tab", laid_math_bits_deBruijn32tab), ("math/bits.deBruijn64tab", laid_math_bits_deBruijn64tab), ("internal/strconv.uint64pow10", laid_internal_strconv_uint64pow10)] }
def CursorStaysSaid : Prop := cursorStaysRow.holds Tryz.pinned (OpenSpec.ofChange cursorStaysSpec)

/-- ITS FALSE NEIGHBOUR: 'it returns false'. Refute it at one input. -/
def cursorStaysWrong : ChangeSpec := { name := "cursorStays", fn := fun _ => fun
  | [d1, d2, d3] => { results := [.lit (.bool false)], args := [d1, d2, d3] }
  | _ => none }
def CursorStaysWrongFalsely : Prop := cursorStaysRow.holds Tryz.pinned (OpenSpec.ofChange cursorStaysWrong)

/-- 'selvedgelaw11.CursorTells': WHATEVER THE INPUT: true; the input reads as it did. -/
def cursorTellsSpec : ChangeSpec := { name := "cursorTells", fn := fun _ => fun
  | [d1, d2, d3, d4] => { results := [.lit (.bool true)], args := [d1, d2, d3, d4] }
  | _ => none }
def cursorTellsRow : OpenClaim := { program := "ytcpmcadgknfpjaagreatdoor", sum := "b4be35593a65fe389af3141f1be4554cb1781eed734a6d310f5f9bf6711266f9", func := "selvedge/selvedgelaw11.CursorTells", spec := "cursorTells", inPlace := ["internal/abi.NoEscape", "internal/bytealg.MakeNoZero"], unfollowed := true, recurses := true, named := ["internal/strconv.uint64pow10", "math/bits.deBruijn32tab", "math/bits.deBruijn64tab"], apart := false, laid := [("math/bits.deBruijn32tab", laid_math_bits_deBruijn32tab), ("math/bits.deBruijn64tab", laid_math_bits_deBruijn64tab), ("internal/strconv.uint64pow10", laid_internal_strconv_uint64pow10)] }
def CursorTellsSaid : Prop := cursorTellsRow.holds Tryz.pinned (OpenSpec.ofChange cursorTellsSpec)

/-- ITS FALSE NEIGHBOUR: 'it returns false'. Refute it at one input. -/
def cursorTellsWrong : ChangeSpec := { name := "cursorTells", fn := fun _ => fun
  | [d1, d2, d3, d4] => { results := [.lit (.bool false)], args := [d1, d2, d3, d4] }
  | _ => none }
def CursorTellsWrongFalsely : Prop := cursorTellsRow.holds Tryz.pinned (OpenSpec.ofChange cursorTellsWrong)

/-- 'selvedgelaw09.EventReplays': WHATEVER THE INPUT: true; the input reads as it did. -/
def eventReplaysSpec : ChangeSpec := { name := "eventReplays", fn := fun _ => fun
  | [d1, d2] => { results := [.lit (.bool true)], args := [d1, d2] }
  | _ => none }
def eventReplaysRow : OpenClaim := { program := "ytcpmcadgknfpjaagreatdoor", sum := "b4be35593a65fe389af3141f1be4554cb1781eed734a6d310f5f9bf6711266f9", func := "selvedge/selvedgelaw09.EventReplays", spec := "eventReplays", inPlace := ["internal/abi.NoEscape", "internal/bytealg.MakeNoZero"], unfollowed := true, recurses := true, named := ["internal/strconv.uint64pow10", "math/bits.deBruijn32tab", "math/bits.deBruijn64tab"], apart := false, laid := [("math/bits.deBruijn32tab", laid_math_bits_deBruijn32tab), ("math/bits.deBruijn64tab", laid_math_bits_deBruijn64tab), ("internal/strconv.uint64pow10", laid_internal_strconv_uint64pow10)] }
def EventReplaysSaid : Prop := eventReplaysRow.holds Tryz.pinned (OpenSpec.ofChange eventReplaysSpec)

/-- ITS FALSE NEIGHBOUR: 'it returns false'. Refute it at one input. -/
def eventReplaysWrong : ChangeSpec := { name := "eventReplays", fn := fun _ => fun
  | [d1, d2] => { results := [.lit (.bool false)], args := [d1, d2] }
  | _ => none }
def EventReplaysWrongFalsely : Prop := eventReplaysRow.holds Tryz.pinned (OpenSpec.ofChange eventReplaysWrong)

/-- 'selvedgelaw12.ReplicaLooks': WHATEVER THE INPUT: true; the input reads as it did. -/
def replicaLooksSpec : ChangeSpec := { name := "replicaLooks", fn := fun _ => fun
  | [d1, d2] => { results := [.lit (.bool true)], args := [d1, d2] }
  | _ => none }
def replicaLooksRow : OpenClaim := { program := "ytcpmcadgknfpjaagreatdoor", sum := "b4be35593a65fe389af3141f1be4554cb1781eed734a6d310f5f9bf6711266f9", func := "selvedge/selvedgelaw12.ReplicaLooks", spec := "replicaLooks", inPlace := ["internal/abi.NoEscape", "internal/bytealg.MakeNoZero"], unfollowed := true, recurses := true, named := ["internal/strconv.uint64pow10", "math/bits.deBruijn32tab", "math/bits.deBruijn64tab"], apart := false, laid := [("math/bits.deBruijn32tab", laid_math_bits_deBruijn32tab), ("math/bits.deBruijn64tab", laid_math_bits_deBruijn64tab), ("internal/strconv.uint64pow10", laid_internal_strconv_uint64pow10)] }
def ReplicaLooksSaid : Prop := replicaLooksRow.holds Tryz.pinned (OpenSpec.ofChange replicaLooksSpec)

/-- ITS FALSE NEIGHBOUR: 'it returns false'. Refute it at one input. -/
def replicaLooksWrong : ChangeSpec := { name := "replicaLooks", fn := fun _ => fun
  | [d1, d2] => { results := [.lit (.bool false)], args := [d1, d2] }
  | _ => none }
def ReplicaLooksWrongFalsely : Prop := replicaLooksRow.holds Tryz.pinned (OpenSpec.ofChange replicaLooksWrong)

/-- 'selvedgelaw12.ReplicaPlays': WHATEVER THE INPUT: true; the input reads as it did. -/
def replicaPlaysSpec : ChangeSpec := { name := "replicaPlays", fn := fun _ => fun
  | [d1, d2, d3] => { results := [.lit (.bool true)], args := [d1, d2, d3] }
  | _ => none }
def replicaPlaysRow : OpenClaim := { program := "ytcpmcadgknfpjaagreatdoor", sum := "b4be35593a65fe389af3141f1be4554cb1781eed734a6d310f5f9bf6711266f9", func := "selvedge/selvedgelaw12.ReplicaPlays", spec := "replicaPlays", inPlace := ["internal/abi.NoEscape", "internal/bytealg.MakeNoZero"], unfollowed := true, recurses := true, named := ["internal/strconv.uint64pow10", "math/bits.deBruijn32tab", "math/bits.deBruijn64tab"], apart := false, laid := [("math/bits.deBruijn32tab", laid_math_bits_deBruijn32tab), ("math/bits.deBruijn64tab", laid_math_bits_deBruijn64tab), ("internal/strconv.uint64pow10", laid_internal_strconv_uint64pow10)] }
def ReplicaPlaysSaid : Prop := replicaPlaysRow.holds Tryz.pinned (OpenSpec.ofChange replicaPlaysSpec)

/-- ITS FALSE NEIGHBOUR: 'it returns false'. Refute it at one input. -/
def replicaPlaysWrong : ChangeSpec := { name := "replicaPlays", fn := fun _ => fun
  | [d1, d2, d3] => { results := [.lit (.bool false)], args := [d1, d2, d3] }
  | _ => none }
def ReplicaPlaysWrongFalsely : Prop := replicaPlaysRow.holds Tryz.pinned (OpenSpec.ofChange replicaPlaysWrong)

/- THE SECOND FORM. 'bulk': how many values and letters a reading holds, each counted each time it is reached (what is shared counts as often as it is met; a slice's spare places count too). A statement '..UptoSaid' is the law's where the arguments, and the package variables that the reading takes, are together of bulk at most 1048576: NARROWER than '..Said'. Prove '..Said' where nothing that the law and all that it calls make is longer than what came in: it says more and counts as full. Else prove '..UptoSaid'. A law counts once. -/
mutual
def uptoBulk {H : Type} : DataW H → Nat
  | .lit (.string bytes) => bytes.length + 1
  | .lit _ => 1
  | .nil => 1
  | .ptr d => uptoBulk d + 1
  | .slice elems spare => uptoBulkAll elems + uptoBulkAll spare + 1
  | .agg parts => uptoBulkAll parts + 1
  | .iface _ d => uptoBulk d + 1
  | .map entries => uptoBulkEntries entries + 1
  | .held _ => 1
def uptoBulkAll {H : Type} : List (DataW H) → Nat
  | [] => 0
  | d :: r => uptoBulk d + uptoBulkAll r
def uptoBulkEntries {H : Type} : List (Lit × DataW H) → Nat
  | [] => 0
  | x :: r => uptoBulkEntry x + uptoBulkEntries r
def uptoBulkEntry {H : Type} : Lit × DataW H → Nat
  | (.string bytes, d) => bytes.length + uptoBulk d + 1
  | (_, d) => uptoBulk d + 1
 end
def uptoSmall : (H : Type) → List (DataW H) → Bool := fun _ ds => decide (uptoBulkAll ds ≤ 1048576)
def OpenSpec.upto (s : _root_.Go.ChangeSpec) : _root_.Go.OpenSpec := { _root_.Go.OpenSpec.ofChange s with cond := some uptoSmall }

/-- 'selvedgelaw08.VersionEdits', WHERE WHAT IT READS IS OF BULK AT MOST 1048576: true; the input reads as it did. -/
def versionEditsUptoRow : OpenClaim := { program := "ytcpmcadgknfpjaagreatdoor", sum := "b4be35593a65fe389af3141f1be4554cb1781eed734a6d310f5f9bf6711266f9", func := "selvedge/selvedgelaw08.VersionEdits", spec := "versionEdits", inPlace := ["internal/abi.NoEscape", "internal/bytealg.MakeNoZero"], unfollowed := true, recurses := true, named := ["internal/strconv.uint64pow10", "math/bits.deBruijn32tab", "math/bits.deBruijn64tab"], apart := false, laid := [("math/bits.deBruijn32tab", laid_math_bits_deBruijn32tab), ("math/bits.deBruijn64tab", laid_math_bits_deBruijn64tab), ("internal/strconv.uint64pow10", laid_internal_strconv_uint64pow10)], narrowed := true }
def VersionEditsUptoSaid : Prop := versionEditsUptoRow.holds Tryz.pinned (OpenSpec.upto versionEditsSpec)

/-- 'selvedgelaw08.VersionPlays', WHERE WHAT IT READS IS OF BULK AT MOST 1048576: true; the input reads as it did. -/
def versionPlaysUptoRow : OpenClaim := { program := "ytcpmcadgknfpjaagreatdoor", sum := "b4be35593a65fe389af3141f1be4554cb1781eed734a6d310f5f9bf6711266f9", func := "selvedge/selvedgelaw08.VersionPlays", spec := "versionPlays", inPlace := ["internal/abi.NoEscape", "internal/bytealg.MakeNoZero"], unfollowed := true, recurses := true, named := ["internal/strconv.uint64pow10", "math/bits.deBruijn32tab", "math/bits.deBruijn64tab"], apart := false, laid := [("math/bits.deBruijn32tab", laid_math_bits_deBruijn32tab), ("math/bits.deBruijn64tab", laid_math_bits_deBruijn64tab), ("internal/strconv.uint64pow10", laid_internal_strconv_uint64pow10)], narrowed := true }
def VersionPlaysUptoSaid : Prop := versionPlaysUptoRow.holds Tryz.pinned (OpenSpec.upto versionPlaysSpec)

/-- 'selvedgelaw11.CursorStays', WHERE WHAT IT READS IS OF BULK AT MOST 1048576: true; the input reads as it did. -/
def cursorStaysUptoRow : OpenClaim := { program := "ytcpmcadgknfpjaagreatdoor", sum := "b4be35593a65fe389af3141f1be4554cb1781eed734a6d310f5f9bf6711266f9", func := "selvedge/selvedgelaw11.CursorStays", spec := "cursorStays", inPlace := ["internal/abi.NoEscape", "internal/bytealg.MakeNoZero"], unfollowed := true, recurses := true, named := ["internal/strconv.uint64pow10", "math/bits.deBruijn32tab", "math/bits.deBruijn64tab"], apart := false, laid := [("math/bits.deBruijn32tab", laid_math_bits_deBruijn32tab), ("math/bits.deBruijn64tab", laid_math_bits_deBruijn64tab), ("internal/strconv.uint64pow10", laid_internal_strconv_uint64pow10)], narrowed := true }
def CursorStaysUptoSaid : Prop := cursorStaysUptoRow.holds Tryz.pinned (OpenSpec.upto cursorStaysSpec)

/-- 'selvedgelaw11.CursorTells', WHERE WHAT IT READS IS OF BULK AT MOST 1048576: true; the input reads as it did. -/
def cursorTellsUptoRow : OpenClaim := { program := "ytcpmcadgknfpjaagreatdoor", sum := "b4be35593a65fe389af3141f1be4554cb1781eed734a6d310f5f9bf6711266f9", func := "selvedge/selvedgelaw11.CursorTells", spec := "cursorTells", inPlace := ["internal/abi.NoEscape", "internal/bytealg.MakeNoZero"], unfollowed := true, recurses := true, named := ["internal/strconv.uint64pow10", "math/bits.deBruijn32tab", "math/bits.deBruijn64tab"], apart := false, laid := [("math/bits.deBruijn32tab", laid_math_bits_deBruijn32tab), ("math/bits.deBruijn64tab", laid_math_bits_deBruijn64tab), ("internal/strconv.uint64pow10", laid_internal_strconv_uint64pow10)], narrowed := true }
def CursorTellsUptoSaid : Prop := cursorTellsUptoRow.holds Tryz.pinned (OpenSpec.upto cursorTellsSpec)

/-- 'selvedgelaw09.EventReplays', WHERE WHAT IT READS IS OF BULK AT MOST 1048576: true; the input reads as it did. -/
def eventReplaysUptoRow : OpenClaim := { program := "ytcpmcadgknfpjaagreatdoor", sum := "b4be35593a65fe389af3141f1be4554cb1781eed734a6d310f5f9bf6711266f9", func := "selvedge/selvedgelaw09.EventReplays", spec := "eventReplays", inPlace := ["internal/abi.NoEscape", "internal/bytealg.MakeNoZero"], unfollowed := true, recurses := true, named := ["internal/strconv.uint64pow10", "math/bits.deBruijn32tab", "math/bits.deBruijn64tab"], apart := false, laid := [("math/bits.deBruijn32tab", laid_math_bits_deBruijn32tab), ("math/bits.deBruijn64tab", laid_math_bits_deBruijn64tab), ("internal/strconv.uint64pow10", laid_internal_strconv_uint64pow10)], narrowed := true }
def EventReplaysUptoSaid : Prop := eventReplaysUptoRow.holds Tryz.pinned (OpenSpec.upto eventReplaysSpec)

/-- 'selvedgelaw12.ReplicaLooks', WHERE WHAT IT READS IS OF BULK AT MOST 1048576: true; the input reads as it did. -/
def replicaLooksUptoRow : OpenClaim := { program := "ytcpmcadgknfpjaagreatdoor", sum := "b4be35593a65fe389af3141f1be4554cb1781eed734a6d310f5f9bf6711266f9", func := "selvedge/selvedgelaw12.ReplicaLooks", spec := "replicaLooks", inPlace := ["internal/abi.NoEscape", "internal/bytealg.MakeNoZero"], unfollowed := true, recurses := true, named := ["internal/strconv.uint64pow10", "math/bits.deBruijn32tab", "math/bits.deBruijn64tab"], apart := false, laid := [("math/bits.deBruijn32tab", laid_math_bits_deBruijn32tab), ("math/bits.deBruijn64tab", laid_math_bits_deBruijn64tab), ("internal/strconv.uint64pow10", laid_internal_strconv_uint64pow10)], narrowed := true }
def ReplicaLooksUptoSaid : Prop := replicaLooksUptoRow.holds Tryz.pinned (OpenSpec.upto replicaLooksSpec)

/-- 'selvedgelaw12.ReplicaPlays', WHERE WHAT IT READS IS OF BULK AT MOST 1048576: true; the input reads as it did. -/
def replicaPlaysUptoRow : OpenClaim := { program := "ytcpmcadgknfpjaagreatdoor", sum := "b4be35593a65fe389af3141f1be4554cb1781eed734a6d310f5f9bf6711266f9", func := "selvedge/selvedgelaw12.ReplicaPlays", spec := "replicaPlays", inPlace := ["internal/abi.NoEscape", "internal/bytealg.MakeNoZero"], unfollowed := true, recurses := true, named := ["internal/strconv.uint64pow10", "math/bits.deBruijn32tab", "math/bits.deBruijn64tab"], apart := false, laid := [("math/bits.deBruijn32tab", laid_math_bits_deBruijn32tab), ("math/bits.deBruijn64tab", laid_math_bits_deBruijn64tab), ("internal/strconv.uint64pow10", laid_internal_strconv_uint64pow10)], narrowed := true }
def ReplicaPlaysUptoSaid : Prop := replicaPlaysUptoRow.holds Tryz.pinned (OpenSpec.upto replicaPlaysSpec)

end Rows
end Go.Proofs.YtcpmcadgknfpjaaGreatDoor
