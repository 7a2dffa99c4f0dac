/-
  NARROWER THAN 'FOR EVERY INPUT', by the rows' own cells (each row's printed sentence says how): ModuleTold: laid · ModuleLays: laid · SideIs: laid · SideOrder: laid · SideLands: laid · SideMoves: laid · SideCounts: laid.
  DERIVED. THE GIVEN ROWS OF THIS SEAT. 7 by the template 'for every input the law returns true; each argument reads behind the call as it read before'; 0 by the template 'total and deterministic' (their statements: YtchgjamonjfjhaaGreatDoorTotals.lean).
  GIVEN WITH THE SEED: the statements are not yours to turn. If you find one false, say at which input.
  Laid BY PROGRAM, IN A SANDBOX (cutbox-rows.mjs): the forced cells as the released guide's own fill.sh prints them over the translation b91e1d541b461087… (all of the seat's roots in one cut). By AI agents, Wed Nov 11 2026. No macro, syntax, notation, axiom, sorry.
-/
import Derived.Test.YtchgjamonjfjhaaGreatDoorChecked
import GoSem.PinnedTables
import GoSem.Claim
import GoSem.ClaimJoined
import GoSem.ClaimMapViews
import Derived.JoinedTies
import Derived.KernelRfl
namespace Go.Proofs.YtchgjamonjfjhaaGreatDoor
/- THE CELL 'sum', in the pinned program and in every row, IS THE sha256 OF THE DUMP (.gsa) THAT YtchgjamonjfjhaaGreatDoorProg.lean LOADS. Nothing in Lean hashes anything: it is a label: what it is worth is what the hold of that sum in a sandbox is worth. -/
noncomputable def Tryz.pinned : Pinned := { name := "ytchgjamonjfjhaagreatdoor", sum := "b91e1d541b461087eaa304e33eb94b95d9e07f1051836efbce90c4b510a95abe", checked := Tryz.checked }
namespace Rows
def none {H : Type} : Left H := { results := [], args := [] }

/- WHAT THE LISTED PACKAGE-LEVEL VARIABLES READ AS WHEN THE CALL BEGINS. Each datum BY PROGRAM (the guide's laid-datum.mjs) off the statement by which the dump's own 'gosem.cut.vars' lays the variable. In a bare row this is a premise. The card (YtchgjamonjfjhaaGreatDoorCards.lean) ties it to the program's text. -/
def laid_unicode_utf8_acceptRanges {H : Type} : DataW H := .agg [.agg [.lit (.int .u8 128), .lit (.int .u8 191)], .agg [.lit (.int .u8 160), .lit (.int .u8 191)], .agg [.lit (.int .u8 128), .lit (.int .u8 159)], .agg [.lit (.int .u8 144), .lit (.int .u8 191)], .agg [.lit (.int .u8 128), .lit (.int .u8 143)], .agg [.lit (.int .u8 0), .lit (.int .u8 0)], .agg [.lit (.int .u8 0), .lit (.int .u8 0)], .agg [.lit (.int .u8 0), .lit (.int .u8 0)], .agg [.lit (.int .u8 0), .lit (.int .u8 0)], .agg [.lit (.int .u8 0), .lit (.int .u8 0)], .agg [.lit (.int .u8 0), .lit (.int .u8 0)], .agg [.lit (.int .u8 0), .lit (.int .u8 0)], .agg [.lit (.int .u8 0), .lit (.int .u8 0)], .agg [.lit (.int .u8 0), .lit (.int .u8 0)], .agg [.lit (.int .u8 0), .lit (.int .u8 0)], .agg [.lit (.int .u8 0), .lit (.int .u8 0)]]
def laid_avocet_instr_spans {H : Type} : DataW H := .agg [.agg [.lit (.int .i64 0), .lit (.int .i64 1), .lit (.int .i64 1)], .agg [.lit (.int .i64 2), .lit (.int .i64 4), .lit (.int .i64 2)], .agg [.lit (.int .i64 5), .lit (.int .i64 5), .lit (.int .i64 1)], .agg [.lit (.int .i64 11), .lit (.int .i64 11), .lit (.int .i64 1)], .agg [.lit (.int .i64 12), .lit (.int .i64 13), .lit (.int .i64 3)], .agg [.lit (.int .i64 14), .lit (.int .i64 14), .lit (.int .i64 4)], .agg [.lit (.int .i64 15), .lit (.int .i64 15), .lit (.int .i64 1)], .agg [.lit (.int .i64 16), .lit (.int .i64 16), .lit (.int .i64 3)], .agg [.lit (.int .i64 17), .lit (.int .i64 17), .lit (.int .i64 5)], .agg [.lit (.int .i64 26), .lit (.int .i64 27), .lit (.int .i64 1)], .agg [.lit (.int .i64 32), .lit (.int .i64 36), .lit (.int .i64 3)], .agg [.lit (.int .i64 40), .lit (.int .i64 41), .lit (.int .i64 6)], .agg [.lit (.int .i64 44), .lit (.int .i64 55), .lit (.int .i64 6)], .agg [.lit (.int .i64 58), .lit (.int .i64 62), .lit (.int .i64 6)], .agg [.lit (.int .i64 63), .lit (.int .i64 64), .lit (.int .i64 7)], .agg [.lit (.int .i64 65), .lit (.int .i64 65), .lit (.int .i64 8)], .agg [.lit (.int .i64 66), .lit (.int .i64 66), .lit (.int .i64 9)], .agg [.lit (.int .i64 69), .lit (.int .i64 90), .lit (.int .i64 1)], .agg [.lit (.int .i64 103), .lit (.int .i64 138), .lit (.int .i64 1)], .agg [.lit (.int .i64 167), .lit (.int .i64 167), .lit (.int .i64 1)], .agg [.lit (.int .i64 172), .lit (.int .i64 173), .lit (.int .i64 1)]]
/-- One of Go's own tables, pinned by name: the form's constant. -/
def laid_unicode_utf8_first : DataW Unit := Go.Pinned.utf8First
def laid_avocet_instr_rows {H : Type} : DataW H := .agg [.agg [.lit (.int .u8 127), .lit (.int .i64 4), .lit (.bool false), .lit (.bool false)], .agg [.lit (.int .u8 126), .lit (.int .i64 8), .lit (.bool false), .lit (.bool false)], .agg [.lit (.int .u8 0), .lit (.int .i64 0), .lit (.bool false), .lit (.bool false)], .agg [.lit (.int .u8 0), .lit (.int .i64 0), .lit (.bool false), .lit (.bool false)], .agg [.lit (.int .u8 127), .lit (.int .i64 1), .lit (.bool true), .lit (.bool false)], .agg [.lit (.int .u8 127), .lit (.int .i64 1), .lit (.bool false), .lit (.bool false)], .agg [.lit (.int .u8 127), .lit (.int .i64 2), .lit (.bool true), .lit (.bool false)], .agg [.lit (.int .u8 127), .lit (.int .i64 2), .lit (.bool false), .lit (.bool false)], .agg [.lit (.int .u8 126), .lit (.int .i64 1), .lit (.bool true), .lit (.bool false)], .agg [.lit (.int .u8 126), .lit (.int .i64 1), .lit (.bool false), .lit (.bool false)], .agg [.lit (.int .u8 126), .lit (.int .i64 2), .lit (.bool true), .lit (.bool false)], .agg [.lit (.int .u8 126), .lit (.int .i64 2), .lit (.bool false), .lit (.bool false)], .agg [.lit (.int .u8 126), .lit (.int .i64 4), .lit (.bool true), .lit (.bool false)], .agg [.lit (.int .u8 126), .lit (.int .i64 4), .lit (.bool false), .lit (.bool false)], .agg [.lit (.int .u8 127), .lit (.int .i64 4), .lit (.bool false), .lit (.bool true)], .agg [.lit (.int .u8 126), .lit (.int .i64 8), .lit (.bool false), .lit (.bool true)], .agg [.lit (.int .u8 0), .lit (.int .i64 0), .lit (.bool false), .lit (.bool false)], .agg [.lit (.int .u8 0), .lit (.int .i64 0), .lit (.bool false), .lit (.bool false)], .agg [.lit (.int .u8 127), .lit (.int .i64 1), .lit (.bool false), .lit (.bool true)], .agg [.lit (.int .u8 127), .lit (.int .i64 2), .lit (.bool false), .lit (.bool true)], .agg [.lit (.int .u8 126), .lit (.int .i64 1), .lit (.bool false), .lit (.bool true)], .agg [.lit (.int .u8 126), .lit (.int .i64 2), .lit (.bool false), .lit (.bool true)], .agg [.lit (.int .u8 126), .lit (.int .i64 4), .lit (.bool false), .lit (.bool true)]]

/-- 'avocetlaw08.ModuleTold': WHATEVER THE INPUT: true; the input reads as it did. -/
def moduleToldSpec : ChangeSpec := { name := "moduleTold", fn := fun _ => fun
  | [d1, d2, d3] => { results := [.lit (.bool true)], args := [d1, d2, d3] }
  | _ => none }
def moduleToldRow : OpenClaim := { program := "ytchgjamonjfjhaagreatdoor", sum := "b91e1d541b461087eaa304e33eb94b95d9e07f1051836efbce90c4b510a95abe", func := "avocet/avocetlaw08.ModuleTold", spec := "moduleTold", inPlace := ["internal/bytealg.MakeNoZero"], unfollowed := true, recurses := true, named := ["unicode/utf8.first", "unicode/utf8.acceptRanges", "avocet/instr.spans"], apart := false, laid := [("unicode/utf8.acceptRanges", laid_unicode_utf8_acceptRanges), ("avocet/instr.spans", laid_avocet_instr_spans), ("unicode/utf8.first", laid_unicode_utf8_first)] }
def ModuleToldSaid : Prop := moduleToldRow.holds Tryz.pinned (OpenSpec.ofChange moduleToldSpec)

/-- ITS FALSE NEIGHBOUR: 'it returns false'. Refute it at one input. -/
def moduleToldWrong : ChangeSpec := { name := "moduleTold", fn := fun _ => fun
  | [d1, d2, d3] => { results := [.lit (.bool false)], args := [d1, d2, d3] }
  | _ => none }
def ModuleToldWrongFalsely : Prop := moduleToldRow.holds Tryz.pinned (OpenSpec.ofChange moduleToldWrong)

/-- 'avocetlaw08.ModuleLays': WHATEVER THE INPUT: true; the input reads as it did. -/
def moduleLaysSpec : ChangeSpec := { name := "moduleLays", fn := fun _ => fun
  | [d1, d2, d3, d4] => { results := [.lit (.bool true)], args := [d1, d2, d3, d4] }
  | _ => none }
def moduleLaysRow : OpenClaim := { program := "ytchgjamonjfjhaagreatdoor", sum := "b91e1d541b461087eaa304e33eb94b95d9e07f1051836efbce90c4b510a95abe", func := "avocet/avocetlaw08.ModuleLays", spec := "moduleLays", inPlace := ["internal/bytealg.MakeNoZero"], unfollowed := true, recurses := true, named := ["unicode/utf8.first", "unicode/utf8.acceptRanges", "avocet/instr.spans"], apart := false, laid := [("unicode/utf8.acceptRanges", laid_unicode_utf8_acceptRanges), ("avocet/instr.spans", laid_avocet_instr_spans), ("unicode/utf8.first", laid_unicode_utf8_first)] }
def ModuleLaysSaid : Prop := moduleLaysRow.holds Tryz.pinned (OpenSpec.ofChange moduleLaysSpec)

/-- ITS FALSE NEIGHBOUR: 'it returns false'. Refute it at one input. -/
def moduleLaysWrong : ChangeSpec := { name := "moduleLays", fn := fun _ => fun
  | [d1, d2, d3, d4] => { results := [.lit (.bool false)], args := [d1, d2, d3, d4] }
  | _ => none }
def ModuleLaysWrongFalsely : Prop := moduleLaysRow.holds Tryz.pinned (OpenSpec.ofChange moduleLaysWrong)

/-- 'avocetlaw12.SideIs': WHATEVER THE INPUT: true; the input reads as it did. -/
def sideIsSpec : ChangeSpec := { name := "sideIs", fn := fun _ => fun
  | [d1, d2, d3, d4, d5] => { results := [.lit (.bool true)], args := [d1, d2, d3, d4, d5] }
  | _ => none }
def sideIsRow : OpenClaim := { program := "ytchgjamonjfjhaagreatdoor", sum := "b91e1d541b461087eaa304e33eb94b95d9e07f1051836efbce90c4b510a95abe", func := "avocet/avocetlaw12.SideIs", spec := "sideIs", inPlace := ["internal/reflectlite.ValueOf", "internal/reflectlite.Swapper", "(internal/reflectlite.Value).Len"], unfollowed := true, recurses := true, named := ["avocet/instr.spans", "avocet/instr.rows"], apart := false, laid := [("avocet/instr.spans", laid_avocet_instr_spans), ("avocet/instr.rows", laid_avocet_instr_rows)] }
def SideIsSaid : Prop := sideIsRow.holds Tryz.pinned (OpenSpec.ofChange sideIsSpec)

/-- ITS FALSE NEIGHBOUR: 'it returns false'. Refute it at one input. -/
def sideIsWrong : ChangeSpec := { name := "sideIs", fn := fun _ => fun
  | [d1, d2, d3, d4, d5] => { results := [.lit (.bool false)], args := [d1, d2, d3, d4, d5] }
  | _ => none }
def SideIsWrongFalsely : Prop := sideIsRow.holds Tryz.pinned (OpenSpec.ofChange sideIsWrong)

/-- 'avocetlaw12.SideOrder': WHATEVER THE INPUT: true; the input reads as it did. -/
def sideOrderSpec : ChangeSpec := { name := "sideOrder", fn := fun _ => fun
  | [d] => { results := [.lit (.bool true)], args := [d] }
  | _ => none }
def sideOrderRow : OpenClaim := { program := "ytchgjamonjfjhaagreatdoor", sum := "b91e1d541b461087eaa304e33eb94b95d9e07f1051836efbce90c4b510a95abe", func := "avocet/avocetlaw12.SideOrder", spec := "sideOrder", inPlace := ["internal/reflectlite.ValueOf", "internal/reflectlite.Swapper", "(internal/reflectlite.Value).Len"], unfollowed := true, recurses := true, named := ["avocet/instr.spans", "avocet/instr.rows"], apart := false, laid := [("avocet/instr.spans", laid_avocet_instr_spans), ("avocet/instr.rows", laid_avocet_instr_rows)] }
def SideOrderSaid : Prop := sideOrderRow.holds Tryz.pinned (OpenSpec.ofChange sideOrderSpec)

/-- ITS FALSE NEIGHBOUR: 'it returns false'. Refute it at one input. -/
def sideOrderWrong : ChangeSpec := { name := "sideOrder", fn := fun _ => fun
  | [d] => { results := [.lit (.bool false)], args := [d] }
  | _ => none }
def SideOrderWrongFalsely : Prop := sideOrderRow.holds Tryz.pinned (OpenSpec.ofChange sideOrderWrong)

/-- 'avocetlaw12.SideLands': WHATEVER THE INPUT: true; the input reads as it did. -/
def sideLandsSpec : ChangeSpec := { name := "sideLands", fn := fun _ => fun
  | [d1, d2, d3] => { results := [.lit (.bool true)], args := [d1, d2, d3] }
  | _ => none }
def sideLandsRow : OpenClaim := { program := "ytchgjamonjfjhaagreatdoor", sum := "b91e1d541b461087eaa304e33eb94b95d9e07f1051836efbce90c4b510a95abe", func := "avocet/avocetlaw12.SideLands", spec := "sideLands", inPlace := ["internal/reflectlite.ValueOf", "internal/reflectlite.Swapper", "(internal/reflectlite.Value).Len"], unfollowed := true, recurses := true, named := ["avocet/instr.spans", "avocet/instr.rows"], apart := false, laid := [("avocet/instr.spans", laid_avocet_instr_spans), ("avocet/instr.rows", laid_avocet_instr_rows)] }
def SideLandsSaid : Prop := sideLandsRow.holds Tryz.pinned (OpenSpec.ofChange sideLandsSpec)

/-- ITS FALSE NEIGHBOUR: 'it returns false'. Refute it at one input. -/
def sideLandsWrong : ChangeSpec := { name := "sideLands", fn := fun _ => fun
  | [d1, d2, d3] => { results := [.lit (.bool false)], args := [d1, d2, d3] }
  | _ => none }
def SideLandsWrongFalsely : Prop := sideLandsRow.holds Tryz.pinned (OpenSpec.ofChange sideLandsWrong)

/-- 'avocetlaw12.SideMoves': WHATEVER THE INPUT: true; the input reads as it did. -/
def sideMovesSpec : ChangeSpec := { name := "sideMoves", fn := fun _ => fun
  | [d1, d2, d3] => { results := [.lit (.bool true)], args := [d1, d2, d3] }
  | _ => none }
def sideMovesRow : OpenClaim := { program := "ytchgjamonjfjhaagreatdoor", sum := "b91e1d541b461087eaa304e33eb94b95d9e07f1051836efbce90c4b510a95abe", func := "avocet/avocetlaw12.SideMoves", spec := "sideMoves", inPlace := ["internal/reflectlite.ValueOf", "internal/reflectlite.Swapper", "(internal/reflectlite.Value).Len"], unfollowed := true, recurses := true, named := ["avocet/instr.spans", "avocet/instr.rows"], apart := false, laid := [("avocet/instr.spans", laid_avocet_instr_spans), ("avocet/instr.rows", laid_avocet_instr_rows)] }
def SideMovesSaid : Prop := sideMovesRow.holds Tryz.pinned (OpenSpec.ofChange sideMovesSpec)

/-- ITS FALSE NEIGHBOUR: 'it returns false'. Refute it at one input. -/
def sideMovesWrong : ChangeSpec := { name := "sideMoves", fn := fun _ => fun
  | [d1, d2, d3] => { results := [.lit (.bool false)], args := [d1, d2, d3] }
  | _ => none }
def SideMovesWrongFalsely : Prop := sideMovesRow.holds Tryz.pinned (OpenSpec.ofChange sideMovesWrong)

/-- 'avocetlaw12.SideCounts': WHATEVER THE INPUT: true; the input reads as it did. -/
def sideCountsSpec : ChangeSpec := { name := "sideCounts", fn := fun _ => fun
  | [d1, d2] => { results := [.lit (.bool true)], args := [d1, d2] }
  | _ => none }
def sideCountsRow : OpenClaim := { program := "ytchgjamonjfjhaagreatdoor", sum := "b91e1d541b461087eaa304e33eb94b95d9e07f1051836efbce90c4b510a95abe", func := "avocet/avocetlaw12.SideCounts", spec := "sideCounts", inPlace := ["internal/reflectlite.ValueOf", "internal/reflectlite.Swapper", "(internal/reflectlite.Value).Len"], unfollowed := true, recurses := true, named := ["avocet/instr.spans", "avocet/instr.rows"], apart := false, laid := [("avocet/instr.spans", laid_avocet_instr_spans), ("avocet/instr.rows", laid_avocet_instr_rows)] }
def SideCountsSaid : Prop := sideCountsRow.holds Tryz.pinned (OpenSpec.ofChange sideCountsSpec)

/-- ITS FALSE NEIGHBOUR: 'it returns false'. Refute it at one input. -/
def sideCountsWrong : ChangeSpec := { name := "sideCounts", fn := fun _ => fun
  | [d1, d2] => { results := [.lit (.bool false)], args := [d1, d2] }
  | _ => none }
def SideCountsWrongFalsely : Prop := sideCountsRow.holds Tryz.pinned (OpenSpec.ofChange sideCountsWrong)

/- THE SECOND FORM. 'bulk': how many values and letters a reading holds, each counted each time it is reached (what is shared counts as often as it is met; a slice's spare places count too). A statement '..UptoSaid' is the law's where the arguments, and the package variables that the reading takes, are together of bulk at most 1048576: NARROWER than '..Said'. Prove '..Said' where nothing that the law and all that it calls make is longer than what came in: it says more and counts as full. Else prove '..UptoSaid'. A law counts once. -/
mutual
def uptoBulk {H : Type} : DataW H → Nat
  | .lit (.string bytes) => bytes.length + 1
  | .lit _ => 1
  | .nil => 1
  | .ptr d => uptoBulk d + 1
  | .slice elems spare => uptoBulkAll elems + uptoBulkAll spare + 1
  | .agg parts => uptoBulkAll parts + 1
  | .iface _ d => uptoBulk d + 1
  | .map entries => uptoBulkEntries entries + 1
  | .held _ => 1
def uptoBulkAll {H : Type} : List (DataW H) → Nat
  | [] => 0
  | d :: r => uptoBulk d + uptoBulkAll r
def uptoBulkEntries {H : Type} : List (Lit × DataW H) → Nat
  | [] => 0
  | x :: r => uptoBulkEntry x + uptoBulkEntries r
def uptoBulkEntry {H : Type} : Lit × DataW H → Nat
  | (.string bytes, d) => bytes.length + uptoBulk d + 1
  | (_, d) => uptoBulk d + 1
 end
def uptoSmall : (H : Type) → List (DataW H) → Bool := fun _ ds => decide (uptoBulkAll ds ≤ 1048576)
def OpenSpec.upto (s : _root_.Go.ChangeSpec) : _root_.Go.OpenSpec := { _root_.Go.OpenSpec.ofChange s with cond := some uptoSmall }

/-- 'avocetlaw08.ModuleTold', WHERE WHAT IT READS IS OF BULK AT MOST 1048576: true; the input reads as it did. -/
def moduleToldUptoRow : OpenClaim := { program := "ytchgjamonjfjhaagreatdoor", sum := "b91e1d541b461087eaa304e33eb94b95d9e07f1051836efbce90c4b510a95abe", func := "avocet/avocetlaw08.ModuleTold", spec := "moduleTold", inPlace := ["internal/bytealg.MakeNoZero"], unfollowed := true, recurses := true, named := ["unicode/utf8.first", "unicode/utf8.acceptRanges", "avocet/instr.spans"], apart := false, laid := [("unicode/utf8.acceptRanges", laid_unicode_utf8_acceptRanges), ("avocet/instr.spans", laid_avocet_instr_spans), ("unicode/utf8.first", laid_unicode_utf8_first)], narrowed := true }
def ModuleToldUptoSaid : Prop := moduleToldUptoRow.holds Tryz.pinned (OpenSpec.upto moduleToldSpec)

/-- 'avocetlaw08.ModuleLays', WHERE WHAT IT READS IS OF BULK AT MOST 1048576: true; the input reads as it did. -/
def moduleLaysUptoRow : OpenClaim := { program := "ytchgjamonjfjhaagreatdoor", sum := "b91e1d541b461087eaa304e33eb94b95d9e07f1051836efbce90c4b510a95abe", func := "avocet/avocetlaw08.ModuleLays", spec := "moduleLays", inPlace := ["internal/bytealg.MakeNoZero"], unfollowed := true, recurses := true, named := ["unicode/utf8.first", "unicode/utf8.acceptRanges", "avocet/instr.spans"], apart := false, laid := [("unicode/utf8.acceptRanges", laid_unicode_utf8_acceptRanges), ("avocet/instr.spans", laid_avocet_instr_spans), ("unicode/utf8.first", laid_unicode_utf8_first)], narrowed := true }
def ModuleLaysUptoSaid : Prop := moduleLaysUptoRow.holds Tryz.pinned (OpenSpec.upto moduleLaysSpec)

/-- 'avocetlaw12.SideIs', WHERE WHAT IT READS IS OF BULK AT MOST 1048576: true; the input reads as it did. -/
def sideIsUptoRow : OpenClaim := { program := "ytchgjamonjfjhaagreatdoor", sum := "b91e1d541b461087eaa304e33eb94b95d9e07f1051836efbce90c4b510a95abe", func := "avocet/avocetlaw12.SideIs", spec := "sideIs", inPlace := ["internal/reflectlite.ValueOf", "internal/reflectlite.Swapper", "(internal/reflectlite.Value).Len"], unfollowed := true, recurses := true, named := ["avocet/instr.spans", "avocet/instr.rows"], apart := false, laid := [("avocet/instr.spans", laid_avocet_instr_spans), ("avocet/instr.rows", laid_avocet_instr_rows)], narrowed := true }
def SideIsUptoSaid : Prop := sideIsUptoRow.holds Tryz.pinned (OpenSpec.upto sideIsSpec)

/-- 'avocetlaw12.SideOrder', WHERE WHAT IT READS IS OF BULK AT MOST 1048576: true; the input reads as it did. -/
def sideOrderUptoRow : OpenClaim := { program := "ytchgjamonjfjhaagreatdoor", sum := "b91e1d541b461087eaa304e33eb94b95d9e07f1051836efbce90c4b510a95abe", func := "avocet/avocetlaw12.SideOrder", spec := "sideOrder", inPlace := ["internal/reflectlite.ValueOf", "internal/reflectlite.Swapper", "(internal/reflectlite.Value).Len"], unfollowed := true, recurses := true, named := ["avocet/instr.spans", "avocet/instr.rows"], apart := false, laid := [("avocet/instr.spans", laid_avocet_instr_spans), ("avocet/instr.rows", laid_avocet_instr_rows)], narrowed := true }
def SideOrderUptoSaid : Prop := sideOrderUptoRow.holds Tryz.pinned (OpenSpec.upto sideOrderSpec)

/-- 'avocetlaw12.SideLands', WHERE WHAT IT READS IS OF BULK AT MOST 1048576: true; the input reads as it did. -/
def sideLandsUptoRow : OpenClaim := { program := "ytchgjamonjfjhaagreatdoor", sum := "b91e1d541b461087eaa304e33eb94b95d9e07f1051836efbce90c4b510a95abe", func := "avocet/avocetlaw12.SideLands", spec := "sideLands", inPlace := ["internal/reflectlite.ValueOf", "internal/reflectlite.Swapper", "(internal/reflectlite.Value).Len"], unfollowed := true, recurses := true, named := ["avocet/instr.spans", "avocet/instr.rows"], apart := false, laid := [("avocet/instr.spans", laid_avocet_instr_spans), ("avocet/instr.rows", laid_avocet_instr_rows)], narrowed := true }
def SideLandsUptoSaid : Prop := sideLandsUptoRow.holds Tryz.pinned (OpenSpec.upto sideLandsSpec)

/-- 'avocetlaw12.SideMoves', WHERE WHAT IT READS IS OF BULK AT MOST 1048576: true; the input reads as it did. -/
def sideMovesUptoRow : OpenClaim := { program := "ytchgjamonjfjhaagreatdoor", sum := "b91e1d541b461087eaa304e33eb94b95d9e07f1051836efbce90c4b510a95abe", func := "avocet/avocetlaw12.SideMoves", spec := "sideMoves", inPlace := ["internal/reflectlite.ValueOf", "internal/reflectlite.Swapper", "(internal/reflectlite.Value).Len"], unfollowed := true, recurses := true, named := ["avocet/instr.spans", "avocet/instr.rows"], apart := false, laid := [("avocet/instr.spans", laid_avocet_instr_spans), ("avocet/instr.rows", laid_avocet_instr_rows)], narrowed := true }
def SideMovesUptoSaid : Prop := sideMovesUptoRow.holds Tryz.pinned (OpenSpec.upto sideMovesSpec)

/-- 'avocetlaw12.SideCounts', WHERE WHAT IT READS IS OF BULK AT MOST 1048576: true; the input reads as it did. -/
def sideCountsUptoRow : OpenClaim := { program := "ytchgjamonjfjhaagreatdoor", sum := "b91e1d541b461087eaa304e33eb94b95d9e07f1051836efbce90c4b510a95abe", func := "avocet/avocetlaw12.SideCounts", spec := "sideCounts", inPlace := ["internal/reflectlite.ValueOf", "internal/reflectlite.Swapper", "(internal/reflectlite.Value).Len"], unfollowed := true, recurses := true, named := ["avocet/instr.spans", "avocet/instr.rows"], apart := false, laid := [("avocet/instr.spans", laid_avocet_instr_spans), ("avocet/instr.rows", laid_avocet_instr_rows)], narrowed := true }
def SideCountsUptoSaid : Prop := sideCountsUptoRow.holds Tryz.pinned (OpenSpec.upto sideCountsSpec)

end Rows
end Go.Proofs.YtchgjamonjfjhaaGreatDoor
