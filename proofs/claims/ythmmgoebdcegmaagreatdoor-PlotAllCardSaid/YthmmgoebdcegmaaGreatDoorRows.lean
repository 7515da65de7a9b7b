/-
  NARROWER THAN 'FOR EVERY INPUT', by the rows' own cells (each row's printed sentence says how): PlotChoices: laid · PlotAll: laid · PlotMore: laid · LedgerCounts: laid · CutParts: laid · CutOrder: laid.
  DERIVED. THE GIVEN ROWS OF THIS SEAT. 6 by the template 'for every input the law returns true; each argument reads behind the call as it read before'; 0 by the template 'total and deterministic' (their statements: YthmmgoebdcegmaaGreatDoorTotals.lean).
  GIVEN WITH THE SEED: the statements are not yours to turn. If you find one false, say at which input.
  Laid BY PROGRAM, IN A SANDBOX (cutbox-rows.mjs): the forced cells as the released guide's own fill.sh prints them over the translation 0fbba7b265d2612c… (all of the seat's roots in one cut). By AI agents, Wed Nov 11 2026. No macro, syntax, notation, axiom, sorry.
-/
import Derived.Test.YthmmgoebdcegmaaGreatDoorChecked
import GoSem.Claim
import GoSem.ClaimJoined
import GoSem.ClaimMapViews
import Derived.JoinedTies
import Derived.KernelRfl
namespace Go.Proofs.YthmmgoebdcegmaaGreatDoor
/- THE CELL 'sum', in the pinned program and in every row, IS THE sha256 OF THE DUMP (.gsa) THAT YthmmgoebdcegmaaGreatDoorProg.lean LOADS. Nothing in Lean hashes anything: it is a label: what it is worth is what the hold of that sum in a sandbox is worth. -/
noncomputable def Tryz.pinned : Pinned := { name := "ythmmgoebdcegmaagreatdoor", sum := "0fbba7b265d2612c4023108ae9e622e037b81f1dabe793fa84a893a872e077cc", checked := Tryz.checked }
namespace Rows
def none {H : Type} : Left H := { results := [], args := [] }

/- WHAT THE LISTED PACKAGE-LEVEL VARIABLES READ AS WHEN THE CALL BEGINS. Each datum BY PROGRAM (the guide's laid-datum.mjs) off the statement by which the dump's own 'gosem.cut.vars' lays the variable. In a bare row this is a premise. The card (YthmmgoebdcegmaaGreatDoorCards.lean) ties it to the program's text. -/
def laid_queuelab_random_mixing {H : Type} : DataW H := .agg [.agg [.lit (.int .u64 30), .lit (.int .u64 13787848793156543929)], .agg [.lit (.int .u64 27), .lit (.int .u64 10723151780598845931)], .agg [.lit (.int .u64 31), .lit (.int .u64 1)]]
def laid_queuelab_machine_least {H : Type} : DataW H := .agg [.lit (.int .i64 1), .lit (.int .i64 1), .lit (.int .i64 1), .lit (.int .i64 0)]
def laid_queuelab_machine_most {H : Type} : DataW H := .agg [.lit (.int .i64 1000), .lit (.int .i64 10000000), .lit (.int .i64 10000), .lit (.int .i64 4000)]

/-- 'queuelablaw38.PlotChoices': WHATEVER THE INPUT: true; the input reads as it did. -/
def plotChoicesSpec : ChangeSpec := { name := "plotChoices", fn := fun _ => fun
  | [d1, d2] => { results := [.lit (.bool true)], args := [d1, d2] }
  | _ => none }
def plotChoicesRow : OpenClaim := { program := "ythmmgoebdcegmaagreatdoor", sum := "0fbba7b265d2612c4023108ae9e622e037b81f1dabe793fa84a893a872e077cc", func := "queuelab/queuelablaw38.PlotChoices", spec := "plotChoices", inPlace := ["slices.overlaps[int]"], unfollowed := true, recurses := true, named := ["queuelab/random.mixing", "queuelab/machine.least", "queuelab/machine.most"], plainKeys := false, apart := false, laid := [("queuelab/random.mixing", laid_queuelab_random_mixing), ("queuelab/machine.least", laid_queuelab_machine_least), ("queuelab/machine.most", laid_queuelab_machine_most)] }
def PlotChoicesSaid : Prop := plotChoicesRow.holds Tryz.pinned (OpenSpec.ofChange plotChoicesSpec)

/-- ITS FALSE NEIGHBOUR: 'it returns false'. Refute it at one input. -/
def plotChoicesWrong : ChangeSpec := { name := "plotChoices", fn := fun _ => fun
  | [d1, d2] => { results := [.lit (.bool false)], args := [d1, d2] }
  | _ => none }
def PlotChoicesWrongFalsely : Prop := plotChoicesRow.holds Tryz.pinned (OpenSpec.ofChange plotChoicesWrong)

/-- 'queuelablaw38.PlotAll': WHATEVER THE INPUT: true; the input reads as it did. -/
def plotAllSpec : ChangeSpec := { name := "plotAll", fn := fun _ => fun
  | [d] => { results := [.lit (.bool true)], args := [d] }
  | _ => none }
def plotAllRow : OpenClaim := { program := "ythmmgoebdcegmaagreatdoor", sum := "0fbba7b265d2612c4023108ae9e622e037b81f1dabe793fa84a893a872e077cc", func := "queuelab/queuelablaw38.PlotAll", spec := "plotAll", inPlace := ["slices.overlaps[int]"], unfollowed := true, recurses := true, named := ["queuelab/random.mixing", "queuelab/machine.least", "queuelab/machine.most"], plainKeys := false, apart := false, laid := [("queuelab/random.mixing", laid_queuelab_random_mixing), ("queuelab/machine.least", laid_queuelab_machine_least), ("queuelab/machine.most", laid_queuelab_machine_most)] }
def PlotAllSaid : Prop := plotAllRow.holds Tryz.pinned (OpenSpec.ofChange plotAllSpec)

/-- ITS FALSE NEIGHBOUR: 'it returns false'. Refute it at one input. -/
def plotAllWrong : ChangeSpec := { name := "plotAll", fn := fun _ => fun
  | [d] => { results := [.lit (.bool false)], args := [d] }
  | _ => none }
def PlotAllWrongFalsely : Prop := plotAllRow.holds Tryz.pinned (OpenSpec.ofChange plotAllWrong)

/-- 'queuelablaw38.PlotMore': WHATEVER THE INPUT: true; the input reads as it did. -/
def plotMoreSpec : ChangeSpec := { name := "plotMore", fn := fun _ => fun
  | [d1, d2, d3, d4, d5] => { results := [.lit (.bool true)], args := [d1, d2, d3, d4, d5] }
  | _ => none }
def plotMoreRow : OpenClaim := { program := "ythmmgoebdcegmaagreatdoor", sum := "0fbba7b265d2612c4023108ae9e622e037b81f1dabe793fa84a893a872e077cc", func := "queuelab/queuelablaw38.PlotMore", spec := "plotMore", inPlace := ["slices.overlaps[int]"], unfollowed := true, recurses := true, named := ["queuelab/random.mixing", "queuelab/machine.least", "queuelab/machine.most"], plainKeys := false, apart := false, laid := [("queuelab/random.mixing", laid_queuelab_random_mixing), ("queuelab/machine.least", laid_queuelab_machine_least), ("queuelab/machine.most", laid_queuelab_machine_most)] }
def PlotMoreSaid : Prop := plotMoreRow.holds Tryz.pinned (OpenSpec.ofChange plotMoreSpec)

/-- ITS FALSE NEIGHBOUR: 'it returns false'. Refute it at one input. -/
def plotMoreWrong : ChangeSpec := { name := "plotMore", fn := fun _ => fun
  | [d1, d2, d3, d4, d5] => { results := [.lit (.bool false)], args := [d1, d2, d3, d4, d5] }
  | _ => none }
def PlotMoreWrongFalsely : Prop := plotMoreRow.holds Tryz.pinned (OpenSpec.ofChange plotMoreWrong)

/-- 'queuelablaw33.LedgerCounts': WHATEVER THE INPUT: true; the input reads as it did. -/
def ledgerCountsSpec : ChangeSpec := { name := "ledgerCounts", fn := fun _ => fun
  | [d1, d2, d3, d4, d5] => { results := [.lit (.bool true)], args := [d1, d2, d3, d4, d5] }
  | _ => none }
def ledgerCountsRow : OpenClaim := { program := "ythmmgoebdcegmaagreatdoor", sum := "0fbba7b265d2612c4023108ae9e622e037b81f1dabe793fa84a893a872e077cc", func := "queuelab/queuelablaw33.LedgerCounts", spec := "ledgerCounts", inPlace := ["slices.overlaps[int]"], unfollowed := true, recurses := true, named := ["queuelab/random.mixing", "queuelab/machine.least", "queuelab/machine.most"], plainKeys := false, apart := false, laid := [("queuelab/random.mixing", laid_queuelab_random_mixing), ("queuelab/machine.least", laid_queuelab_machine_least), ("queuelab/machine.most", laid_queuelab_machine_most)] }
def LedgerCountsSaid : Prop := ledgerCountsRow.holds Tryz.pinned (OpenSpec.ofChange ledgerCountsSpec)

/-- ITS FALSE NEIGHBOUR: 'it returns false'. Refute it at one input. -/
def ledgerCountsWrong : ChangeSpec := { name := "ledgerCounts", fn := fun _ => fun
  | [d1, d2, d3, d4, d5] => { results := [.lit (.bool false)], args := [d1, d2, d3, d4, d5] }
  | _ => none }
def LedgerCountsWrongFalsely : Prop := ledgerCountsRow.holds Tryz.pinned (OpenSpec.ofChange ledgerCountsWrong)

/-- 'queuelablaw34.CutParts': WHATEVER THE INPUT: true; the input reads as it did. -/
def cutPartsSpec : ChangeSpec := { name := "cutParts", fn := fun _ => fun
  | [d1, d2] => { results := [.lit (.bool true)], args := [d1, d2] }
  | _ => none }
def cutPartsRow : OpenClaim := { program := "ythmmgoebdcegmaagreatdoor", sum := "0fbba7b265d2612c4023108ae9e622e037b81f1dabe793fa84a893a872e077cc", func := "queuelab/queuelablaw34.CutParts", spec := "cutParts", inPlace := ["slices.overlaps[int]"], unfollowed := true, recurses := true, named := ["queuelab/random.mixing", "queuelab/machine.least", "queuelab/machine.most"], plainKeys := false, apart := false, laid := [("queuelab/random.mixing", laid_queuelab_random_mixing), ("queuelab/machine.least", laid_queuelab_machine_least), ("queuelab/machine.most", laid_queuelab_machine_most)] }
def CutPartsSaid : Prop := cutPartsRow.holds Tryz.pinned (OpenSpec.ofChange cutPartsSpec)

/-- ITS FALSE NEIGHBOUR: 'it returns false'. Refute it at one input. -/
def cutPartsWrong : ChangeSpec := { name := "cutParts", fn := fun _ => fun
  | [d1, d2] => { results := [.lit (.bool false)], args := [d1, d2] }
  | _ => none }
def CutPartsWrongFalsely : Prop := cutPartsRow.holds Tryz.pinned (OpenSpec.ofChange cutPartsWrong)

/-- 'queuelablaw34.CutOrder': WHATEVER THE INPUT: true; the input reads as it did. -/
def cutOrderSpec : ChangeSpec := { name := "cutOrder", fn := fun _ => fun
  | [d1, d2, d3, d4, d5] => { results := [.lit (.bool true)], args := [d1, d2, d3, d4, d5] }
  | _ => none }
def cutOrderRow : OpenClaim := { program := "ythmmgoebdcegmaagreatdoor", sum := "0fbba7b265d2612c4023108ae9e622e037b81f1dabe793fa84a893a872e077cc", func := "queuelab/queuelablaw34.CutOrder", spec := "cutOrder", inPlace := ["slices.overlaps[int]"], unfollowed := true, recurses := true, named := ["queuelab/random.mixing", "queuelab/machine.least", "queuelab/machine.most"], plainKeys := false, apart := false, laid := [("queuelab/random.mixing", laid_queuelab_random_mixing), ("queuelab/machine.least", laid_queuelab_machine_least), ("queuelab/machine.most", laid_queuelab_machine_most)] }
def CutOrderSaid : Prop := cutOrderRow.holds Tryz.pinned (OpenSpec.ofChange cutOrderSpec)

/-- ITS FALSE NEIGHBOUR: 'it returns false'. Refute it at one input. -/
def cutOrderWrong : ChangeSpec := { name := "cutOrder", fn := fun _ => fun
  | [d1, d2, d3, d4, d5] => { results := [.lit (.bool false)], args := [d1, d2, d3, d4, d5] }
  | _ => none }
def CutOrderWrongFalsely : Prop := cutOrderRow.holds Tryz.pinned (OpenSpec.ofChange cutOrderWrong)

/- THE SECOND FORM. 'bulk': how many values and letters a reading holds, each counted each time it is reached (what is shared counts as often as it is met; a slice's spare places count too). A statement '..UptoSaid' is the law's where the arguments, and the package variables that the reading takes, are together of bulk at most 1048576: NARROWER than '..Said'. Prove '..Said' where nothing that the law and all that it calls make is longer than what came in: it says more and counts as full. Else prove '..UptoSaid'. A law counts once. -/
mutual
def uptoBulk {H : Type} : DataW H → Nat
  | .lit (.string bytes) => bytes.length + 1
  | .lit _ => 1
  | .nil => 1
  | .ptr d => uptoBulk d + 1
  | .slice elems spare => uptoBulkAll elems + uptoBulkAll spare + 1
  | .agg parts => uptoBulkAll parts + 1
  | .iface _ d => uptoBulk d + 1
  | .map entries => uptoBulkEntries entries + 1
  | .held _ => 1
def uptoBulkAll {H : Type} : List (DataW H) → Nat
  | [] => 0
  | d :: r => uptoBulk d + uptoBulkAll r
def uptoBulkEntries {H : Type} : List (Lit × DataW H) → Nat
  | [] => 0
  | x :: r => uptoBulkEntry x + uptoBulkEntries r
def uptoBulkEntry {H : Type} : Lit × DataW H → Nat
  | (.string bytes, d) => bytes.length + uptoBulk d + 1
  | (_, d) => uptoBulk d + 1
 end
def uptoSmall : (H : Type) → List (DataW H) → Bool := fun _ ds => decide (uptoBulkAll ds ≤ 1048576)
def OpenSpec.upto (s : _root_.Go.ChangeSpec) : _root_.Go.OpenSpec := { _root_.Go.OpenSpec.ofChange s with cond := some uptoSmall }

/-- 'queuelablaw38.PlotChoices', WHERE WHAT IT READS IS OF BULK AT MOST 1048576: true; the input reads as it did. -/
def plotChoicesUptoRow : OpenClaim := { program := "ythmmgoebdcegmaagreatdoor", sum := "0fbba7b265d2612c4023108ae9e622e037b81f1dabe793fa84a893a872e077cc", func := "queuelab/queuelablaw38.PlotChoices", spec := "plotChoices", inPlace := ["slices.overlaps[int]"], unfollowed := true, recurses := true, named := ["queuelab/random.mixing", "queuelab/machine.least", "queuelab/machine.most"], plainKeys := false, apart := false, laid := [("queuelab/random.mixing", laid_queuelab_random_mixing), ("queuelab/machine.least", laid_queuelab_machine_least), ("queuelab/machine.most", laid_queuelab_machine_most)], narrowed := true }
def PlotChoicesUptoSaid : Prop := plotChoicesUptoRow.holds Tryz.pinned (OpenSpec.upto plotChoicesSpec)

/-- 'queuelablaw38.PlotAll', WHERE WHAT IT READS IS OF BULK AT MOST 1048576: true; the input reads as it did. -/
def plotAllUptoRow : OpenClaim := { program := "ythmmgoebdcegmaagreatdoor", sum := "0fbba7b265d2612c4023108ae9e622e037b81f1dabe793fa84a893a872e077cc", func := "queuelab/queuelablaw38.PlotAll", spec := "plotAll", inPlace := ["slices.overlaps[int]"], unfollowed := true, recurses := true, named := ["queuelab/random.mixing", "queuelab/machine.least", "queuelab/machine.most"], plainKeys := false, apart := false, laid := [("queuelab/random.mixing", laid_queuelab_random_mixing), ("queuelab/machine.least", laid_queuelab_machine_least), ("queuelab/machine.most", laid_queuelab_machine_most)], narrowed := true }
def PlotAllUptoSaid : Prop := plotAllUptoRow.holds Tryz.pinned (OpenSpec.upto plotAllSpec)

/-- 'queuelablaw38.PlotMore', WHERE WHAT IT READS IS OF BULK AT MOST 1048576: true; the input reads as it did. -/
def plotMoreUptoRow : OpenClaim := { program := "ythmmgoebdcegmaagreatdoor", sum := "0fbba7b265d2612c4023108ae9e622e037b81f1dabe793fa84a893a872e077cc", func := "queuelab/queuelablaw38.PlotMore", spec := "plotMore", inPlace := ["slices.overlaps[int]"], unfollowed := true, recurses := true, named := ["queuelab/random.mixing", "queuelab/machine.least", "queuelab/machine.most"], plainKeys := false, apart := false, laid := [("queuelab/random.mixing", laid_queuelab_random_mixing), ("queuelab/machine.least", laid_queuelab_machine_least), ("queuelab/machine.most", laid_queuelab_machine_most)], narrowed := true }
def PlotMoreUptoSaid : Prop := plotMoreUptoRow.holds Tryz.pinned (OpenSpec.upto plotMoreSpec)

/-- 'queuelablaw33.LedgerCounts', WHERE WHAT IT READS IS OF BULK AT MOST 1048576: true; the input reads as it did. -/
def ledgerCountsUptoRow : OpenClaim := { program := "ythmmgoebdcegmaagreatdoor", sum := "0fbba7b265d2612c4023108ae9e622e037b81f1dabe793fa84a893a872e077cc", func := "queuelab/queuelablaw33.LedgerCounts", spec := "ledgerCounts", inPlace := ["slices.overlaps[int]"], unfollowed := true, recurses := true, named := ["queuelab/random.mixing", "queuelab/machine.least", "queuelab/machine.most"], plainKeys := false, apart := false, laid := [("queuelab/random.mixing", laid_queuelab_random_mixing), ("queuelab/machine.least", laid_queuelab_machine_least), ("queuelab/machine.most", laid_queuelab_machine_most)], narrowed := true }
def LedgerCountsUptoSaid : Prop := ledgerCountsUptoRow.holds Tryz.pinned (OpenSpec.upto ledgerCountsSpec)

/-- 'queuelablaw34.CutParts', WHERE WHAT IT READS IS OF BULK AT MOST 1048576: true; the input reads as it did. -/
def cutPartsUptoRow : OpenClaim := { program := "ythmmgoebdcegmaagreatdoor", sum := "0fbba7b265d2612c4023108ae9e622e037b81f1dabe793fa84a893a872e077cc", func := "queuelab/queuelablaw34.CutParts", spec := "cutParts", inPlace := ["slices.overlaps[int]"], unfollowed := true, recurses := true, named := ["queuelab/random.mixing", "queuelab/machine.least", "queuelab/machine.most"], plainKeys := false, apart := false, laid := [("queuelab/random.mixing", laid_queuelab_random_mixing), ("queuelab/machine.least", laid_queuelab_machine_least), ("queuelab/machine.most", laid_queuelab_machine_most)], narrowed := true }
def CutPartsUptoSaid : Prop := cutPartsUptoRow.holds Tryz.pinned (OpenSpec.upto cutPartsSpec)

/-- 'queuelablaw34.CutOrder', WHERE WHAT IT READS IS OF BULK AT MOST 1048576: true; the input reads as it did. -/
def cutOrderUptoRow : OpenClaim := { program := "ythmmgoebdcegmaagreatdoor", sum := "0fbba7b265d2612c4023108ae9e622e037b81f1dabe793fa84a893a872e077cc", func := "queuelab/queuelablaw34.CutOrder", spec := "cutOrder", inPlace := ["slices.overlaps[int]"], unfollowed := true, recurses := true, named := ["queuelab/random.mixing", "queuelab/machine.least", "queuelab/machine.most"], plainKeys := false, apart := false, laid := [("queuelab/random.mixing", laid_queuelab_random_mixing), ("queuelab/machine.least", laid_queuelab_machine_least), ("queuelab/machine.most", laid_queuelab_machine_most)], narrowed := true }
def CutOrderUptoSaid : Prop := cutOrderUptoRow.holds Tryz.pinned (OpenSpec.upto cutOrderSpec)

end Rows
end Go.Proofs.YthmmgoebdcegmaaGreatDoor
