/-
  No cell of these rows narrows 'for every input' (looked for: loops, veiled, ifaces, maps, wideKeys, modest, calm, conditions, laid).
  DERIVED. THE GIVEN ROWS OF THIS SEAT. 5 by the template 'for every input the law returns true; each argument reads behind the call as it read before'; 0 by the template 'total and deterministic' (their statements: YtkaodeodiakldaaTotals.lean).
  GIVEN WITH THE SEED: the statements are not yours to turn. If you find one false, say at which input.
  Laid BY PROGRAM, IN A SANDBOX (cutbox-rows.mjs): the forced cells as the released guide's own fill.sh prints them over the translation 6e5cf1750c9972ed… (all of the seat's roots in one cut). By AI agents, Wed Nov 11 2026. No macro, syntax, notation, axiom, sorry.
-/
import Derived.Test.YtkaodeodiakldaaChecked
import GoSem.Claim
import GoSem.ClaimJoined
import GoSem.ClaimMapViews
import Derived.JoinedTies
import Derived.KernelRfl
namespace Go.Proofs.Ytkaodeodiakldaa
/- THE CELL 'sum', in the pinned program and in every row, IS THE sha256 OF THE DUMP (.gsa) THAT YtkaodeodiakldaaProg.lean LOADS. Nothing in Lean hashes anything: it is a label: what it is worth is what the hold of that sum in a sandbox is worth. -/
noncomputable def Try.pinned : Pinned := { name := "ytkaodeodiakldaa", sum := "6e5cf1750c9972ed6848ea9a8b0e1967f5cc241cb820b6658f711b40540cfe7f", checked := Try.checked }
namespace Rows
def none {H : Type} : Left H := { results := [], args := [] }

/-- 'queuelablaw37.WorkersMatchesReference': WHATEVER THE INPUT: true; the input reads as it did. -/
def workersMatchesReferenceSpec : ChangeSpec := { name := "workersMatchesReference", fn := fun _ => fun
  | [d1, d2, d3, d4, d5, d6] => { results := [.lit (.bool true)], args := [d1, d2, d3, d4, d5, d6] }
  | _ => none }
def workersMatchesReferenceRow : OpenClaim := { program := "ytkaodeodiakldaa", sum := "6e5cf1750c9972ed6848ea9a8b0e1967f5cc241cb820b6658f711b40540cfe7f", func := "queuelab/queuelablaw37.WorkersMatchesReference", spec := "workersMatchesReference", unfollowed := true, recurses := true, plainKeys := false, apart := false }
def WorkersMatchesReferenceSaid : Prop := workersMatchesReferenceRow.holds Try.pinned (OpenSpec.ofChange workersMatchesReferenceSpec)

/-- ITS FALSE NEIGHBOUR: 'it returns false'. Refute it at one input. -/
def workersMatchesReferenceWrong : ChangeSpec := { name := "workersMatchesReference", fn := fun _ => fun
  | [d1, d2, d3, d4, d5, d6] => { results := [.lit (.bool false)], args := [d1, d2, d3, d4, d5, d6] }
  | _ => none }
def WorkersMatchesReferenceWrongFalsely : Prop := workersMatchesReferenceRow.holds Try.pinned (OpenSpec.ofChange workersMatchesReferenceWrong)

/-- 'queuelablaw37.WorkersCover': WHATEVER THE INPUT: true; the input reads as it did. -/
def workersCoverSpec : ChangeSpec := { name := "workersCover", fn := fun _ => fun
  | [d1, d2, d3, d4] => { results := [.lit (.bool true)], args := [d1, d2, d3, d4] }
  | _ => none }
def workersCoverRow : OpenClaim := { program := "ytkaodeodiakldaa", sum := "6e5cf1750c9972ed6848ea9a8b0e1967f5cc241cb820b6658f711b40540cfe7f", func := "queuelab/queuelablaw37.WorkersCover", spec := "workersCover", unfollowed := true, recurses := true, plainKeys := false, apart := false }
def WorkersCoverSaid : Prop := workersCoverRow.holds Try.pinned (OpenSpec.ofChange workersCoverSpec)

/-- ITS FALSE NEIGHBOUR: 'it returns false'. Refute it at one input. -/
def workersCoverWrong : ChangeSpec := { name := "workersCover", fn := fun _ => fun
  | [d1, d2, d3, d4] => { results := [.lit (.bool false)], args := [d1, d2, d3, d4] }
  | _ => none }
def WorkersCoverWrongFalsely : Prop := workersCoverRow.holds Try.pinned (OpenSpec.ofChange workersCoverWrong)

/-- 'queuelablaw37.WorkersOrder': WHATEVER THE INPUT: true; the input reads as it did. -/
def workersOrderSpec : ChangeSpec := { name := "workersOrder", fn := fun _ => fun
  | [d1, d2, d3, d4] => { results := [.lit (.bool true)], args := [d1, d2, d3, d4] }
  | _ => none }
def workersOrderRow : OpenClaim := { program := "ytkaodeodiakldaa", sum := "6e5cf1750c9972ed6848ea9a8b0e1967f5cc241cb820b6658f711b40540cfe7f", func := "queuelab/queuelablaw37.WorkersOrder", spec := "workersOrder", unfollowed := true, recurses := true, plainKeys := false, apart := false }
def WorkersOrderSaid : Prop := workersOrderRow.holds Try.pinned (OpenSpec.ofChange workersOrderSpec)

/-- ITS FALSE NEIGHBOUR: 'it returns false'. Refute it at one input. -/
def workersOrderWrong : ChangeSpec := { name := "workersOrder", fn := fun _ => fun
  | [d1, d2, d3, d4] => { results := [.lit (.bool false)], args := [d1, d2, d3, d4] }
  | _ => none }
def WorkersOrderWrongFalsely : Prop := workersOrderRow.holds Try.pinned (OpenSpec.ofChange workersOrderWrong)

/-- 'queuelablaw37.WorkersComplete': WHATEVER THE INPUT: true; the input reads as it did. -/
def workersCompleteSpec : ChangeSpec := { name := "workersComplete", fn := fun _ => fun
  | [d1, d2, d3] => { results := [.lit (.bool true)], args := [d1, d2, d3] }
  | _ => none }
def workersCompleteRow : OpenClaim := { program := "ytkaodeodiakldaa", sum := "6e5cf1750c9972ed6848ea9a8b0e1967f5cc241cb820b6658f711b40540cfe7f", func := "queuelab/queuelablaw37.WorkersComplete", spec := "workersComplete", unfollowed := true, recurses := true, plainKeys := false, apart := false }
def WorkersCompleteSaid : Prop := workersCompleteRow.holds Try.pinned (OpenSpec.ofChange workersCompleteSpec)

/-- ITS FALSE NEIGHBOUR: 'it returns false'. Refute it at one input. -/
def workersCompleteWrong : ChangeSpec := { name := "workersComplete", fn := fun _ => fun
  | [d1, d2, d3] => { results := [.lit (.bool false)], args := [d1, d2, d3] }
  | _ => none }
def WorkersCompleteWrongFalsely : Prop := workersCompleteRow.holds Try.pinned (OpenSpec.ofChange workersCompleteWrong)

/-- 'queuelablaw37.WorkersForeign': WHATEVER THE INPUT: true; the input reads as it did. -/
def workersForeignSpec : ChangeSpec := { name := "workersForeign", fn := fun _ => fun
  | [d1, d2, d3, d4] => { results := [.lit (.bool true)], args := [d1, d2, d3, d4] }
  | _ => none }
def workersForeignRow : OpenClaim := { program := "ytkaodeodiakldaa", sum := "6e5cf1750c9972ed6848ea9a8b0e1967f5cc241cb820b6658f711b40540cfe7f", func := "queuelab/queuelablaw37.WorkersForeign", spec := "workersForeign", unfollowed := true, recurses := true, plainKeys := false, apart := false }
def WorkersForeignSaid : Prop := workersForeignRow.holds Try.pinned (OpenSpec.ofChange workersForeignSpec)

/-- ITS FALSE NEIGHBOUR: 'it returns false'. Refute it at one input. -/
def workersForeignWrong : ChangeSpec := { name := "workersForeign", fn := fun _ => fun
  | [d1, d2, d3, d4] => { results := [.lit (.bool false)], args := [d1, d2, d3, d4] }
  | _ => none }
def WorkersForeignWrongFalsely : Prop := workersForeignRow.holds Try.pinned (OpenSpec.ofChange workersForeignWrong)

/- THE SECOND FORM. 'bulk': how many values and letters a reading holds, each counted each time it is reached (what is shared counts as often as it is met; a slice's spare places count too). A statement '..UptoSaid' is the law's where the arguments, and the package variables that the reading takes, are together of bulk at most 1048576: NARROWER than '..Said'. Prove '..Said' where nothing that the law and all that it calls make is longer than what came in: it says more and counts as full. Else prove '..UptoSaid'. A law counts once. -/
mutual
def uptoBulk {H : Type} : DataW H → Nat
  | .lit (.string bytes) => bytes.length + 1
  | .lit _ => 1
  | .nil => 1
  | .ptr d => uptoBulk d + 1
  | .slice elems spare => uptoBulkAll elems + uptoBulkAll spare + 1
  | .agg parts => uptoBulkAll parts + 1
  | .iface _ d => uptoBulk d + 1
  | .map entries => uptoBulkEntries entries + 1
  | .held _ => 1
def uptoBulkAll {H : Type} : List (DataW H) → Nat
  | [] => 0
  | d :: r => uptoBulk d + uptoBulkAll r
def uptoBulkEntries {H : Type} : List (Lit × DataW H) → Nat
  | [] => 0
  | x :: r => uptoBulkEntry x + uptoBulkEntries r
def uptoBulkEntry {H : Type} : Lit × DataW H → Nat
  | (.string bytes, d) => bytes.length + uptoBulk d + 1
  | (_, d) => uptoBulk d + 1
 end
def uptoSmall : (H : Type) → List (DataW H) → Bool := fun _ ds => decide (uptoBulkAll ds ≤ 1048576)
def OpenSpec.upto (s : _root_.Go.ChangeSpec) : _root_.Go.OpenSpec := { _root_.Go.OpenSpec.ofChange s with cond := some uptoSmall }

/-- 'queuelablaw37.WorkersMatchesReference', WHERE WHAT IT READS IS OF BULK AT MOST 1048576: true; the input reads as it did. -/
def workersMatchesReferenceUptoRow : OpenClaim := { program := "ytkaodeodiakldaa", sum := "6e5cf1750c9972ed6848ea9a8b0e1967f5cc241cb820b6658f711b40540cfe7f", func := "queuelab/queuelablaw37.WorkersMatchesReference", spec := "workersMatchesReference", unfollowed := true, recurses := true, plainKeys := false, apart := false, narrowed := true }
def WorkersMatchesReferenceUptoSaid : Prop := workersMatchesReferenceUptoRow.holds Try.pinned (OpenSpec.upto workersMatchesReferenceSpec)

/-- 'queuelablaw37.WorkersCover', WHERE WHAT IT READS IS OF BULK AT MOST 1048576: true; the input reads as it did. -/
def workersCoverUptoRow : OpenClaim := { program := "ytkaodeodiakldaa", sum := "6e5cf1750c9972ed6848ea9a8b0e1967f5cc241cb820b6658f711b40540cfe7f", func := "queuelab/queuelablaw37.WorkersCover", spec := "workersCover", unfollowed := true, recurses := true, plainKeys := false, apart := false, narrowed := true }
def WorkersCoverUptoSaid : Prop := workersCoverUptoRow.holds Try.pinned (OpenSpec.upto workersCoverSpec)

/-- 'queuelablaw37.WorkersOrder', WHERE WHAT IT READS IS OF BULK AT MOST 1048576: true; the input reads as it did. -/
def workersOrderUptoRow : OpenClaim := { program := "ytkaodeodiakldaa", sum := "6e5cf1750c9972ed6848ea9a8b0e1967f5cc241cb820b6658f711b40540cfe7f", func := "queuelab/queuelablaw37.WorkersOrder", spec := "workersOrder", unfollowed := true, recurses := true, plainKeys := false, apart := false, narrowed := true }
def WorkersOrderUptoSaid : Prop := workersOrderUptoRow.holds Try.pinned (OpenSpec.upto workersOrderSpec)

/-- 'queuelablaw37.WorkersComplete', WHERE WHAT IT READS IS OF BULK AT MOST 1048576: true; the input reads as it did. -/
def workersCompleteUptoRow : OpenClaim := { program := "ytkaodeodiakldaa", sum := "6e5cf1750c9972ed6848ea9a8b0e1967f5cc241cb820b6658f711b40540cfe7f", func := "queuelab/queuelablaw37.WorkersComplete", spec := "workersComplete", unfollowed := true, recurses := true, plainKeys := false, apart := false, narrowed := true }
def WorkersCompleteUptoSaid : Prop := workersCompleteUptoRow.holds Try.pinned (OpenSpec.upto workersCompleteSpec)

/-- 'queuelablaw37.WorkersForeign', WHERE WHAT IT READS IS OF BULK AT MOST 1048576: true; the input reads as it did. -/
def workersForeignUptoRow : OpenClaim := { program := "ytkaodeodiakldaa", sum := "6e5cf1750c9972ed6848ea9a8b0e1967f5cc241cb820b6658f711b40540cfe7f", func := "queuelab/queuelablaw37.WorkersForeign", spec := "workersForeign", unfollowed := true, recurses := true, plainKeys := false, apart := false, narrowed := true }
def WorkersForeignUptoSaid : Prop := workersForeignUptoRow.holds Try.pinned (OpenSpec.upto workersForeignSpec)

end Rows
end Go.Proofs.Ytkaodeodiakldaa
