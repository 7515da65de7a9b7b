/-
  No cell of these rows narrows 'for every input' (looked for: loops, veiled, ifaces, maps, wideKeys, modest, calm, conditions, laid).
  DERIVED. THE GIVEN ROWS OF THIS SEAT. 12 by the template 'for every input the law returns true; each argument reads behind the call as it read before'; 0 by the template 'total and deterministic' (their statements: YtgekegoflaichaaTotals.lean).
  GIVEN WITH THE SEED: the statements are not yours to turn. If you find one false, say at which input.
  Laid BY PROGRAM, IN A SANDBOX (cutbox-rows.mjs): the forced cells as the released guide's own fill.sh prints them over the translation 15b720ea7029c5b8… (all of the seat's roots in one cut). By AI agents, Wed Nov 11 2026. No macro, syntax, notation, axiom, sorry.
-/
import Derived.Test.YtgekegoflaichaaChecked
import GoSem.Claim
import GoSem.ClaimJoined
import GoSem.ClaimMapViews
import Derived.JoinedTies
import Derived.KernelRfl
namespace Go.Proofs.Ytgekegoflaichaa
/- THE CELL 'sum', in the pinned program and in every row, IS THE sha256 OF THE DUMP (.gsa) THAT YtgekegoflaichaaProg.lean LOADS. Nothing in Lean hashes anything: it is a label: what it is worth is what the hold of that sum in a sandbox is worth. -/
noncomputable def Try.pinned : Pinned := { name := "ytgekegoflaichaa", sum := "15b720ea7029c5b81c8e09ebb924e381d0001d393e7cd72e421c208d56011fb7", checked := Try.checked }
namespace Rows
def none {H : Type} : Left H := { results := [], args := [] }

/-- 'queuelablaw22.DeficitMatchesReference': WHATEVER THE INPUT: true; the input reads as it did. -/
def deficitMatchesReferenceSpec : ChangeSpec := { name := "deficitMatchesReference", fn := fun _ => fun
  | [d1, d2, d3] => { results := [.lit (.bool true)], args := [d1, d2, d3] }
  | _ => none }
def deficitMatchesReferenceRow : OpenClaim := { program := "ytgekegoflaichaa", sum := "15b720ea7029c5b81c8e09ebb924e381d0001d393e7cd72e421c208d56011fb7", func := "queuelab/queuelablaw22.DeficitMatchesReference", spec := "deficitMatchesReference", apart := false }
def DeficitMatchesReferenceSaid : Prop := deficitMatchesReferenceRow.holds Try.pinned (OpenSpec.ofChange deficitMatchesReferenceSpec)

/-- ITS FALSE NEIGHBOUR: 'it returns false'. Refute it at one input. -/
def deficitMatchesReferenceWrong : ChangeSpec := { name := "deficitMatchesReference", fn := fun _ => fun
  | [d1, d2, d3] => { results := [.lit (.bool false)], args := [d1, d2, d3] }
  | _ => none }
def DeficitMatchesReferenceWrongFalsely : Prop := deficitMatchesReferenceRow.holds Try.pinned (OpenSpec.ofChange deficitMatchesReferenceWrong)

/-- 'queuelablaw22.DeficitConserves': WHATEVER THE INPUT: true; the input reads as it did. -/
def deficitConservesSpec : ChangeSpec := { name := "deficitConserves", fn := fun _ => fun
  | [d1, d2] => { results := [.lit (.bool true)], args := [d1, d2] }
  | _ => none }
def deficitConservesRow : OpenClaim := { program := "ytgekegoflaichaa", sum := "15b720ea7029c5b81c8e09ebb924e381d0001d393e7cd72e421c208d56011fb7", func := "queuelab/queuelablaw22.DeficitConserves", spec := "deficitConserves", apart := false }
def DeficitConservesSaid : Prop := deficitConservesRow.holds Try.pinned (OpenSpec.ofChange deficitConservesSpec)

/-- ITS FALSE NEIGHBOUR: 'it returns false'. Refute it at one input. -/
def deficitConservesWrong : ChangeSpec := { name := "deficitConserves", fn := fun _ => fun
  | [d1, d2] => { results := [.lit (.bool false)], args := [d1, d2] }
  | _ => none }
def DeficitConservesWrongFalsely : Prop := deficitConservesRow.holds Try.pinned (OpenSpec.ofChange deficitConservesWrong)

/-- 'queuelablaw22.DeficitWorks': WHATEVER THE INPUT: true; the input reads as it did. -/
def deficitWorksSpec : ChangeSpec := { name := "deficitWorks", fn := fun _ => fun
  | [d1, d2, d3] => { results := [.lit (.bool true)], args := [d1, d2, d3] }
  | _ => none }
def deficitWorksRow : OpenClaim := { program := "ytgekegoflaichaa", sum := "15b720ea7029c5b81c8e09ebb924e381d0001d393e7cd72e421c208d56011fb7", func := "queuelab/queuelablaw22.DeficitWorks", spec := "deficitWorks", apart := false }
def DeficitWorksSaid : Prop := deficitWorksRow.holds Try.pinned (OpenSpec.ofChange deficitWorksSpec)

/-- ITS FALSE NEIGHBOUR: 'it returns false'. Refute it at one input. -/
def deficitWorksWrong : ChangeSpec := { name := "deficitWorks", fn := fun _ => fun
  | [d1, d2, d3] => { results := [.lit (.bool false)], args := [d1, d2, d3] }
  | _ => none }
def DeficitWorksWrongFalsely : Prop := deficitWorksRow.holds Try.pinned (OpenSpec.ofChange deficitWorksWrong)

/-- 'queuelablaw22.DeficitFair': WHATEVER THE INPUT: true; the input reads as it did. -/
def deficitFairSpec : ChangeSpec := { name := "deficitFair", fn := fun _ => fun
  | [d1, d2, d3] => { results := [.lit (.bool true)], args := [d1, d2, d3] }
  | _ => none }
def deficitFairRow : OpenClaim := { program := "ytgekegoflaichaa", sum := "15b720ea7029c5b81c8e09ebb924e381d0001d393e7cd72e421c208d56011fb7", func := "queuelab/queuelablaw22.DeficitFair", spec := "deficitFair", apart := false }
def DeficitFairSaid : Prop := deficitFairRow.holds Try.pinned (OpenSpec.ofChange deficitFairSpec)

/-- ITS FALSE NEIGHBOUR: 'it returns false'. Refute it at one input. -/
def deficitFairWrong : ChangeSpec := { name := "deficitFair", fn := fun _ => fun
  | [d1, d2, d3] => { results := [.lit (.bool false)], args := [d1, d2, d3] }
  | _ => none }
def DeficitFairWrongFalsely : Prop := deficitFairRow.holds Try.pinned (OpenSpec.ofChange deficitFairWrong)

/-- 'queuelablaw22.DeficitAlone': WHATEVER THE INPUT: true; the input reads as it did. -/
def deficitAloneSpec : ChangeSpec := { name := "deficitAlone", fn := fun _ => fun
  | [d1, d2] => { results := [.lit (.bool true)], args := [d1, d2] }
  | _ => none }
def deficitAloneRow : OpenClaim := { program := "ytgekegoflaichaa", sum := "15b720ea7029c5b81c8e09ebb924e381d0001d393e7cd72e421c208d56011fb7", func := "queuelab/queuelablaw22.DeficitAlone", spec := "deficitAlone", apart := false }
def DeficitAloneSaid : Prop := deficitAloneRow.holds Try.pinned (OpenSpec.ofChange deficitAloneSpec)

/-- ITS FALSE NEIGHBOUR: 'it returns false'. Refute it at one input. -/
def deficitAloneWrong : ChangeSpec := { name := "deficitAlone", fn := fun _ => fun
  | [d1, d2] => { results := [.lit (.bool false)], args := [d1, d2] }
  | _ => none }
def DeficitAloneWrongFalsely : Prop := deficitAloneRow.holds Try.pinned (OpenSpec.ofChange deficitAloneWrong)

/-- 'queuelablaw22.DeficitRounds': WHATEVER THE INPUT: true; the input reads as it did. -/
def deficitRoundsSpec : ChangeSpec := { name := "deficitRounds", fn := fun _ => fun
  | [d1, d2] => { results := [.lit (.bool true)], args := [d1, d2] }
  | _ => none }
def deficitRoundsRow : OpenClaim := { program := "ytgekegoflaichaa", sum := "15b720ea7029c5b81c8e09ebb924e381d0001d393e7cd72e421c208d56011fb7", func := "queuelab/queuelablaw22.DeficitRounds", spec := "deficitRounds", apart := false }
def DeficitRoundsSaid : Prop := deficitRoundsRow.holds Try.pinned (OpenSpec.ofChange deficitRoundsSpec)

/-- ITS FALSE NEIGHBOUR: 'it returns false'. Refute it at one input. -/
def deficitRoundsWrong : ChangeSpec := { name := "deficitRounds", fn := fun _ => fun
  | [d1, d2] => { results := [.lit (.bool false)], args := [d1, d2] }
  | _ => none }
def DeficitRoundsWrongFalsely : Prop := deficitRoundsRow.holds Try.pinned (OpenSpec.ofChange deficitRoundsWrong)

/-- 'queuelablaw30.ReceiverMatchesReference': WHATEVER THE INPUT: true; the input reads as it did. -/
def receiverMatchesReferenceSpec : ChangeSpec := { name := "receiverMatchesReference", fn := fun _ => fun
  | [d1, d2, d3] => { results := [.lit (.bool true)], args := [d1, d2, d3] }
  | _ => none }
def receiverMatchesReferenceRow : OpenClaim := { program := "ytgekegoflaichaa", sum := "15b720ea7029c5b81c8e09ebb924e381d0001d393e7cd72e421c208d56011fb7", func := "queuelab/queuelablaw30.ReceiverMatchesReference", spec := "receiverMatchesReference", inPlace := ["slices.overlaps[int]"], unfollowed := true, recurses := true, apart := false }
def ReceiverMatchesReferenceSaid : Prop := receiverMatchesReferenceRow.holds Try.pinned (OpenSpec.ofChange receiverMatchesReferenceSpec)

/-- ITS FALSE NEIGHBOUR: 'it returns false'. Refute it at one input. -/
def receiverMatchesReferenceWrong : ChangeSpec := { name := "receiverMatchesReference", fn := fun _ => fun
  | [d1, d2, d3] => { results := [.lit (.bool false)], args := [d1, d2, d3] }
  | _ => none }
def ReceiverMatchesReferenceWrongFalsely : Prop := receiverMatchesReferenceRow.holds Try.pinned (OpenSpec.ofChange receiverMatchesReferenceWrong)

/-- 'queuelablaw30.ReceiverHas': WHATEVER THE INPUT: true; the input reads as it did. -/
def receiverHasSpec : ChangeSpec := { name := "receiverHas", fn := fun _ => fun
  | [d1, d2, d3, d4] => { results := [.lit (.bool true)], args := [d1, d2, d3, d4] }
  | _ => none }
def receiverHasRow : OpenClaim := { program := "ytgekegoflaichaa", sum := "15b720ea7029c5b81c8e09ebb924e381d0001d393e7cd72e421c208d56011fb7", func := "queuelab/queuelablaw30.ReceiverHas", spec := "receiverHas", inPlace := ["slices.overlaps[int]"], unfollowed := true, recurses := true, apart := false }
def ReceiverHasSaid : Prop := receiverHasRow.holds Try.pinned (OpenSpec.ofChange receiverHasSpec)

/-- ITS FALSE NEIGHBOUR: 'it returns false'. Refute it at one input. -/
def receiverHasWrong : ChangeSpec := { name := "receiverHas", fn := fun _ => fun
  | [d1, d2, d3, d4] => { results := [.lit (.bool false)], args := [d1, d2, d3, d4] }
  | _ => none }
def ReceiverHasWrongFalsely : Prop := receiverHasRow.holds Try.pinned (OpenSpec.ofChange receiverHasWrong)

/-- 'queuelablaw30.ReceiverOrder': WHATEVER THE INPUT: true; the input reads as it did. -/
def receiverOrderSpec : ChangeSpec := { name := "receiverOrder", fn := fun _ => fun
  | [d1, d2, d3, d4, d5] => { results := [.lit (.bool true)], args := [d1, d2, d3, d4, d5] }
  | _ => none }
def receiverOrderRow : OpenClaim := { program := "ytgekegoflaichaa", sum := "15b720ea7029c5b81c8e09ebb924e381d0001d393e7cd72e421c208d56011fb7", func := "queuelab/queuelablaw30.ReceiverOrder", spec := "receiverOrder", inPlace := ["slices.overlaps[int]"], unfollowed := true, recurses := true, apart := false }
def ReceiverOrderSaid : Prop := receiverOrderRow.holds Try.pinned (OpenSpec.ofChange receiverOrderSpec)

/-- ITS FALSE NEIGHBOUR: 'it returns false'. Refute it at one input. -/
def receiverOrderWrong : ChangeSpec := { name := "receiverOrder", fn := fun _ => fun
  | [d1, d2, d3, d4, d5] => { results := [.lit (.bool false)], args := [d1, d2, d3, d4, d5] }
  | _ => none }
def ReceiverOrderWrongFalsely : Prop := receiverOrderRow.holds Try.pinned (OpenSpec.ofChange receiverOrderWrong)

/-- 'queuelablaw30.ReceiverTwice': WHATEVER THE INPUT: true; the input reads as it did. -/
def receiverTwiceSpec : ChangeSpec := { name := "receiverTwice", fn := fun _ => fun
  | [d1, d2, d3] => { results := [.lit (.bool true)], args := [d1, d2, d3] }
  | _ => none }
def receiverTwiceRow : OpenClaim := { program := "ytgekegoflaichaa", sum := "15b720ea7029c5b81c8e09ebb924e381d0001d393e7cd72e421c208d56011fb7", func := "queuelab/queuelablaw30.ReceiverTwice", spec := "receiverTwice", inPlace := ["slices.overlaps[int]"], unfollowed := true, recurses := true, apart := false }
def ReceiverTwiceSaid : Prop := receiverTwiceRow.holds Try.pinned (OpenSpec.ofChange receiverTwiceSpec)

/-- ITS FALSE NEIGHBOUR: 'it returns false'. Refute it at one input. -/
def receiverTwiceWrong : ChangeSpec := { name := "receiverTwice", fn := fun _ => fun
  | [d1, d2, d3] => { results := [.lit (.bool false)], args := [d1, d2, d3] }
  | _ => none }
def ReceiverTwiceWrongFalsely : Prop := receiverTwiceRow.holds Try.pinned (OpenSpec.ofChange receiverTwiceWrong)

/-- 'queuelablaw30.ReceiverAcks': WHATEVER THE INPUT: true; the input reads as it did. -/
def receiverAcksSpec : ChangeSpec := { name := "receiverAcks", fn := fun _ => fun
  | [d1, d2, d3] => { results := [.lit (.bool true)], args := [d1, d2, d3] }
  | _ => none }
def receiverAcksRow : OpenClaim := { program := "ytgekegoflaichaa", sum := "15b720ea7029c5b81c8e09ebb924e381d0001d393e7cd72e421c208d56011fb7", func := "queuelab/queuelablaw30.ReceiverAcks", spec := "receiverAcks", inPlace := ["slices.overlaps[int]"], unfollowed := true, recurses := true, apart := false }
def ReceiverAcksSaid : Prop := receiverAcksRow.holds Try.pinned (OpenSpec.ofChange receiverAcksSpec)

/-- ITS FALSE NEIGHBOUR: 'it returns false'. Refute it at one input. -/
def receiverAcksWrong : ChangeSpec := { name := "receiverAcks", fn := fun _ => fun
  | [d1, d2, d3] => { results := [.lit (.bool false)], args := [d1, d2, d3] }
  | _ => none }
def ReceiverAcksWrongFalsely : Prop := receiverAcksRow.holds Try.pinned (OpenSpec.ofChange receiverAcksWrong)

/-- 'queuelablaw30.ReceiverRoom': WHATEVER THE INPUT: true; the input reads as it did. -/
def receiverRoomSpec : ChangeSpec := { name := "receiverRoom", fn := fun _ => fun
  | [d1, d2, d3] => { results := [.lit (.bool true)], args := [d1, d2, d3] }
  | _ => none }
def receiverRoomRow : OpenClaim := { program := "ytgekegoflaichaa", sum := "15b720ea7029c5b81c8e09ebb924e381d0001d393e7cd72e421c208d56011fb7", func := "queuelab/queuelablaw30.ReceiverRoom", spec := "receiverRoom", inPlace := ["slices.overlaps[int]"], unfollowed := true, recurses := true, apart := false }
def ReceiverRoomSaid : Prop := receiverRoomRow.holds Try.pinned (OpenSpec.ofChange receiverRoomSpec)

/-- ITS FALSE NEIGHBOUR: 'it returns false'. Refute it at one input. -/
def receiverRoomWrong : ChangeSpec := { name := "receiverRoom", fn := fun _ => fun
  | [d1, d2, d3] => { results := [.lit (.bool false)], args := [d1, d2, d3] }
  | _ => none }
def ReceiverRoomWrongFalsely : Prop := receiverRoomRow.holds Try.pinned (OpenSpec.ofChange receiverRoomWrong)

/- THE SECOND FORM. 'bulk': how many values and letters a reading holds, each counted each time it is reached (what is shared counts as often as it is met; a slice's spare places count too). A statement '..UptoSaid' is the law's where the arguments, and the package variables that the reading takes, are together of bulk at most 1048576: NARROWER than '..Said'. Prove '..Said' where nothing that the law and all that it calls make is longer than what came in: it says more and counts as full. Else prove '..UptoSaid'. A law counts once. -/
mutual
def uptoBulk {H : Type} : DataW H → Nat
  | .lit (.string bytes) => bytes.length + 1
  | .lit _ => 1
  | .nil => 1
  | .ptr d => uptoBulk d + 1
  | .slice elems spare => uptoBulkAll elems + uptoBulkAll spare + 1
  | .agg parts => uptoBulkAll parts + 1
  | .iface _ d => uptoBulk d + 1
  | .map entries => uptoBulkEntries entries + 1
  | .held _ => 1
def uptoBulkAll {H : Type} : List (DataW H) → Nat
  | [] => 0
  | d :: r => uptoBulk d + uptoBulkAll r
def uptoBulkEntries {H : Type} : List (Lit × DataW H) → Nat
  | [] => 0
  | x :: r => uptoBulkEntry x + uptoBulkEntries r
def uptoBulkEntry {H : Type} : Lit × DataW H → Nat
  | (.string bytes, d) => bytes.length + uptoBulk d + 1
  | (_, d) => uptoBulk d + 1
 end
def uptoSmall : (H : Type) → List (DataW H) → Bool := fun _ ds => decide (uptoBulkAll ds ≤ 1048576)
def OpenSpec.upto (s : _root_.Go.ChangeSpec) : _root_.Go.OpenSpec := { _root_.Go.OpenSpec.ofChange s with cond := some uptoSmall }

/-- 'queuelablaw22.DeficitMatchesReference', WHERE WHAT IT READS IS OF BULK AT MOST 1048576: true; the input reads as it did. -/
def deficitMatchesReferenceUptoRow : OpenClaim := { program := "ytgekegoflaichaa", sum := "15b720ea7029c5b81c8e09ebb924e381d0001d393e7cd72e421c208d56011fb7", func := "queuelab/queuelablaw22.DeficitMatchesReference", spec := "deficitMatchesReference", apart := false, narrowed := true }
def DeficitMatchesReferenceUptoSaid : Prop := deficitMatchesReferenceUptoRow.holds Try.pinned (OpenSpec.upto deficitMatchesReferenceSpec)

/-- 'queuelablaw22.DeficitConserves', WHERE WHAT IT READS IS OF BULK AT MOST 1048576: true; the input reads as it did. -/
def deficitConservesUptoRow : OpenClaim := { program := "ytgekegoflaichaa", sum := "15b720ea7029c5b81c8e09ebb924e381d0001d393e7cd72e421c208d56011fb7", func := "queuelab/queuelablaw22.DeficitConserves", spec := "deficitConserves", apart := false, narrowed := true }
def DeficitConservesUptoSaid : Prop := deficitConservesUptoRow.holds Try.pinned (OpenSpec.upto deficitConservesSpec)

/-- 'queuelablaw22.DeficitWorks', WHERE WHAT IT READS IS OF BULK AT MOST 1048576: true; the input reads as it did. -/
def deficitWorksUptoRow : OpenClaim := { program := "ytgekegoflaichaa", sum := "15b720ea7029c5b81c8e09ebb924e381d0001d393e7cd72e421c208d56011fb7", func := "queuelab/queuelablaw22.DeficitWorks", spec := "deficitWorks", apart := false, narrowed := true }
def DeficitWorksUptoSaid : Prop := deficitWorksUptoRow.holds Try.pinned (OpenSpec.upto deficitWorksSpec)

/-- 'queuelablaw22.DeficitFair', WHERE WHAT IT READS IS OF BULK AT MOST 1048576: true; the input reads as it did. -/
def deficitFairUptoRow : OpenClaim := { program := "ytgekegoflaichaa", sum := "15b720ea7029c5b81c8e09ebb924e381d0001d393e7cd72e421c208d56011fb7", func := "queuelab/queuelablaw22.DeficitFair", spec := "deficitFair", apart := false, narrowed := true }
def DeficitFairUptoSaid : Prop := deficitFairUptoRow.holds Try.pinned (OpenSpec.upto deficitFairSpec)

/-- 'queuelablaw22.DeficitAlone', WHERE WHAT IT READS IS OF BULK AT MOST 1048576: true; the input reads as it did. -/
def deficitAloneUptoRow : OpenClaim := { program := "ytgekegoflaichaa", sum := "15b720ea7029c5b81c8e09ebb924e381d0001d393e7cd72e421c208d56011fb7", func := "queuelab/queuelablaw22.DeficitAlone", spec := "deficitAlone", apart := false, narrowed := true }
def DeficitAloneUptoSaid : Prop := deficitAloneUptoRow.holds Try.pinned (OpenSpec.upto deficitAloneSpec)

/-- 'queuelablaw22.DeficitRounds', WHERE WHAT IT READS IS OF BULK AT MOST 1048576: true; the input reads as it did. -/
def deficitRoundsUptoRow : OpenClaim := { program := "ytgekegoflaichaa", sum := "15b720ea7029c5b81c8e09ebb924e381d0001d393e7cd72e421c208d56011fb7", func := "queuelab/queuelablaw22.DeficitRounds", spec := "deficitRounds", apart := false, narrowed := true }
def DeficitRoundsUptoSaid : Prop := deficitRoundsUptoRow.holds Try.pinned (OpenSpec.upto deficitRoundsSpec)

/-- 'queuelablaw30.ReceiverMatchesReference', WHERE WHAT IT READS IS OF BULK AT MOST 1048576: true; the input reads as it did. -/
def receiverMatchesReferenceUptoRow : OpenClaim := { program := "ytgekegoflaichaa", sum := "15b720ea7029c5b81c8e09ebb924e381d0001d393e7cd72e421c208d56011fb7", func := "queuelab/queuelablaw30.ReceiverMatchesReference", spec := "receiverMatchesReference", inPlace := ["slices.overlaps[int]"], unfollowed := true, recurses := true, apart := false, narrowed := true }
def ReceiverMatchesReferenceUptoSaid : Prop := receiverMatchesReferenceUptoRow.holds Try.pinned (OpenSpec.upto receiverMatchesReferenceSpec)

/-- 'queuelablaw30.ReceiverHas', WHERE WHAT IT READS IS OF BULK AT MOST 1048576: true; the input reads as it did. -/
def receiverHasUptoRow : OpenClaim := { program := "ytgekegoflaichaa", sum := "15b720ea7029c5b81c8e09ebb924e381d0001d393e7cd72e421c208d56011fb7", func := "queuelab/queuelablaw30.ReceiverHas", spec := "receiverHas", inPlace := ["slices.overlaps[int]"], unfollowed := true, recurses := true, apart := false, narrowed := true }
def ReceiverHasUptoSaid : Prop := receiverHasUptoRow.holds Try.pinned (OpenSpec.upto receiverHasSpec)

/-- 'queuelablaw30.ReceiverOrder', WHERE WHAT IT READS IS OF BULK AT MOST 1048576: true; the input reads as it did. -/
def receiverOrderUptoRow : OpenClaim := { program := "ytgekegoflaichaa", sum := "15b720ea7029c5b81c8e09ebb924e381d0001d393e7cd72e421c208d56011fb7", func := "queuelab/queuelablaw30.ReceiverOrder", spec := "receiverOrder", inPlace := ["slices.overlaps[int]"], unfollowed := true, recurses := true, apart := false, narrowed := true }
def ReceiverOrderUptoSaid : Prop := receiverOrderUptoRow.holds Try.pinned (OpenSpec.upto receiverOrderSpec)

/-- 'queuelablaw30.ReceiverTwice', WHERE WHAT IT READS IS OF BULK AT MOST 1048576: true; the input reads as it did. -/
def receiverTwiceUptoRow : OpenClaim := { program := "ytgekegoflaichaa", sum := "15b720ea7029c5b81c8e09ebb924e381d0001d393e7cd72e421c208d56011fb7", func := "queuelab/queuelablaw30.ReceiverTwice", spec := "receiverTwice", inPlace := ["slices.overlaps[int]"], unfollowed := true, recurses := true, apart := false, narrowed := true }
def ReceiverTwiceUptoSaid : Prop := receiverTwiceUptoRow.holds Try.pinned (OpenSpec.upto receiverTwiceSpec)

/-- 'queuelablaw30.ReceiverAcks', WHERE WHAT IT READS IS OF BULK AT MOST 1048576: true; the input reads as it did. -/
def receiverAcksUptoRow : OpenClaim := { program := "ytgekegoflaichaa", sum := "15b720ea7029c5b81c8e09ebb924e381d0001d393e7cd72e421c208d56011fb7", func := "queuelab/queuelablaw30.ReceiverAcks", spec := "receiverAcks", inPlace := ["slices.overlaps[int]"], unfollowed := true, recurses := true, apart := false, narrowed := true }
def ReceiverAcksUptoSaid : Prop := receiverAcksUptoRow.holds Try.pinned (OpenSpec.upto receiverAcksSpec)

/-- 'queuelablaw30.ReceiverRoom', WHERE WHAT IT READS IS OF BULK AT MOST 1048576: true; the input reads as it did. -/
def receiverRoomUptoRow : OpenClaim := { program := "ytgekegoflaichaa", sum := "15b720ea7029c5b81c8e09ebb924e381d0001d393e7cd72e421c208d56011fb7", func := "queuelab/queuelablaw30.ReceiverRoom", spec := "receiverRoom", inPlace := ["slices.overlaps[int]"], unfollowed := true, recurses := true, apart := false, narrowed := true }
def ReceiverRoomUptoSaid : Prop := receiverRoomUptoRow.holds Try.pinned (OpenSpec.upto receiverRoomSpec)

end Rows
end Go.Proofs.Ytgekegoflaichaa
