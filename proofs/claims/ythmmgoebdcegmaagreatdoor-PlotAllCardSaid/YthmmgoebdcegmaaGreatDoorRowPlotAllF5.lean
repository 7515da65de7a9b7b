/-
  Closed facts of the program for the card PlotAll (5). Written by a program of this work (genopen.py); no condition.
-/
import Derived.Test.YthmmgoebdcegmaaGreatDoorRows
import Derived.Test.YthmmgoebdcegmaaGreatDoorCards
import Derived.WalkKit
import Derived.JoinedOf
import Derived.SevenTiedAt
import Derived.KernelRfl
set_option maxRecDepth 100000
namespace Go.Proofs.YthmmgoebdcegmaaGreatDoor.plotAll
open Go
theorem fJ : Tryz.prog.funcNamed "queuelab/queuelablaw38.PlotAll" = some 4 := by kernel_rfl
theorem fM : Tryz.pinned.checked.prog.mainIs = some ((true, "09c6d068473cc65f03dc25663a3f8aaa6f69c9f254112c4ea2a007dd4beeb211").1, (true, "09c6d068473cc65f03dc25663a3f8aaa6f69c9f254112c4ea2a007dd4beeb211").2.toList) := by kernel_rfl
theorem fW : Rows.plotAllRow.wfByText (OpenSpec.ofChange Rows.plotAllSpec) = true := by kernel_rfl
theorem fL : true = Tryz.prog.looks [] := by kernel_rfl
theorem fS : ([25].all fun u => !Tryz.prog.wantsStandIn u) = true := by kernel_rfl
end Go.Proofs.YthmmgoebdcegmaaGreatDoor.plotAll
