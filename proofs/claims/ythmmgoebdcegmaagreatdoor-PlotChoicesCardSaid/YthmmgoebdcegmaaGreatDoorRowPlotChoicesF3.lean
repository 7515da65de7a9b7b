/-
  Closed facts of the program for the card PlotChoices (3). Written by a program of this work (genopen.py); no condition.
-/
import Derived.Test.YthmmgoebdcegmaaGreatDoorRows
import Derived.Test.YthmmgoebdcegmaaGreatDoorCards
import Derived.WalkKit
import Derived.JoinedOf
import Derived.SevenTiedAt
import Derived.KernelRfl
import Derived.Test.YthmmgoebdcegmaaGreatDoorRowPlotChoicesF1
import Derived.Test.YthmmgoebdcegmaaGreatDoorRowPlotChoicesF2
set_option maxRecDepth 100000
namespace Go.Proofs.YthmmgoebdcegmaaGreatDoor.plotChoices
open Go
theorem fE : (Rows.plotChoicesRow.wf (OpenSpec.ofChange Rows.plotChoicesSpec) && laidOutB Tryz.prog && mapsRowed Tryz.prog) = true := by kernel_rfl
theorem closed : joinedFacts Tryz.prog 3 Tryz.f3 Rows.plotChoicesSpec Rows.plotChoicesRow = true := by
  unfold joinedFacts
  rw [fA, fB, fC, fD, fE]
  kernel_rfl
end Go.Proofs.YthmmgoebdcegmaaGreatDoor.plotChoices
