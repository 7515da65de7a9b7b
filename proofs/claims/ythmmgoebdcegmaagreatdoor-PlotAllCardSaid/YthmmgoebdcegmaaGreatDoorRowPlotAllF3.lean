/-
  Closed facts of the program for the card PlotAll (3). Written by a program of this work (genopen.py); no condition.
-/
import Derived.Test.YthmmgoebdcegmaaGreatDoorRows
import Derived.Test.YthmmgoebdcegmaaGreatDoorCards
import Derived.WalkKit
import Derived.JoinedOf
import Derived.SevenTiedAt
import Derived.KernelRfl
import Derived.Test.YthmmgoebdcegmaaGreatDoorRowPlotAllF1
import Derived.Test.YthmmgoebdcegmaaGreatDoorRowPlotAllF2
set_option maxRecDepth 100000
namespace Go.Proofs.YthmmgoebdcegmaaGreatDoor.plotAll
open Go
theorem fE : (Rows.plotAllRow.wf (OpenSpec.ofChange Rows.plotAllSpec) && laidOutB Tryz.prog && mapsRowed Tryz.prog) = true := by kernel_rfl
theorem closed : joinedFacts Tryz.prog 4 Tryz.f4 Rows.plotAllSpec Rows.plotAllRow = true := by
  unfold joinedFacts
  rw [fA, fB, fC, fD, fE]
  kernel_rfl
end Go.Proofs.YthmmgoebdcegmaaGreatDoor.plotAll
