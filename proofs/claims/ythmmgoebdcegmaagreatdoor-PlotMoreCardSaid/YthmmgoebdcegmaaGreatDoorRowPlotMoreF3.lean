/-
  Closed facts of the program for the card PlotMore (3). Written by a program of this work (genopen.py); no condition.
-/
import Derived.Test.YthmmgoebdcegmaaGreatDoorRows
import Derived.Test.YthmmgoebdcegmaaGreatDoorCards
import Derived.WalkKit
import Derived.JoinedOf
import Derived.SevenTiedAt
import Derived.KernelRfl
import Derived.Test.YthmmgoebdcegmaaGreatDoorRowPlotMoreF1
import Derived.Test.YthmmgoebdcegmaaGreatDoorRowPlotMoreF2
set_option maxRecDepth 100000
namespace Go.Proofs.YthmmgoebdcegmaaGreatDoor.plotMore
open Go
theorem fE : (Rows.plotMoreRow.wf (OpenSpec.ofChange Rows.plotMoreSpec) && laidOutB Tryz.prog && mapsRowed Tryz.prog) = true := by kernel_rfl
theorem closed : joinedFacts Tryz.prog 5 Tryz.f5 Rows.plotMoreSpec Rows.plotMoreRow = true := by
  unfold joinedFacts
  rw [fA, fB, fC, fD, fE]
  kernel_rfl
end Go.Proofs.YthmmgoebdcegmaaGreatDoor.plotMore
