/-
  Closed facts of the program for the card PlotAll (1). Written by a program of this work (genopen.py); no condition.
-/
import Derived.Test.YthmmgoebdcegmaaGreatDoorRows
import Derived.Test.YthmmgoebdcegmaaGreatDoorCards
import Derived.WalkKit
import Derived.JoinedOf
import Derived.SevenTiedAt
import Derived.KernelRfl
set_option maxRecDepth 100000
namespace Go.Proofs.YthmmgoebdcegmaaGreatDoor.plotAll
open Go
theorem fA : (Rows.plotAllRow.inPlace == Tryz.prog.inPlace 4) = true := by kernel_rfl
theorem fB : (Rows.plotAllRow.unfollowed == Tryz.prog.unfollowed 4) = true := by kernel_rfl
end Go.Proofs.YthmmgoebdcegmaaGreatDoor.plotAll
