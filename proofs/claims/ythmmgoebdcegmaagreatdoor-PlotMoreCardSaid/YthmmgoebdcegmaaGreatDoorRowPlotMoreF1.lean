/-
  Closed facts of the program for the card PlotMore (1). Written by a program of this work (genopen.py); no condition.
-/
import Derived.Test.YthmmgoebdcegmaaGreatDoorRows
import Derived.Test.YthmmgoebdcegmaaGreatDoorCards
import Derived.WalkKit
import Derived.JoinedOf
import Derived.SevenTiedAt
import Derived.KernelRfl
set_option maxRecDepth 100000
namespace Go.Proofs.YthmmgoebdcegmaaGreatDoor.plotMore
open Go
theorem fA : (Rows.plotMoreRow.inPlace == Tryz.prog.inPlace 5) = true := by kernel_rfl
theorem fB : (Rows.plotMoreRow.unfollowed == Tryz.prog.unfollowed 5) = true := by kernel_rfl
end Go.Proofs.YthmmgoebdcegmaaGreatDoor.plotMore
