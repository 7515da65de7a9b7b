/-
  Closed facts of the program for the card PlotAll (2). Written by a program of this work (genopen.py); no condition.
-/
import Derived.Test.YthmmgoebdcegmaaGreatDoorRows
import Derived.Test.YthmmgoebdcegmaaGreatDoorCards
import Derived.WalkKit
import Derived.JoinedOf
import Derived.SevenTiedAt
import Derived.KernelRfl
set_option maxRecDepth 100000
namespace Go.Proofs.YthmmgoebdcegmaaGreatDoor.plotAll
open Go
theorem fC : (Rows.plotAllRow.recurses == Tryz.prog.recurses 4) = true := by kernel_rfl
theorem fD : (Rows.plotAllRow.named == Tryz.prog.varsNamed 4) = true := by kernel_rfl
end Go.Proofs.YthmmgoebdcegmaaGreatDoor.plotAll
