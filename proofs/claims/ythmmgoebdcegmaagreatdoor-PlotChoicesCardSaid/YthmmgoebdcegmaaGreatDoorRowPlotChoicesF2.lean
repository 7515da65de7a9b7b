/-
  Closed facts of the program for the card PlotChoices (2). Written by a program of this work (genopen.py); no condition.
-/
import Derived.Test.YthmmgoebdcegmaaGreatDoorRows
import Derived.Test.YthmmgoebdcegmaaGreatDoorCards
import Derived.WalkKit
import Derived.JoinedOf
import Derived.SevenTiedAt
import Derived.KernelRfl
set_option maxRecDepth 100000
namespace Go.Proofs.YthmmgoebdcegmaaGreatDoor.plotChoices
open Go
theorem fC : (Rows.plotChoicesRow.recurses == Tryz.prog.recurses 3) = true := by kernel_rfl
theorem fD : (Rows.plotChoicesRow.named == Tryz.prog.varsNamed 3) = true := by kernel_rfl
end Go.Proofs.YthmmgoebdcegmaaGreatDoor.plotChoices
