/-
  Closed facts of the program for the card PlotAll (4). Written by a program of this work (genopen.py); no condition.
-/
import Derived.Test.YthmmgoebdcegmaaGreatDoorRows
import Derived.Test.YthmmgoebdcegmaaGreatDoorCards
import Derived.WalkKit
import Derived.JoinedOf
import Derived.SevenTiedAt
import Derived.KernelRfl
set_option maxRecDepth 100000
namespace Go.Proofs.YthmmgoebdcegmaaGreatDoor.plotAll
open Go
theorem fG : false = Rows.plotAllRow.goesBy Tryz.pinned.checked.prog := by kernel_rfl
end Go.Proofs.YthmmgoebdcegmaaGreatDoor.plotAll
