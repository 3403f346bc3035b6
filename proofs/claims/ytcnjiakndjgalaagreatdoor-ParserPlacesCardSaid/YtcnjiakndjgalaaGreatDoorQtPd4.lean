/- The law ParserPlaces: run with so many blanks ahead: 20 to 24. -/
import Derived.Test.YtcnjiakndjgalaaGreatDoorQtPc
namespace Go.Qt
open Go.Am Go.Proofs
set_option maxRecDepth 100000
set_option maxHeartbeats 8000000

theorem leafPl20 (n : Int) : runPl n 20 = true := by kernel_rfl
theorem leafPl21 (n : Int) : runPl n 21 = true := by kernel_rfl
theorem leafPl22 (n : Int) : runPl n 22 = true := by kernel_rfl
theorem leafPl23 (n : Int) : runPl n 23 = true := by kernel_rfl
theorem leafPl24 (n : Int) : runPl n 24 = true := by kernel_rfl

end Go.Qt
