/- The law ParserPlaces: run with so many blanks ahead: 0 to 4. -/
import Derived.Test.YtcnjiakndjgalaaGreatDoorQtPc
namespace Go.Qt
open Go.Am Go.Proofs
set_option maxRecDepth 100000
set_option maxHeartbeats 8000000

theorem leafPl0 (n : Int) : runPl n 0 = true := by kernel_rfl
theorem leafPl1 (n : Int) : runPl n 1 = true := by kernel_rfl
theorem leafPl2 (n : Int) : runPl n 2 = true := by kernel_rfl
theorem leafPl3 (n : Int) : runPl n 3 = true := by kernel_rfl
theorem leafPl4 (n : Int) : runPl n 4 = true := by kernel_rfl

end Go.Qt
