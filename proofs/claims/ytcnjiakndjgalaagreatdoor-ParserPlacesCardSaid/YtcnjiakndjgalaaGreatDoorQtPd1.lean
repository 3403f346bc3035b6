/- The law ParserPlaces: run with so many blanks ahead: 5 to 9. -/
import Derived.Test.YtcnjiakndjgalaaGreatDoorQtPc
namespace Go.Qt
open Go.Am Go.Proofs
set_option maxRecDepth 100000
set_option maxHeartbeats 8000000

theorem leafPl5 (n : Int) : runPl n 5 = true := by kernel_rfl
theorem leafPl6 (n : Int) : runPl n 6 = true := by kernel_rfl
theorem leafPl7 (n : Int) : runPl n 7 = true := by kernel_rfl
theorem leafPl8 (n : Int) : runPl n 8 = true := by kernel_rfl
theorem leafPl9 (n : Int) : runPl n 9 = true := by kernel_rfl

end Go.Qt
