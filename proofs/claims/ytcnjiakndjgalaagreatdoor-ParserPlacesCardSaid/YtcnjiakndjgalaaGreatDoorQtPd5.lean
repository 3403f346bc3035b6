/- The law ParserPlaces: run with so many blanks ahead: 25 to 29. -/
import Derived.Test.YtcnjiakndjgalaaGreatDoorQtPc
namespace Go.Qt
open Go.Am Go.Proofs
set_option maxRecDepth 100000
set_option maxHeartbeats 8000000

theorem leafPl25 (n : Int) : runPl n 25 = true := by kernel_rfl
theorem leafPl26 (n : Int) : runPl n 26 = true := by kernel_rfl
theorem leafPl27 (n : Int) : runPl n 27 = true := by kernel_rfl
theorem leafPl28 (n : Int) : runPl n 28 = true := by kernel_rfl
theorem leafPl29 (n : Int) : runPl n 29 = true := by kernel_rfl

end Go.Qt
