/- The law ParserPlaces: run with so many blanks ahead: 10 to 14. -/
import Derived.Test.YtcnjiakndjgalaaGreatDoorQtPc
namespace Go.Qt
open Go.Am Go.Proofs
set_option maxRecDepth 100000
set_option maxHeartbeats 8000000

theorem leafPl10 (n : Int) : runPl n 10 = true := by kernel_rfl
theorem leafPl11 (n : Int) : runPl n 11 = true := by kernel_rfl
theorem leafPl12 (n : Int) : runPl n 12 = true := by kernel_rfl
theorem leafPl13 (n : Int) : runPl n 13 = true := by kernel_rfl
theorem leafPl14 (n : Int) : runPl n 14 = true := by kernel_rfl

end Go.Qt
