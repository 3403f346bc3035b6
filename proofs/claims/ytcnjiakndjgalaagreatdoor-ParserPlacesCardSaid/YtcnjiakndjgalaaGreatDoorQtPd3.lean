/- The law ParserPlaces: run with so many blanks ahead: 15 to 19. -/
import Derived.Test.YtcnjiakndjgalaaGreatDoorQtPc
namespace Go.Qt
open Go.Am Go.Proofs
set_option maxRecDepth 100000
set_option maxHeartbeats 8000000

theorem leafPl15 (n : Int) : runPl n 15 = true := by kernel_rfl
theorem leafPl16 (n : Int) : runPl n 16 = true := by kernel_rfl
theorem leafPl17 (n : Int) : runPl n 17 = true := by kernel_rfl
theorem leafPl18 (n : Int) : runPl n 18 = true := by kernel_rfl
theorem leafPl19 (n : Int) : runPl n 19 = true := by kernel_rfl

end Go.Qt
