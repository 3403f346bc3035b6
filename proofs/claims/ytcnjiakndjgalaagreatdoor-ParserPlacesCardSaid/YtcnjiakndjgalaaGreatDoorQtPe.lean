/- The law ParserPlaces on the abstract machine. -/
import Derived.Test.YtcnjiakndjgalaaGreatDoorQtPd0
import Derived.Test.YtcnjiakndjgalaaGreatDoorQtPd1
import Derived.Test.YtcnjiakndjgalaaGreatDoorQtPd2
import Derived.Test.YtcnjiakndjgalaaGreatDoorQtPd3
import Derived.Test.YtcnjiakndjgalaaGreatDoorQtPd4
import Derived.Test.YtcnjiakndjgalaaGreatDoorQtPd5
namespace Go.Qt
open Go.Am Go.Proofs
set_option maxRecDepth 100000

theorem allPl (n : Int) (k : Nat) (hk : (k : Int) < 30) : runPl n k = true := by
  have h : k < 30 := by omega
  match k, h with
  | 0, _ => exact leafPl0 n
  | 1, _ => exact leafPl1 n
  | 2, _ => exact leafPl2 n
  | 3, _ => exact leafPl3 n
  | 4, _ => exact leafPl4 n
  | 5, _ => exact leafPl5 n
  | 6, _ => exact leafPl6 n
  | 7, _ => exact leafPl7 n
  | 8, _ => exact leafPl8 n
  | 9, _ => exact leafPl9 n
  | 10, _ => exact leafPl10 n
  | 11, _ => exact leafPl11 n
  | 12, _ => exact leafPl12 n
  | 13, _ => exact leafPl13 n
  | 14, _ => exact leafPl14 n
  | 15, _ => exact leafPl15 n
  | 16, _ => exact leafPl16 n
  | 17, _ => exact leafPl17 n
  | 18, _ => exact leafPl18 n
  | 19, _ => exact leafPl19 n
  | 20, _ => exact leafPl20 n
  | 21, _ => exact leafPl21 n
  | 22, _ => exact leafPl22 n
  | 23, _ => exact leafPl23 n
  | 24, _ => exact leafPl24 n
  | 25, _ => exact leafPl25 n
  | 26, _ => exact leafPl26 n
  | 27, _ => exact leafPl27 n
  | 28, _ => exact leafPl28 n
  | 29, _ => exact leafPl29 n
  | k + 30, h => omega

theorem parserPlaces (n : Int) : CallA ap 5 0 [] [.int .i64 n] [] fun v _ => v = .bool true := by
  refine CallA.code (af := ac5) rfl (Nat.le_of_ble_eq_true rfl) ?_
  obtain ⟨k, hk, e⟩ := mod_casesp (m := 30) (by decide) (by decide) n
  simp [ac5]
  refine first27.mono ?_
  rintro v h ⟨rfl, rfl⟩
  simp [mid5, e]
  have hr := allPl n k hk
  exact restO_true (n := 3000) ovP_ok hr

end Go.Qt
