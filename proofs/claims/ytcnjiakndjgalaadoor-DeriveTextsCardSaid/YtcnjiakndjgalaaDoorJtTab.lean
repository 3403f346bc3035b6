/- The seat's functions on the abstract machine. -/
import Derived.Test.YtcnjiakndjgalaaDoorAmX
import Derived.Test.YtcnjiakndjgalaaDoorAmZ
import Derived.Test.YtcnjiakndjgalaaDoorAmL
import Derived.Test.YtcnjiakndjgalaaDoorAmQ
import Derived.Test.YtcnjiakndjgalaaDoorAmU
import Derived.Test.YtcnjiakndjgalaaDoorAmF
import Derived.Test.YtcnjiakndjgalaaDoorJtShelf
import Derived.Test.YtcnjiakndjgalaaDoorProg
namespace Go.Jt
open Go.Am Go.Proofs

set_option maxRecDepth 100000
def cut4 : Nat := 4
def mid4 : AC := (.reg [⟨(some 20), none, .bslice [(.str [])] 3 [(0, (.c (.str [69, 113]))), (1, (.c (.str [79, 114, 100]))), (2, (.c (.str [83, 104, 111, 119])))]⟩,
  ⟨(some 21), none, .mov (.t 0)⟩,
  ⟨(some 22), none, .bin .rem (.t 21) (.c (.int .i64 3))⟩,
  ⟨(some 23), none, .bin .add (.t 22) (.c (.int .i64 3))⟩,
  ⟨(some 24), none, .bin .rem (.t 23) (.c (.int .i64 3))⟩,
  ⟨(some 25), none, .iaddr 1 (.t 20) (.t 24)⟩,
  ⟨(some 26), none, .load none (.t 25)⟩,
  ⟨(some 5), none, .mov (.t 26)⟩])
def rest4 : AC := (.seq (.reg [⟨(some 27), none, .bslice [(.str [])] 3 [(0, (.c (.str [40, 92, 120, 32, 45, 62, 32, 40, 92, 121, 32, 45, 62, 32, 40, 99, 97, 115, 101, 32, 120, 32, 111, 102, 32, 123, 32, 78, 32, 45, 62, 32, 40, 99, 97, 115, 101, 32, 121, 32, 111, 102, 32, 123, 32, 78, 32, 45, 62, 32, 84, 114, 117, 101, 59, 32, 95, 32, 45, 62, 32, 70, 97, 108, 115, 101, 32, 125, 41, 59, 32, 80, 32, 97, 49, 32, 97, 50, 32, 45, 62, 32, 40, 99, 97, 115, 101, 32, 121, 32, 111, 102, 32, 123, 32, 80, 32, 98, 49, 32, 98, 50, 32, 45, 62, 32, 40, 99, 97, 115, 101, 32, 40, 40, 40, 61, 61, 41, 32, 97, 49, 41, 32, 98, 49, 41, 32, 111, 102, 32, 123, 32, 84, 114, 117, 101, 32, 45, 62, 32, 40, 40, 40, 61, 61, 41, 32, 97, 50, 41, 32, 98, 50, 41, 59, 32, 70, 97, 108, 115, 101, 32, 45, 62, 32, 70, 97, 108, 115, 101, 32, 125, 41, 59, 32, 95, 32, 45, 62, 32, 70, 97, 108, 115, 101, 32, 125, 41, 32, 125, 41, 41, 41]))), (1, (.c (.str [40, 92, 120, 32, 45, 62, 32, 40, 92, 121, 32, 45, 62, 32, 40, 99, 97, 115, 101, 32, 120, 32, 111, 102, 32, 123, 32, 78, 32, 45, 62, 32, 40, 99, 97, 115, 101, 32, 121, 32, 111, 102, 32, 123, 32, 78, 32, 45, 62, 32, 69, 81, 59, 32, 95, 32, 45, 62, 32, 76, 84, 32, 125, 41, 59, 32, 80, 32, 97, 49, 32, 97, 50, 32, 45, 62, 32, 40, 99, 97, 115, 101, 32, 121, 32, 111, 102, 32, 123, 32, 78, 32, 45, 62, 32, 71, 84, 59, 32, 80, 32, 98, 49, 32, 98, 50, 32, 45, 62, 32, 40, 99, 97, 115, 101, 32, 40, 40, 99, 111, 109, 112, 97, 114, 101, 32, 97, 49, 41, 32, 98, 49, 41, 32, 111, 102, 32, 123, 32, 69, 81, 32, 45, 62, 32, 40, 40, 99, 111, 109, 112, 97, 114, 101, 32, 97, 50, 41, 32, 98, 50, 41, 59, 32, 99, 32, 45, 62, 32, 99, 32, 125, 41, 32, 125, 41, 32, 125, 41, 41, 41]))), (2, (.c (.str [40, 92, 120, 32, 45, 62, 32, 40, 99, 97, 115, 101, 32, 120, 32, 111, 102, 32, 123, 32, 78, 32, 45, 62, 32, 40, 40, 67, 111, 110, 115, 32, 39, 78, 39, 41, 32, 78, 105, 108, 41, 59, 32, 80, 32, 97, 49, 32, 97, 50, 32, 45, 62, 32, 40, 40, 97, 112, 112, 101, 110, 100, 32, 40, 40, 67, 111, 110, 115, 32, 39, 40, 39, 41, 32, 40, 40, 67, 111, 110, 115, 32, 39, 80, 39, 41, 32, 40, 40, 67, 111, 110, 115, 32, 39, 32, 39, 41, 32, 78, 105, 108, 41, 41, 41, 41, 32, 40, 40, 97, 112, 112, 101, 110, 100, 32, 40, 115, 104, 111, 119, 32, 97, 49, 41, 41, 32, 40, 40, 97, 112, 112, 101, 110, 100, 32, 40, 40, 67, 111, 110, 115, 32, 39, 32, 39, 41, 32, 78, 105, 108, 41, 41, 32, 40, 40, 97, 112, 112, 101, 110, 100, 32, 40, 115, 104, 111, 119, 32, 97, 50, 41, 41, 32, 40, 40, 67, 111, 110, 115, 32, 39, 41, 39, 41, 32, 78, 105, 108, 41, 41, 41, 41, 41, 32, 125, 41, 41])))]⟩,
  ⟨(some 28), none, .mov (.t 0)⟩,
  ⟨(some 29), none, .bin .rem (.t 28) (.c (.int .i64 3))⟩,
  ⟨(some 30), none, .bin .add (.t 29) (.c (.int .i64 3))⟩,
  ⟨(some 31), none, .bin .rem (.t 30) (.c (.int .i64 3))⟩,
  ⟨(some 32), none, .iaddr 1 (.t 27) (.t 31)⟩,
  ⟨(some 33), none, .load none (.t 32)⟩,
  ⟨(some 6), none, .mov (.t 33)⟩])
 (.seq (.reg [⟨(some 35), none, .load (some 5) (.t 4)⟩,
  ⟨(some 36), none, .mov (.t 5)⟩,
  ⟨(some 37), none, .call 0 [] (.c (.fn 19 [])) [(.t 35), (.t 36)]⟩,
  ⟨(some 34), none, .mov (.t 37)⟩,
  ⟨(some 38), none, .extract (.t 34) 0⟩,
  ⟨(some 39), none, .extract (.t 34) 1⟩,
  ⟨(some 7), none, .alloc [(.str []), (.str []), (.sl .clip []), (.sl .clip []), (.sl .clip []), (.int .i64 0)] false⟩,
  ⟨none, none, .store 6 (.t 7) (.t 38)⟩,
  ⟨(some 8), none, .mov (.t 39)⟩])
 (.seq (.reg [⟨(some 40), none, .mov (.t 3)⟩,
  ⟨(some 41), none, .mov (.t 40)⟩,
  ⟨(some 42), (some (41, true)), .mov (.t 8)⟩,
  ⟨(some 43), none, .pick (.t 41) (.t 42) (.c (.bool false))⟩,
  ⟨(some 44), none, .mov (.t 43)⟩,
  ⟨(some 45), (some (44, true)), .faddr 4 (.t 7)⟩,
  ⟨(some 46), (some (44, true)), .load none (.t 45)⟩,
  ⟨(some 47), (some (44, true)), .len 1 (.t 46)⟩,
  ⟨(some 48), (some (44, true)), .bin .eql (.t 47) (.c (.int .i64 1))⟩,
  ⟨(some 49), none, .pick (.t 44) (.t 48) (.c (.bool false))⟩,
  ⟨(some 50), none, .mov (.t 49)⟩,
  ⟨(some 51), (some (50, true)), .faddr 4 (.t 7)⟩,
  ⟨(some 52), (some (50, true)), .load none (.t 51)⟩,
  ⟨(some 53), (some (50, true)), .iaddr 15 (.t 52) (.c (.int .i64 0))⟩,
  ⟨(some 54), (some (50, true)), .faddr 7 (.t 53)⟩,
  ⟨(some 55), (some (50, true)), .load (some 7) (.t 54)⟩,
  ⟨(some 56), (some (50, true)), .call 0 [] (.c (.fn 20 [])) [(.t 55)]⟩,
  ⟨(some 57), (some (50, true)), .mov (.t 6)⟩,
  ⟨(some 58), (some (50, true)), .bin .eql (.t 56) (.t 57)⟩,
  ⟨(some 59), none, .pick (.t 50) (.t 58) (.c (.bool false))⟩,
  ⟨(some 60), none, .mov (.t 59)⟩,
  ⟨(some 61), (some (60, true)), .faddr 3 (.t 7)⟩,
  ⟨(some 62), (some (60, true)), .load none (.t 61)⟩,
  ⟨(some 63), (some (60, true)), .len 1 (.t 62)⟩,
  ⟨(some 64), (some (60, true)), .bin .eql (.t 63) (.c (.int .i64 1))⟩,
  ⟨(some 65), none, .pick (.t 60) (.t 64) (.c (.bool false))⟩,
  ⟨(some 66), none, .mov (.t 65)⟩,
  ⟨(some 67), (some (66, true)), .faddr 3 (.t 7)⟩,
  ⟨(some 68), (some (66, true)), .load none (.t 67)⟩,
  ⟨(some 69), (some (66, true)), .iaddr 4 (.t 68) (.c (.int .i64 0))⟩,
  ⟨(some 70), (some (66, true)), .faddr 0 (.t 69)⟩,
  ⟨(some 71), (some (66, true)), .load none (.t 70)⟩,
  ⟨(some 72), (some (66, true)), .mov (.t 5)⟩,
  ⟨(some 73), (some (66, true)), .bin .eql (.t 71) (.t 72)⟩,
  ⟨(some 74), none, .pick (.t 66) (.t 73) (.c (.bool false))⟩,
  ⟨(some 75), none, .mov (.t 74)⟩,
  ⟨(some 76), (some (75, true)), .faddr 1 (.t 7)⟩,
  ⟨(some 77), (some (75, true)), .load none (.t 76)⟩,
  ⟨(some 78), (some (75, true)), .bin .eql (.t 77) (.c (.str [84]))⟩,
  ⟨(some 79), none, .pick (.t 75) (.t 78) (.c (.bool false))⟩,
  ⟨(some 2), none, .mov (.t 79)⟩])
 .ret)))
/-- paideia/paideialaw20.DeriveTexts -/
def ac4 : AF := ⟨(.seq (.reg [⟨(some 2), none, .mov (.c (.bool false))⟩])
 (.seq (.reg [⟨(some 9), none, .call 0 [] (.c (.fn 18 [])) []⟩,
  ⟨(some 3), none, .mov (.t 9)⟩])
 (.seq (.seq (.reg [⟨(some 10), none, .mov (.t 3)⟩,
  ⟨(some 11), none, .not (.t 10)⟩])
 (.cond (.t 11) (.seq (.reg [⟨(some 2), none, .mov (.c (.bool false))⟩])
 .ret)
 .skip))
 (.seq (.reg [⟨(some 12), none, .bslice [(.str [])] 1 [(0, (.c (.str [97])))]⟩,
  ⟨(some 13), none, .build [(.str []), (.sl .clip [])] [(0, 1, (.c (.str [78])))]⟩,
  ⟨(some 14), none, .call 0 [] (.c (.fn 6 [])) [(.c (.str [97]))]⟩,
  ⟨(some 15), none, .call 0 [] (.c (.fn 6 [])) [(.c (.str [97]))]⟩,
  ⟨(some 16), none, .bslice [(.int .i64 0), (.str []), (.sl .clip [])] 2 [(0, (.t 14)), (1, (.t 15))]⟩,
  ⟨(some 17), none, .build [(.str []), (.sl .clip [])] [(0, 1, (.c (.str [80]))), (1, 1, (.t 16))]⟩,
  ⟨(some 18), none, .bslice [(.str []), (.sl .clip [])] 2 [(0, (.t 13)), (1, (.t 17))]⟩,
  ⟨(some 19), none, .build [(.str []), (.sl .clip []), (.sl .clip []), (.sl .clip []), (.int .i64 0)] [(0, 1, (.c (.str [84]))), (1, 1, (.t 12)), (2, 1, (.t 18))]⟩,
  ⟨(some 4), none, .alloc [(.str []), (.sl .clip []), (.sl .clip []), (.sl .clip []), (.int .i64 0)] false⟩,
  ⟨none, none, .store 5 (.t 4) (.t 19)⟩])
 (.seq mid4 rest4))))),
  [.t 2], false, true, 80⟩
theorem co4 : compF Tryd.prog ⟨[], [], [], [], [], [], 4, [], []⟩ false true Tryd.f4 = some ac4 := by kernel_rfl

/-- paideia/paideialaw11.first -/
def ac5 : AF := ⟨(.seq (.reg [⟨(some 0), none, .mov (.c (.bool false))⟩])
 (.seq (.reg [⟨(some 1), none, .alloc [(.sl .clip []), (.map none), (.map none)] true⟩])
 (.seq (.reg [⟨(some 5), none, .call 0 [] (.c (.fn 15 [])) [(.t 1), (.c (.str [73, 110, 116]))]⟩,
  ⟨(some 4), none, .mov (.t 5)⟩,
  ⟨(some 6), none, .extract (.t 4) 0⟩,
  ⟨(some 7), none, .extract (.t 4) 1⟩,
  ⟨(some 2), none, .mov (.t 6)⟩,
  ⟨(some 3), none, .mov (.t 7)⟩])
 (.seq (.reg [⟨(some 8), none, .mov (.t 3)⟩,
  ⟨(some 9), none, .mov (.t 8)⟩,
  ⟨(some 10), (some (9, true)), .mov (.t 2)⟩,
  ⟨(some 11), (some (9, true)), .bin .eql (.t 10) (.c (.int .i64 0))⟩,
  ⟨(some 12), none, .pick (.t 9) (.t 11) (.c (.bool false))⟩,
  ⟨(some 13), none, .mov (.t 12)⟩,
  ⟨(some 14), (some (13, true)), .build [(.str []), (.sl .clip [])] [(0, 1, (.c (.str [67])))]⟩,
  ⟨(some 15), (some (13, true)), .bslice [(.str []), (.sl .clip [])] 1 [(0, (.t 14))]⟩,
  ⟨(some 16), (some (13, true)), .build [(.str []), (.sl .clip []), (.sl .clip []), (.sl .clip []), (.int .i64 0)] [(0, 1, (.c (.str [84]))), (2, 1, (.t 15))]⟩,
  ⟨(some 17), (some (13, true)), .bslice [(.str []), (.sl .clip []), (.sl .clip []), (.sl .clip []), (.int .i64 0)] 1 [(0, (.t 16))]⟩,
  ⟨(some 18), (some (13, true)), .call 0 [] (.c (.fn 10 [])) [(.t 1), (.t 17)]⟩,
  ⟨(some 19), (some (13, true)), .eqnil .iface false (.t 18)⟩,
  ⟨(some 20), none, .pick (.t 13) (.t 19) (.c (.bool false))⟩,
  ⟨(some 21), none, .mov (.t 20)⟩,
  ⟨(some 22), (some (21, true)), .call 0 [] (.c (.fn 21 [])) [(.t 1)]⟩,
  ⟨(some 23), (some (21, true)), .len 1 (.t 22)⟩,
  ⟨(some 24), (some (21, true)), .bin .eql (.t 23) (.c (.int .i64 1))⟩,
  ⟨(some 25), none, .pick (.t 21) (.t 24) (.c (.bool false))⟩,
  ⟨(some 0), none, .mov (.t 25)⟩])
 .ret)))),
  [.t 0], false, true, 26⟩
theorem co5 : compF Tryd.prog ⟨[1], [], [], [], [], [], 5, [], []⟩ false true Tryd.f5 = some ac5 := by kernel_rfl

/-- paideia/paideiaref4.Var -/
def ac6 : AF := ⟨(.seq (.reg [⟨(some 2), none, .alloc [(.int .i64 0), (.str []), (.sl .clip [])] false⟩])
 (.seq (.reg [⟨(some 3), none, .mov (.t 0)⟩,
  ⟨(some 4), none, .build [(.int .i64 0), (.str []), (.sl .clip [])] [(0, 1, (.c (.int .i64 1))), (1, 1, (.t 3))]⟩,
  ⟨none, none, .store 3 (.t 2) (.t 4)⟩])
 .ret)),
  [.cell 2 (some 3)], false, true, 5⟩
theorem co6 : compF Tryd.prog ⟨[], [], [], [], [], [], 6, [], []⟩ false true Tryd.f6 = some ac6 := by kernel_rfl

/-- (*paideia/paideiamake.Seq).Next -/
def ac7 : AF := ⟨(.seq (.reg [⟨(some 4), none, .mov (.c (.int .i64 0))⟩])
 (.seq (.reg [⟨(some 5), none, .mov (.c (.int .i64 0))⟩])
 (.seq (.seq (.reg [⟨(some 6), none, .mov (.t 0)⟩,
  ⟨(some 7), none, .nilck (.t 6)⟩,
  ⟨(some 8), none, .faddr 1 (.t 7)⟩,
  ⟨(some 9), none, .load none (.t 8)⟩,
  ⟨(some 10), none, .mov (.t 0)⟩,
  ⟨(some 11), none, .nilck (.t 10)⟩,
  ⟨(some 12), none, .faddr 0 (.t 11)⟩,
  ⟨(some 13), none, .load none (.t 12)⟩,
  ⟨(some 14), none, .len 1 (.t 13)⟩,
  ⟨(some 15), none, .bin .lss (.t 9) (.t 14)⟩])
 (.cond (.t 15) (.reg [⟨(some 16), none, .mov (.t 0)⟩,
  ⟨(some 17), none, .nilck (.t 16)⟩,
  ⟨(some 18), none, .faddr 0 (.t 17)⟩,
  ⟨(some 19), none, .load none (.t 18)⟩,
  ⟨(some 20), none, .mov (.t 0)⟩,
  ⟨(some 21), none, .nilck (.t 20)⟩,
  ⟨(some 22), none, .faddr 1 (.t 21)⟩,
  ⟨(some 23), none, .load none (.t 22)⟩,
  ⟨(some 24), none, .iaddr 1 (.t 19) (.t 23)⟩,
  ⟨(some 25), none, .load none (.t 24)⟩,
  ⟨(some 5), none, .mov (.t 25)⟩])
 .skip))
 (.seq (.reg [⟨(some 26), none, .mov (.t 0)⟩,
  ⟨(some 27), none, .mov (.t 0)⟩,
  ⟨(some 28), none, .nilck (.t 27)⟩,
  ⟨(some 29), none, .faddr 1 (.t 28)⟩,
  ⟨(some 30), none, .load none (.t 29)⟩,
  ⟨(some 31), none, .bin .add (.t 30) (.c (.int .i64 1))⟩,
  ⟨(some 32), none, .nilck (.t 26)⟩,
  ⟨(some 33), none, .faddr 1 (.t 32)⟩,
  ⟨none, none, .store 1 (.t 33) (.t 31)⟩])
 (.seq (.reg [⟨(some 34), none, .mov (.t 5)⟩,
  ⟨(some 35), none, .mov (.t 1)⟩,
  ⟨(some 36), none, .call 0 [] (.c (.fn 22 [])) [(.t 34), (.t 35)]⟩,
  ⟨(some 4), none, .mov (.t 36)⟩])
 .ret))))),
  [.t 4], false, false, 37⟩
theorem co7 : compF Tryd.prog ⟨[], [], [], [], [], [], 7, [], []⟩ false false Tryd.f7 = some ac7 := by kernel_rfl

/-- paideia/paideiaref4.Con -/
def ac8 : AF := ⟨(.seq (.reg [⟨(some 4), none, .alloc [(.int .i64 0), (.str []), (.sl .clip [])] false⟩])
 (.seq (.reg [⟨(some 5), none, .mov (.t 0)⟩,
  ⟨(some 6), none, .mov (.t 1)⟩,
  ⟨(some 7), none, .build [(.int .i64 0), (.str []), (.sl .clip [])] [(0, 1, (.c (.int .i64 2))), (1, 1, (.t 5)), (2, 1, (.t 6))]⟩,
  ⟨none, none, .store 3 (.t 4) (.t 7)⟩])
 .ret)),
  [.cell 4 (some 3)], false, true, 8⟩
theorem co8 : compF Tryd.prog ⟨[], [], [], [], [], [], 8, [], []⟩ false true Tryd.f8 = some ac8 := by kernel_rfl

/-- paideia/paideiaref4.Fun2 -/
def ac9 : AF := ⟨(.seq (.reg [⟨(some 2), none, .box (.t 0) 3 false⟩,
  ⟨(some 3), none, .box (.t 1) 3 false⟩,
  ⟨(some 4), none, .alloc [(.int .i64 0), (.str []), (.sl .clip [])] false⟩])
 (.seq (.reg [⟨(some 5), none, .load (some 3) (.t 2)⟩,
  ⟨(some 6), none, .load (some 3) (.t 3)⟩,
  ⟨(some 7), none, .bslice [(.int .i64 0), (.str []), (.sl .clip [])] 2 [(0, (.t 5)), (1, (.t 6))]⟩,
  ⟨(some 8), none, .build [(.int .i64 0), (.str []), (.sl .clip [])] [(0, 1, (.c (.int .i64 3))), (2, 1, (.t 7))]⟩,
  ⟨none, none, .store 3 (.t 4) (.t 8)⟩])
 .ret)),
  [.cell 4 (some 3)], false, true, 9⟩
theorem co9 : compF Tryd.prog ⟨[], [], [], [], [], [], 9, [], []⟩ false true Tryd.f9 = some ac9 := by kernel_rfl

/-- (*paideia/cons.Env).Add -/
def ac10 : AF := ⟨(.seq (.reg [⟨(some 4), none, .mov (.c .nili)⟩])
 (.seq (.reg [⟨(some 19), none, .mov (.t 0)⟩,
  ⟨(some 20), none, .call 0 [] (.c (.fn 23 [])) [(.t 19)]⟩,
  ⟨(some 5), none, .mov (.t 20)⟩])
 (.seq (.seq (.reg [⟨(some 21), none, .mov (.t 1)⟩,
  ⟨(some 22), none, .len 1 (.t 21)⟩,
  ⟨(some 23), none, .mov (.c (.int .i64 0))⟩])
 (.block 0 (.loop [0, 1, 5, 21, 22, 23] [] (.seq (.reg [⟨(some 24), none, .bin .lss (.t 23) (.t 22)⟩])
 (.seq (.cond (.t 24) .skip
 (.exit 0))
 (.seq (.block 1 (.seq (.reg [⟨(some 25), none, .iaddr 5 (.t 21) (.t 23)⟩,
  ⟨(some 26), none, .load (some 5) (.t 25)⟩,
  ⟨(some 7), none, .alloc [(.str []), (.sl .clip []), (.sl .clip []), (.sl .clip []), (.int .i64 0)] false⟩,
  ⟨none, none, .store 5 (.t 7) (.t 26)⟩])
 (.seq (.seq (.reg [⟨(some 28), none, .mov (.t 5)⟩,
  ⟨(some 29), none, .faddr 0 (.t 7)⟩,
  ⟨(some 30), none, .load none (.t 29)⟩,
  ⟨(some 31), none, .call 0 [] (.c (.fn 15 [])) [(.t 28), (.t 30)]⟩,
  ⟨(some 27), none, .mov (.t 31)⟩,
  ⟨(some 32), none, .extract (.t 27) 0⟩,
  ⟨(some 33), none, .extract (.t 27) 1⟩,
  ⟨(some 8), none, .mov (.t 32)⟩,
  ⟨(some 9), none, .mov (.t 33)⟩])
 (.seq (.reg [⟨(some 34), none, .mov (.t 9)⟩])
 (.cond (.t 34) (.seq (.reg [⟨(some 35), none, .faddr 4 (.t 7)⟩,
  ⟨(some 36), none, .load none (.t 35)⟩,
  ⟨(some 37), none, .stuck⟩,
  ⟨(some 38), none, .build [(.int .i64 0), .nili] [(0, 1, (.t 36)), (1, 1, (.t 37))]⟩,
  ⟨(some 39), none, .box (.t 38) 2 true⟩,
  ⟨(some 40), none, .mkif 83 (.t 39)⟩,
  ⟨(some 4), none, .mov (.t 40)⟩])
 .ret)
 .skip)))
 (.seq (.reg [⟨(some 41), none, .mkmap⟩,
  ⟨(some 10), none, .mov (.t 41)⟩])
 (.seq (.seq (.reg [⟨(some 42), none, .faddr 2 (.t 7)⟩,
  ⟨(some 43), none, .load none (.t 42)⟩,
  ⟨(some 44), none, .len 1 (.t 43)⟩,
  ⟨(some 45), none, .mov (.c (.int .i64 0))⟩])
 (.block 2 (.loop [0, 1, 5, 10, 21, 22, 23, 43, 44, 45] [7] (.seq (.reg [⟨(some 46), none, .bin .lss (.t 45) (.t 44)⟩])
 (.seq (.cond (.t 46) .skip
 (.exit 2))
 (.seq (.block 3 (.seq (.reg [⟨(some 47), none, .iaddr 2 (.t 43) (.t 45)⟩,
  ⟨(some 48), none, .load (some 2) (.t 47)⟩,
  ⟨(some 12), none, .alloc [(.str []), (.sl .clip [])] false⟩,
  ⟨none, none, .store 2 (.t 12) (.t 48)⟩])
 (.seq (.seq (.reg [⟨(some 50), none, .mov (.t 5)⟩,
  ⟨(some 51), none, .faddr 0 (.t 12)⟩,
  ⟨(some 52), none, .load none (.t 51)⟩,
  ⟨(some 53), none, .call 0 [] (.c (.fn 12 [])) [(.t 50), (.t 52)]⟩,
  ⟨(some 49), none, .mov (.t 53)⟩,
  ⟨(some 54), none, .extract (.t 49) 0⟩,
  ⟨(some 55), none, .extract (.t 49) 1⟩,
  ⟨(some 56), none, .extract (.t 49) 2⟩,
  ⟨(some 13), none, .mov (.t 54)⟩,
  ⟨(some 14), none, .mov (.t 55)⟩,
  ⟨(some 15), none, .mov (.t 56)⟩])
 (.seq (.reg [⟨(some 57), none, .mov (.t 15)⟩,
  ⟨(some 58), none, .mov (.t 57)⟩,
  ⟨(some 59), (some (58, false)), .mov (.t 10)⟩,
  ⟨(some 60), (some (58, false)), .faddr 0 (.t 12)⟩,
  ⟨(some 61), (some (58, false)), .load none (.t 60)⟩,
  ⟨(some 62), (some (58, false)), .lookup .str (.bool false) (.t 59) (.t 61) false⟩,
  ⟨(some 63), none, .pick (.t 58) (.c (.bool true)) (.t 62)⟩])
 (.cond (.t 63) (.seq (.reg [⟨(some 64), none, .faddr 4 (.t 7)⟩,
  ⟨(some 65), none, .load none (.t 64)⟩,
  ⟨(some 66), none, .stuck⟩,
  ⟨(some 67), none, .build [(.int .i64 0), .nili] [(0, 1, (.t 65)), (1, 1, (.t 66))]⟩,
  ⟨(some 68), none, .box (.t 67) 2 true⟩,
  ⟨(some 69), none, .mkif 83 (.t 68)⟩,
  ⟨(some 4), none, .mov (.t 69)⟩])
 .ret)
 .skip)))
 (.reg [⟨(some 70), none, .mov (.t 10)⟩,
  ⟨(some 71), none, .faddr 0 (.t 12)⟩,
  ⟨(some 72), none, .load none (.t 71)⟩,
  ⟨none, none, .mapset .str (.t 70) (.t 72) (.c (.bool true))⟩]))))
 (.reg [⟨(some 73), none, .bin .add (.t 45) (.c (.int .i64 1))⟩,
  ⟨(some 45), none, .mov (.t 73)⟩])))))))
 (.reg [⟨(some 74), none, .mov (.t 5)⟩,
  ⟨(some 75), none, .load (some 5) (.t 7)⟩,
  ⟨(some 76), none, .call 0 [] (.c (.fn 25 [])) [(.t 75)]⟩,
  ⟨(some 77), none, .call 0 [] (.c (.fn 24 [])) [(.t 74), (.t 76)]⟩]))))))
 (.reg [⟨(some 78), none, .bin .add (.t 23) (.c (.int .i64 1))⟩,
  ⟨(some 23), none, .mov (.t 78)⟩])))))))
 (.seq (.seq (.reg [⟨(some 79), none, .mov (.t 1)⟩,
  ⟨(some 80), none, .len 1 (.t 79)⟩,
  ⟨(some 81), none, .mov (.c (.int .i64 0))⟩])
 (.block 4 (.loop [0, 5, 79, 80, 81] [] (.seq (.reg [⟨(some 82), none, .bin .lss (.t 81) (.t 80)⟩])
 (.seq (.cond (.t 82) .skip
 (.exit 4))
 (.seq (.block 5 (.seq (.reg [⟨(some 83), none, .iaddr 5 (.t 79) (.t 81)⟩,
  ⟨(some 84), none, .load (some 5) (.t 83)⟩,
  ⟨(some 17), none, .alloc [(.str []), (.sl .clip []), (.sl .clip []), (.sl .clip []), (.int .i64 0)] false⟩,
  ⟨none, none, .store 5 (.t 17) (.t 84)⟩])
 (.seq (.reg [⟨(some 85), none, .mov (.t 5)⟩,
  ⟨(some 86), none, .load (some 5) (.t 17)⟩,
  ⟨(some 87), none, .call 0 [] (.c (.fn 26 [])) [(.t 85), (.t 86)]⟩,
  ⟨(some 18), none, .mov (.t 87)⟩])
 (.seq (.reg [⟨(some 88), none, .mov (.t 18)⟩,
  ⟨(some 89), none, .eqnil .iface true (.t 88)⟩])
 (.cond (.t 89) (.seq (.reg [⟨(some 90), none, .faddr 4 (.t 17)⟩,
  ⟨(some 91), none, .load none (.t 90)⟩,
  ⟨(some 92), none, .mov (.t 18)⟩,
  ⟨(some 93), none, .build [(.int .i64 0), .nili] [(0, 1, (.t 91)), (1, 1, (.t 92))]⟩,
  ⟨(some 94), none, .box (.t 93) 2 true⟩,
  ⟨(some 95), none, .mkif 83 (.t 94)⟩,
  ⟨(some 4), none, .mov (.t 95)⟩])
 .ret)
 .skip)))))
 (.reg [⟨(some 96), none, .bin .add (.t 81) (.c (.int .i64 1))⟩,
  ⟨(some 81), none, .mov (.t 96)⟩])))))))
 (.seq (.reg [⟨(some 97), none, .mov (.t 0)⟩,
  ⟨(some 98), none, .mov (.t 5)⟩,
  ⟨(some 99), none, .nilck (.t 98)⟩,
  ⟨(some 100), none, .load (some 3) (.t 99)⟩,
  ⟨(some 101), none, .nilck (.t 97)⟩,
  ⟨none, none, .store 3 (.t 101) (.t 100)⟩])
 (.seq (.reg [⟨(some 4), none, .mov (.c .nili)⟩])
 .ret)))))),
  [.t 4], false, false, 102⟩
theorem co10 : compF Tryd.prog ⟨[39, 68, 94], [(3, [0, 1, 5, 21, 22, 23], []), (10, [0, 1, 5, 10, 21, 22, 23, 43, 44, 45], [7]), (20, [0, 5, 79, 80, 81], [])], [], [], [], [], 10, [], []⟩ false false Tryd.f10 = some ac10 := by kernel_rfl

/-- (*paideia/cons.Env).Scheme -/
def ac11 : AF := ⟨(.seq (.reg [⟨(some 4), none, .alloc [(.sl .clip []), (.sl .clip []), (.int .i64 0), (.str []), (.sl .clip [])] false⟩,
  ⟨(some 5), none, .mov (.c (.bool false))⟩])
 (.seq (.reg [⟨(some 11), none, .mov (.t 0)⟩,
  ⟨(some 12), none, .nilck (.t 11)⟩,
  ⟨(some 13), none, .faddr 2 (.t 12)⟩,
  ⟨(some 14), none, .load none (.t 13)⟩,
  ⟨(some 15), none, .mov (.t 1)⟩,
  ⟨(some 16), none, .lookup .str (.agg [(.int .i64 0), (.int .i64 0)]) (.t 14) (.t 15) true⟩,
  ⟨(some 10), none, .mov (.t 16)⟩,
  ⟨(some 17), none, .extract (.t 10) 0⟩,
  ⟨(some 18), none, .extract (.t 10) 1⟩,
  ⟨(some 6), none, .alloc [(.int .i64 0), (.int .i64 0)] false⟩,
  ⟨none, none, .store 2 (.t 6) (.t 17)⟩,
  ⟨(some 7), none, .mov (.t 18)⟩])
 (.seq (.seq (.reg [⟨(some 19), none, .mov (.t 7)⟩,
  ⟨(some 20), none, .not (.t 19)⟩])
 (.cond (.t 20) (.seq (.reg [⟨(some 21), none, .build [(.sl .clip []), (.sl .clip []), (.int .i64 0), (.str []), (.sl .clip [])] []⟩,
  ⟨none, none, .store 5 (.t 4) (.t 21)⟩,
  ⟨(some 5), none, .mov (.c (.bool false))⟩])
 .ret)
 .skip))
 (.seq (.reg [⟨(some 22), none, .mov (.t 0)⟩,
  ⟨(some 23), none, .nilck (.t 22)⟩,
  ⟨(some 24), none, .faddr 0 (.t 23)⟩,
  ⟨(some 25), none, .load none (.t 24)⟩,
  ⟨(some 26), none, .faddr 0 (.t 6)⟩,
  ⟨(some 27), none, .load none (.t 26)⟩,
  ⟨(some 28), none, .iaddr 5 (.t 25) (.t 27)⟩,
  ⟨(some 29), none, .load (some 5) (.t 28)⟩,
  ⟨(some 30), none, .call 0 [] (.c (.fn 25 [])) [(.t 29)]⟩,
  ⟨(some 8), none, .alloc [(.str []), (.sl .clip []), (.sl .clip []), (.sl .clip []), (.int .i64 0)] false⟩,
  ⟨none, none, .store 5 (.t 8) (.t 30)⟩])
 (.seq (.reg [⟨(some 31), none, .faddr 2 (.t 8)⟩,
  ⟨(some 32), none, .loadL none (.t 31)⟩,
  ⟨(some 33), none, .faddr 1 (.t 6)⟩,
  ⟨(some 34), none, .loadL none (.t 33)⟩,
  ⟨(some 35), none, .iaddr 2 (.t 32) (.t 34)⟩,
  ⟨(some 36), none, .faddr 1 (.t 35)⟩,
  ⟨(some 37), none, .loadL none (.t 36)⟩,
  ⟨(some 38), none, .load (some 5) (.t 8)⟩,
  ⟨(some 39), none, .call 0 [] (.c (.fn 27 [])) [(.t 38)]⟩,
  ⟨(some 40), none, .bslice [(.int .i64 0), (.str []), (.sl .clip [])] 1 [(0, (.t 39))]⟩,
  ⟨(some 41), none, .append 3 (.t 37) (.t 40)⟩,
  ⟨(some 9), none, .mov (.t 41)⟩])
 (.seq (.reg [⟨(some 42), none, .faddr 1 (.t 8)⟩,
  ⟨(some 43), none, .loadL none (.t 42)⟩,
  ⟨(some 44), none, .mov (.t 9)⟩,
  ⟨(some 45), none, .call 0 [] (.c (.fn 28 [])) [(.t 44)]⟩,
  ⟨(some 46), none, .build [(.sl .clip []), (.sl .clip []), (.int .i64 0), (.str []), (.sl .clip [])] [(0, 1, (.t 43)), (2, 3, (.t 45))]⟩,
  ⟨none, none, .store 5 (.t 4) (.t 46)⟩,
  ⟨(some 5), none, .mov (.c (.bool true))⟩])
 .ret)))))),
  [.cell 4 (some 5), .t 5], false, false, 47⟩
theorem co11 : compF Tryd.prog ⟨[], [], [], [], [], [], 11, [], []⟩ false false Tryd.f11 = some ac11 := by kernel_rfl

/-- (*paideia/cons.Env).Place -/
def ac12 : AF := ⟨(.seq (.reg [⟨(some 4), none, .mov (.c (.str []))⟩,
  ⟨(some 5), none, .mov (.c (.int .i64 0))⟩,
  ⟨(some 6), none, .mov (.c (.bool false))⟩])
 (.seq (.reg [⟨(some 10), none, .mov (.t 0)⟩,
  ⟨(some 11), none, .nilck (.t 10)⟩,
  ⟨(some 12), none, .faddr 2 (.t 11)⟩,
  ⟨(some 13), none, .load none (.t 12)⟩,
  ⟨(some 14), none, .mov (.t 1)⟩,
  ⟨(some 15), none, .lookup .str (.agg [(.int .i64 0), (.int .i64 0)]) (.t 13) (.t 14) true⟩,
  ⟨(some 9), none, .mov (.t 15)⟩,
  ⟨(some 16), none, .extract (.t 9) 0⟩,
  ⟨(some 17), none, .extract (.t 9) 1⟩,
  ⟨(some 7), none, .alloc [(.int .i64 0), (.int .i64 0)] false⟩,
  ⟨none, none, .store 2 (.t 7) (.t 16)⟩,
  ⟨(some 8), none, .mov (.t 17)⟩])
 (.seq (.seq (.reg [⟨(some 18), none, .mov (.t 8)⟩,
  ⟨(some 19), none, .not (.t 18)⟩])
 (.cond (.t 19) (.seq (.reg [⟨(some 4), none, .mov (.c (.str []))⟩,
  ⟨(some 5), none, .mov (.c (.int .i64 0))⟩,
  ⟨(some 6), none, .mov (.c (.bool false))⟩])
 .ret)
 .skip))
 (.seq (.reg [⟨(some 20), none, .mov (.t 0)⟩,
  ⟨(some 21), none, .nilck (.t 20)⟩,
  ⟨(some 22), none, .faddr 0 (.t 21)⟩,
  ⟨(some 23), none, .load none (.t 22)⟩,
  ⟨(some 24), none, .faddr 0 (.t 7)⟩,
  ⟨(some 25), none, .load none (.t 24)⟩,
  ⟨(some 26), none, .iaddr 5 (.t 23) (.t 25)⟩,
  ⟨(some 27), none, .faddr 0 (.t 26)⟩,
  ⟨(some 28), none, .load none (.t 27)⟩,
  ⟨(some 29), none, .faddr 1 (.t 7)⟩,
  ⟨(some 30), none, .load none (.t 29)⟩,
  ⟨(some 4), none, .mov (.t 28)⟩,
  ⟨(some 5), none, .mov (.t 30)⟩,
  ⟨(some 6), none, .mov (.c (.bool true))⟩])
 .ret)))),
  [.t 4, .t 5, .t 6], false, false, 31⟩
theorem co12 : compF Tryd.prog ⟨[], [], [], [], [], [], 12, [], []⟩ false false Tryd.f12 = some ac12 := by kernel_rfl

/-- paideia/paideiaref.SameType -/
def ac13 : AF := ⟨(.seq (.reg [⟨(some 2), none, .box (.t 0) 3 false⟩,
  ⟨(some 3), none, .box (.t 1) 3 false⟩,
  ⟨(some 4), none, .mov (.c (.bool false))⟩])
 (.seq (.reg [⟨(some 5), none, .faddr 0 (.t 2)⟩,
  ⟨(some 6), none, .load none (.t 5)⟩,
  ⟨(some 7), none, .faddr 0 (.t 3)⟩,
  ⟨(some 8), none, .load none (.t 7)⟩,
  ⟨(some 9), none, .bin .eql (.t 6) (.t 8)⟩,
  ⟨(some 10), none, .mov (.t 9)⟩,
  ⟨(some 11), (some (10, true)), .faddr 1 (.t 2)⟩,
  ⟨(some 12), (some (10, true)), .load none (.t 11)⟩,
  ⟨(some 13), (some (10, true)), .faddr 1 (.t 3)⟩,
  ⟨(some 14), (some (10, true)), .load none (.t 13)⟩,
  ⟨(some 15), (some (10, true)), .bin .eql (.t 12) (.t 14)⟩,
  ⟨(some 16), none, .pick (.t 10) (.t 15) (.c (.bool false))⟩,
  ⟨(some 17), none, .mov (.t 16)⟩,
  ⟨(some 18), (some (17, true)), .faddr 2 (.t 2)⟩,
  ⟨(some 19), (some (17, true)), .load none (.t 18)⟩,
  ⟨(some 20), (some (17, true)), .faddr 2 (.t 3)⟩,
  ⟨(some 21), (some (17, true)), .load none (.t 20)⟩,
  ⟨(some 22), (some (17, true)), .call 0 [] (.c (.fn 29 [])) [(.t 19), (.t 21)]⟩,
  ⟨(some 23), none, .pick (.t 17) (.t 22) (.c (.bool false))⟩,
  ⟨(some 4), none, .mov (.t 23)⟩])
 .ret)),
  [.t 4], false, true, 24⟩
theorem co13 : compF Tryd.prog ⟨[], [], [], [], [], [], 13, [], []⟩ false true Tryd.f13 = some ac13 := by kernel_rfl

/-- paideia/paideiaref.SameTexts -/
def ac14 : AF := ⟨(.seq (.reg [⟨(some 4), none, .mov (.c (.bool false))⟩])
 (.seq (.seq (.reg [⟨(some 7), none, .mov (.t 0)⟩,
  ⟨(some 8), none, .len 1 (.t 7)⟩,
  ⟨(some 9), none, .mov (.t 1)⟩,
  ⟨(some 10), none, .len 1 (.t 9)⟩,
  ⟨(some 11), none, .bin .neq (.t 8) (.t 10)⟩])
 (.cond (.t 11) (.seq (.reg [⟨(some 4), none, .mov (.c (.bool false))⟩])
 .ret)
 .skip))
 (.seq (.seq (.reg [⟨(some 5), none, .mov (.c (.int .i64 0))⟩])
 (.block 0 (.loop [0, 1, 5] [] (.seq (.seq (.reg [⟨(some 12), none, .mov (.t 5)⟩,
  ⟨(some 13), none, .mov (.t 0)⟩,
  ⟨(some 14), none, .len 1 (.t 13)⟩,
  ⟨(some 15), none, .bin .lss (.t 12) (.t 14)⟩])
 (.cond (.t 15) .skip
 (.exit 0)))
 (.seq (.block 1 (.seq (.reg [⟨(some 18), none, .mov (.t 0)⟩,
  ⟨(some 19), none, .mov (.t 5)⟩,
  ⟨(some 20), none, .iaddr 1 (.t 18) (.t 19)⟩,
  ⟨(some 21), none, .load none (.t 20)⟩,
  ⟨(some 22), none, .mov (.t 1)⟩,
  ⟨(some 23), none, .mov (.t 5)⟩,
  ⟨(some 24), none, .iaddr 1 (.t 22) (.t 23)⟩,
  ⟨(some 25), none, .load none (.t 24)⟩,
  ⟨(some 26), none, .bin .eql (.t 21) (.t 25)⟩,
  ⟨(some 6), none, .mov (.t 26)⟩])
 (.seq (.reg [⟨(some 27), none, .mov (.t 6)⟩,
  ⟨(some 28), none, .not (.t 27)⟩])
 (.cond (.t 28) (.seq (.reg [⟨(some 4), none, .mov (.c (.bool false))⟩])
 .ret)
 .skip))))
 (.reg [⟨(some 16), none, .mov (.t 5)⟩,
  ⟨(some 17), none, .bin .add (.t 16) (.c (.int .i64 1))⟩,
  ⟨(some 5), none, .mov (.t 17)⟩]))))))
 (.seq (.reg [⟨(some 4), none, .mov (.c (.bool true))⟩])
 .ret)))),
  [.t 4], false, true, 29⟩
theorem co14 : compF Tryd.prog ⟨[], [(4, [0, 1, 5], [])], [], [], [], [], 14, [], []⟩ false true Tryd.f14 = some ac14 := by kernel_rfl

/-- (*paideia/cons.Env).Arity -/
def ac15 : AF := ⟨(.seq (.reg [⟨(some 4), none, .mov (.c (.int .i64 0))⟩,
  ⟨(some 5), none, .mov (.c (.bool false))⟩])
 (.seq (.seq (.reg [⟨(some 8), none, .mov (.t 1)⟩,
  ⟨(some 9), none, .bin .eql (.t 8) (.c (.str [73, 110, 116]))⟩,
  ⟨(some 10), none, .mov (.t 9)⟩,
  ⟨(some 11), (some (10, false)), .mov (.t 1)⟩,
  ⟨(some 12), (some (10, false)), .bin .eql (.t 11) (.c (.str [67, 104, 97, 114]))⟩,
  ⟨(some 13), none, .pick (.t 10) (.c (.bool true)) (.t 12)⟩])
 (.cond (.t 13) (.seq (.reg [⟨(some 4), none, .mov (.c (.int .i64 0))⟩,
  ⟨(some 5), none, .mov (.c (.bool true))⟩])
 .ret)
 .skip))
 (.seq (.reg [⟨(some 15), none, .mov (.t 0)⟩,
  ⟨(some 16), none, .nilck (.t 15)⟩,
  ⟨(some 17), none, .faddr 1 (.t 16)⟩,
  ⟨(some 18), none, .load none (.t 17)⟩,
  ⟨(some 19), none, .mov (.t 1)⟩,
  ⟨(some 20), none, .lookup .str (.int .i64 0) (.t 18) (.t 19) true⟩,
  ⟨(some 14), none, .mov (.t 20)⟩,
  ⟨(some 21), none, .extract (.t 14) 0⟩,
  ⟨(some 22), none, .extract (.t 14) 1⟩,
  ⟨(some 6), none, .mov (.t 21)⟩,
  ⟨(some 7), none, .mov (.t 22)⟩])
 (.seq (.seq (.reg [⟨(some 23), none, .mov (.t 7)⟩,
  ⟨(some 24), none, .not (.t 23)⟩])
 (.cond (.t 24) (.seq (.reg [⟨(some 4), none, .mov (.c (.int .i64 0))⟩,
  ⟨(some 5), none, .mov (.c (.bool false))⟩])
 .ret)
 .skip))
 (.seq (.reg [⟨(some 25), none, .mov (.t 0)⟩,
  ⟨(some 26), none, .nilck (.t 25)⟩,
  ⟨(some 27), none, .faddr 0 (.t 26)⟩,
  ⟨(some 28), none, .load none (.t 27)⟩,
  ⟨(some 29), none, .mov (.t 6)⟩,
  ⟨(some 30), none, .iaddr 5 (.t 28) (.t 29)⟩,
  ⟨(some 31), none, .faddr 1 (.t 30)⟩,
  ⟨(some 32), none, .load none (.t 31)⟩,
  ⟨(some 33), none, .len 1 (.t 32)⟩,
  ⟨(some 4), none, .mov (.t 33)⟩,
  ⟨(some 5), none, .mov (.c (.bool true))⟩])
 .ret))))),
  [.t 4, .t 5], false, false, 34⟩
theorem co15 : compF Tryd.prog ⟨[], [], [], [], [], [], 15, [], []⟩ false false Tryd.f15 = some ac15 := by kernel_rfl

/-- (*paideia/cons.Env).Data -/
def ac16 : AF := ⟨(.seq (.reg [⟨(some 4), none, .alloc [(.str []), (.sl .clip []), (.sl .clip []), (.sl .clip []), (.int .i64 0)] false⟩,
  ⟨(some 5), none, .mov (.c (.bool false))⟩])
 (.seq (.reg [⟨(some 9), none, .mov (.t 0)⟩,
  ⟨(some 10), none, .nilck (.t 9)⟩,
  ⟨(some 11), none, .faddr 1 (.t 10)⟩,
  ⟨(some 12), none, .load none (.t 11)⟩,
  ⟨(some 13), none, .mov (.t 1)⟩,
  ⟨(some 14), none, .lookup .str (.int .i64 0) (.t 12) (.t 13) true⟩,
  ⟨(some 8), none, .mov (.t 14)⟩,
  ⟨(some 15), none, .extract (.t 8) 0⟩,
  ⟨(some 16), none, .extract (.t 8) 1⟩,
  ⟨(some 6), none, .mov (.t 15)⟩,
  ⟨(some 7), none, .mov (.t 16)⟩])
 (.seq (.seq (.reg [⟨(some 17), none, .mov (.t 7)⟩,
  ⟨(some 18), none, .not (.t 17)⟩])
 (.cond (.t 18) (.seq (.reg [⟨(some 19), none, .build [(.str []), (.sl .clip []), (.sl .clip []), (.sl .clip []), (.int .i64 0)] []⟩,
  ⟨none, none, .store 5 (.t 4) (.t 19)⟩,
  ⟨(some 5), none, .mov (.c (.bool false))⟩])
 .ret)
 .skip))
 (.seq (.reg [⟨(some 20), none, .mov (.t 0)⟩,
  ⟨(some 21), none, .nilck (.t 20)⟩,
  ⟨(some 22), none, .faddr 0 (.t 21)⟩,
  ⟨(some 23), none, .load none (.t 22)⟩,
  ⟨(some 24), none, .mov (.t 6)⟩,
  ⟨(some 25), none, .iaddr 5 (.t 23) (.t 24)⟩,
  ⟨(some 26), none, .load (some 5) (.t 25)⟩,
  ⟨(some 27), none, .call 0 [] (.c (.fn 25 [])) [(.t 26)]⟩,
  ⟨none, none, .store 5 (.t 4) (.t 27)⟩,
  ⟨(some 5), none, .mov (.c (.bool true))⟩])
 .ret)))),
  [.cell 4 (some 5), .t 5], false, false, 28⟩
theorem co16 : compF Tryd.prog ⟨[], [], [], [], [], [], 16, [], []⟩ false false Tryd.f16 = some ac16 := by kernel_rfl

/-- (*paideia/cons.Env).Kind: round 0 -/
def ab17_0 : AB := ⟨[9], (.reg [⟨(some 5), none, .alloc [(.int .i64 0), (.str []), (.sl .clip [])] false⟩,
  ⟨none, none, .store 3 (.t 5) (.t 9)⟩]),
 (.block 1 (.seq (.reg [⟨(some 10), none, .load none (.t 2)⟩,
  ⟨(some 11), none, .load (some 3) (.t 5)⟩,
  ⟨(some 12), none, .call 0 [] (.c (.fn 31 [])) [(.t 10), (.t 11)]⟩,
  ⟨(some 6), none, .mov (.t 12)⟩])
 (.seq (.reg [⟨(some 13), none, .mov (.t 6)⟩,
  ⟨(some 14), none, .eqnil .iface true (.t 13)⟩])
 (.cond (.t 14) (.seq (.reg [⟨(some 15), none, .mov (.t 6)⟩,
  ⟨none, none, .store 1 (.t 4) (.t 15)⟩])
 .ret)
 .skip))))⟩
theorem cb17_0 : ((Tryd.f17.body.bind fun c => ((rfs c)[1088 % 64]?).map fun t => (t.1, t.2.1, t.2.2, Tryd.f17.ntmps)).bind (compB Tryd.prog ⟨[], [], [], [], [], [], 17, [], []⟩)) = some ab17_0 := by kernel_rfl

/-- (*paideia/cons.Env).Kind -/
def ac17 : AF := ⟨(.seq (.reg [⟨(some 2), none, .box (.t 0) 1 true⟩,
  ⟨(some 3), none, .box (.t 1) 3 false⟩,
  ⟨(some 4), none, .alloc [.nili] true⟩])
 (.seq (.seq (.reg [⟨(some 7), none, .load (some 3) (.t 3)⟩,
  ⟨(some 8), none, .call 0 [] (.c (.fn 30 [])) [(.t 7)]⟩])
 (.block 0 (.rfunc (.t 8) 1088 [2, 4] [50])))
 (.seq (.reg [⟨none, none, .store 1 (.t 4) (.c .nili)⟩])
 .ret))),
  [.cell 4 none], false, false, 16⟩
theorem co17 : compF Tryd.prog ⟨[2, 4], [], [], [], [], [], 17, [(0, [2, 4])], [50]⟩ false false Tryd.f17 = some ac17 := by kernel_rfl

/-- paideia/paideialaw20.first -/
def ac18 : AF := ⟨(.seq (.reg [⟨(some 0), none, .mov (.c (.bool false))⟩])
 (.seq (.reg [⟨(some 4), none, .build [(.str []), (.sl .clip [])] [(0, 1, (.c (.str [67])))]⟩,
  ⟨(some 5), none, .bslice [(.str []), (.sl .clip [])] 1 [(0, (.t 4))]⟩,
  ⟨(some 6), none, .build [(.str []), (.sl .clip []), (.sl .clip []), (.sl .clip []), (.int .i64 0)] [(0, 1, (.c (.str [84]))), (2, 1, (.t 5))]⟩,
  ⟨(some 7), none, .call 0 [] (.c (.fn 19 [])) [(.t 6), (.c (.str [69, 113]))]⟩,
  ⟨(some 3), none, .mov (.t 7)⟩,
  ⟨(some 8), none, .extract (.t 3) 0⟩,
  ⟨(some 9), none, .extract (.t 3) 1⟩,
  ⟨(some 1), none, .alloc [(.str []), (.str []), (.sl .clip []), (.sl .clip []), (.sl .clip []), (.int .i64 0)] false⟩,
  ⟨none, none, .store 6 (.t 1) (.t 8)⟩,
  ⟨(some 2), none, .mov (.t 9)⟩])
 (.seq (.reg [⟨(some 10), none, .call 0 [] (.c (.fn 32 [])) [(.c (.str [78, 117, 109]))]⟩,
  ⟨(some 11), none, .not (.t 10)⟩,
  ⟨(some 12), none, .mov (.t 11)⟩,
  ⟨(some 13), (some (12, true)), .call 0 [] (.c (.fn 32 [])) [(.c (.str [69, 113]))]⟩,
  ⟨(some 14), none, .pick (.t 12) (.t 13) (.c (.bool false))⟩,
  ⟨(some 15), none, .mov (.t 14)⟩,
  ⟨(some 16), (some (15, true)), .mov (.t 2)⟩,
  ⟨(some 17), none, .pick (.t 15) (.t 16) (.c (.bool false))⟩,
  ⟨(some 18), none, .mov (.t 17)⟩,
  ⟨(some 19), (some (18, true)), .faddr 4 (.t 1)⟩,
  ⟨(some 20), (some (18, true)), .load none (.t 19)⟩,
  ⟨(some 21), (some (18, true)), .len 1 (.t 20)⟩,
  ⟨(some 22), (some (18, true)), .bin .eql (.t 21) (.c (.int .i64 1))⟩,
  ⟨(some 23), none, .pick (.t 18) (.t 22) (.c (.bool false))⟩,
  ⟨(some 0), none, .mov (.t 23)⟩])
 .ret))),
  [.t 0], false, true, 24⟩
theorem co18 : compF Tryd.prog ⟨[], [], [], [], [], [], 18, [], []⟩ false true Tryd.f18 = some ac18 := by kernel_rfl

/-- paideia/derive.Derive -/
def ac19 : AF := ⟨(.seq (.reg [⟨(some 2), none, .box (.t 0) 5 false⟩,
  ⟨(some 4), none, .alloc [(.str []), (.str []), (.sl .clip []), (.sl .clip []), (.sl .clip []), (.int .i64 0)] false⟩,
  ⟨(some 5), none, .mov (.c (.bool false))⟩])
 (.seq (.reg [⟨(some 11), none, .faddr 4 (.t 2)⟩,
  ⟨(some 12), none, .load none (.t 11)⟩,
  ⟨(some 6), none, .mov (.t 12)⟩])
 (.seq (.reg [⟨(some 13), none, .faddr 4 (.t 2)⟩,
  ⟨(some 14), none, .load none (.t 13)⟩,
  ⟨(some 15), none, .build [(.str []), (.bool false), (.sl .clip []), (.sl .clip []), (.int .i64 0), (.str []), (.sl .clip []), (.int .i64 0), (.int .i64 0), (.str []), (.int .i64 0), (.sl .clip []), (.sl .clip []), (.sl .clip []), (.int .i64 0)] [(14, 1, (.t 14))]⟩,
  ⟨(some 7), none, .alloc [(.str []), (.bool false), (.sl .clip []), (.sl .clip []), (.int .i64 0), (.str []), (.sl .clip []), (.int .i64 0), (.int .i64 0), (.str []), (.int .i64 0), (.sl .clip []), (.sl .clip []), (.sl .clip []), (.int .i64 0)] false⟩,
  ⟨none, none, .store 15 (.t 7) (.t 15)⟩])
 (.seq (.seq (.reg [⟨(some 16), none, .mov (.t 1)⟩])
 (.block 0 (.seq (.reg [⟨(some 19), none, .bin .eql (.t 16) (.c (.str [69, 113]))⟩,
  ⟨(some 18), none, .mov (.t 19)⟩])
 (.cond (.t 18) (.reg [⟨(some 20), none, .mov (.t 6)⟩,
  ⟨(some 21), none, .load (some 5) (.t 2)⟩,
  ⟨(some 22), none, .call 0 [] (.c (.fn 33 [])) [(.t 20), (.t 21)]⟩,
  ⟨(some 23), none, .faddr 0 (.t 7)⟩,
  ⟨none, none, .store 1 (.t 23) (.c (.str [61, 61]))⟩,
  ⟨(some 24), none, .faddr 7 (.t 7)⟩,
  ⟨none, none, .store 7 (.t 24) (.t 22)⟩])
 (.seq (.reg [⟨(some 26), none, .bin .eql (.t 16) (.c (.str [79, 114, 100]))⟩,
  ⟨(some 25), none, .mov (.t 26)⟩])
 (.cond (.t 25) (.reg [⟨(some 27), none, .mov (.t 6)⟩,
  ⟨(some 28), none, .load (some 5) (.t 2)⟩,
  ⟨(some 29), none, .call 0 [] (.c (.fn 34 [])) [(.t 27), (.t 28)]⟩,
  ⟨(some 30), none, .faddr 0 (.t 7)⟩,
  ⟨none, none, .store 1 (.t 30) (.c (.str [99, 111, 109, 112, 97, 114, 101]))⟩,
  ⟨(some 31), none, .faddr 7 (.t 7)⟩,
  ⟨none, none, .store 7 (.t 31) (.t 29)⟩])
 (.seq (.reg [⟨(some 33), none, .bin .eql (.t 16) (.c (.str [83, 104, 111, 119]))⟩,
  ⟨(some 32), none, .mov (.t 33)⟩])
 (.cond (.t 32) (.reg [⟨(some 34), none, .mov (.t 6)⟩,
  ⟨(some 35), none, .load (some 5) (.t 2)⟩,
  ⟨(some 36), none, .call 0 [] (.c (.fn 35 [])) [(.t 34), (.t 35)]⟩,
  ⟨(some 37), none, .faddr 0 (.t 7)⟩,
  ⟨none, none, .store 1 (.t 37) (.c (.str [115, 104, 111, 119]))⟩,
  ⟨(some 38), none, .faddr 7 (.t 7)⟩,
  ⟨none, none, .store 7 (.t 38) (.t 36)⟩])
 (.seq (.reg [⟨(some 17), none, .build [(.str []), (.str []), (.sl .clip []), (.sl .clip []), (.sl .clip []), (.int .i64 0)] []⟩,
  ⟨none, none, .store 6 (.t 4) (.t 17)⟩,
  ⟨(some 5), none, .mov (.c (.bool false))⟩])
 .ret)))))))))
 (.seq (.reg [⟨(some 39), none, .mov (.t 1)⟩,
  ⟨(some 40), none, .faddr 0 (.t 2)⟩,
  ⟨(some 41), none, .loadL none (.t 40)⟩,
  ⟨(some 42), none, .faddr 1 (.t 2)⟩,
  ⟨(some 43), none, .load none (.t 42)⟩,
  ⟨(some 44), none, .call 0 [] (.c (.fn 36 [])) [(.t 43)]⟩,
  ⟨(some 45), none, .loadL (some 15) (.t 7)⟩,
  ⟨(some 46), none, .bslice [(.str []), (.bool false), (.sl .clip []), (.sl .clip []), (.int .i64 0), (.str []), (.sl .clip []), (.int .i64 0), (.int .i64 0), (.str []), (.int .i64 0), (.sl .clip []), (.sl .clip []), (.sl .clip []), (.int .i64 0)] 1 [(0, (.t 45))]⟩,
  ⟨(some 47), none, .faddr 4 (.t 2)⟩,
  ⟨(some 48), none, .loadL none (.t 47)⟩,
  ⟨(some 49), none, .build [(.str []), (.str []), (.sl .clip []), (.sl .clip []), (.sl .clip []), (.int .i64 0)] [(0, 1, (.t 39)), (1, 1, (.t 41)), (2, 1, (.t 44)), (4, 1, (.t 46)), (5, 1, (.t 48))]⟩,
  ⟨(some 8), none, .alloc [(.str []), (.str []), (.sl .clip []), (.sl .clip []), (.sl .clip []), (.int .i64 0)] false⟩,
  ⟨none, none, .store 6 (.t 8) (.t 49)⟩])
 (.seq (.seq (.reg [⟨(some 50), none, .faddr 1 (.t 2)⟩,
  ⟨(some 51), none, .load none (.t 50)⟩,
  ⟨(some 52), none, .len 1 (.t 51)⟩,
  ⟨(some 53), none, .mov (.c (.int .i64 0))⟩])
 (.block 1 (.loop [1, 51, 52, 53] [4, 8] (.seq (.reg [⟨(some 54), none, .bin .lss (.t 53) (.t 52)⟩])
 (.seq (.cond (.t 54) .skip
 (.exit 1))
 (.seq (.block 2 (.seq (.reg [⟨(some 55), none, .iaddr 1 (.t 51) (.t 53)⟩,
  ⟨(some 56), none, .load none (.t 55)⟩,
  ⟨(some 10), none, .mov (.t 56)⟩])
 (.reg [⟨(some 57), none, .faddr 3 (.t 8)⟩,
  ⟨(some 58), none, .loadL none (.t 57)⟩,
  ⟨(some 59), none, .mov (.t 1)⟩,
  ⟨(some 60), none, .mov (.t 10)⟩,
  ⟨(some 61), none, .call 0 [] (.c (.fn 37 [])) [(.t 60)]⟩,
  ⟨(some 62), none, .build [(.str []), (.int .i64 0), (.str []), (.sl .clip [])] [(0, 1, (.t 59)), (1, 3, (.t 61))]⟩,
  ⟨(some 63), none, .bslice [(.str []), (.int .i64 0), (.str []), (.sl .clip [])] 1 [(0, (.t 62))]⟩,
  ⟨(some 64), none, .append 4 (.t 58) (.t 63)⟩,
  ⟨(some 65), none, .faddr 3 (.t 8)⟩,
  ⟨none, none, .store 1 (.t 65) (.t 64)⟩])))
 (.reg [⟨(some 66), none, .bin .add (.t 53) (.c (.int .i64 1))⟩,
  ⟨(some 53), none, .mov (.t 66)⟩])))))))
 (.seq (.reg [⟨(some 67), none, .load (some 6) (.t 8)⟩,
  ⟨none, none, .store 6 (.t 4) (.t 67)⟩,
  ⟨(some 5), none, .mov (.c (.bool true))⟩])
 .ret))))))),
  [.cell 4 (some 6), .t 5], false, true, 68⟩
theorem co19 : compF Tryd.prog ⟨[], [(13, [1, 51, 52, 53], [4, 8])], [], [], [], [], 19, [], []⟩ false true Tryd.f19 = some ac19 := by kernel_rfl

/-- paideia/printer.Expr -/
def ac20 : AF := ⟨(.seq (.reg [⟨(some 1), none, .box (.t 0) 7 false⟩,
  ⟨(some 2), none, .mov (.c (.str []))⟩])
 (.seq (.seq (.reg [⟨(some 3), none, .faddr 0 (.t 1)⟩,
  ⟨(some 4), none, .load none (.t 3)⟩])
 (.block 0 (.seq (.seq (.reg [⟨(some 6), none, .bin .eql (.t 4) (.c (.int .i64 1))⟩,
  ⟨(some 5), none, .mov (.t 6)⟩])
 (.cond (.t 5) .skip
 (.reg [⟨(some 7), none, .bin .eql (.t 4) (.c (.int .i64 2))⟩,
  ⟨(some 5), none, .mov (.t 7)⟩])))
 (.cond (.t 5) (.seq (.reg [⟨(some 8), none, .faddr 2 (.t 1)⟩,
  ⟨(some 9), none, .load none (.t 8)⟩,
  ⟨(some 10), none, .call 0 [] (.c (.fn 38 [])) [(.t 9)]⟩,
  ⟨(some 2), none, .mov (.t 10)⟩])
 .ret)
 (.seq (.reg [⟨(some 12), none, .bin .eql (.t 4) (.c (.int .i64 3))⟩,
  ⟨(some 11), none, .mov (.t 12)⟩])
 (.cond (.t 11) (.seq (.reg [⟨(some 13), none, .faddr 3 (.t 1)⟩,
  ⟨(some 14), none, .load none (.t 13)⟩,
  ⟨(some 15), none, .call 0 [] (.c (.fn 39 [])) [(.t 14), (.c (.int .i64 10))]⟩,
  ⟨(some 2), none, .mov (.t 15)⟩])
 .ret)
 (.seq (.reg [⟨(some 17), none, .bin .eql (.t 4) (.c (.int .i64 4))⟩,
  ⟨(some 16), none, .mov (.t 17)⟩])
 (.cond (.t 16) (.seq (.reg [⟨(some 18), none, .faddr 3 (.t 1)⟩,
  ⟨(some 19), none, .load none (.t 18)⟩,
  ⟨(some 20), none, .call 0 [] (.c (.fn 40 [])) [(.t 19)]⟩,
  ⟨(some 2), none, .mov (.t 20)⟩])
 .ret)
 (.seq (.reg [⟨(some 22), none, .bin .eql (.t 4) (.c (.int .i64 5))⟩,
  ⟨(some 21), none, .mov (.t 22)⟩])
 (.cond (.t 21) (.seq (.reg [⟨(some 23), none, .load (some 7) (.t 1)⟩,
  ⟨(some 24), none, .call 0 [] (.c (.fn 41 [])) [(.t 23), (.c (.int .i64 0))]⟩,
  ⟨(some 25), none, .call 0 [] (.c (.fn 20 [])) [(.t 24)]⟩,
  ⟨(some 26), none, .bin .add (.c (.str [40])) (.t 25)⟩,
  ⟨(some 27), none, .bin .add (.t 26) (.c (.str [32]))⟩,
  ⟨(some 28), none, .loadL (some 7) (.t 1)⟩,
  ⟨(some 29), none, .call 0 [] (.c (.fn 41 [])) [(.t 28), (.c (.int .i64 1))]⟩,
  ⟨(some 30), none, .call 0 [] (.c (.fn 20 [])) [(.t 29)]⟩,
  ⟨(some 31), none, .bin .add (.t 27) (.t 30)⟩,
  ⟨(some 32), none, .bin .add (.t 31) (.c (.str [41]))⟩,
  ⟨(some 2), none, .mov (.t 32)⟩])
 .ret)
 (.seq (.reg [⟨(some 34), none, .bin .eql (.t 4) (.c (.int .i64 6))⟩,
  ⟨(some 33), none, .mov (.t 34)⟩])
 (.cond (.t 33) (.seq (.reg [⟨(some 35), none, .faddr 2 (.t 1)⟩,
  ⟨(some 36), none, .loadL none (.t 35)⟩,
  ⟨(some 37), none, .bin .add (.c (.str [40, 92])) (.t 36)⟩,
  ⟨(some 38), none, .bin .add (.t 37) (.c (.str [32, 45, 62, 32]))⟩,
  ⟨(some 39), none, .load (some 7) (.t 1)⟩,
  ⟨(some 40), none, .call 0 [] (.c (.fn 41 [])) [(.t 39), (.c (.int .i64 0))]⟩,
  ⟨(some 41), none, .call 0 [] (.c (.fn 20 [])) [(.t 40)]⟩,
  ⟨(some 42), none, .bin .add (.t 38) (.t 41)⟩,
  ⟨(some 43), none, .bin .add (.t 42) (.c (.str [41]))⟩,
  ⟨(some 2), none, .mov (.t 43)⟩])
 .ret)
 (.seq (.reg [⟨(some 45), none, .bin .eql (.t 4) (.c (.int .i64 7))⟩,
  ⟨(some 44), none, .mov (.t 45)⟩])
 (.cond (.t 44) (.seq (.reg [⟨(some 46), none, .faddr 6 (.t 1)⟩,
  ⟨(some 47), none, .load none (.t 46)⟩,
  ⟨(some 48), none, .call 0 [] (.c (.fn 43 [])) [(.t 47), (.c (.str [59, 32])), (.c (.fn 44 []))]⟩,
  ⟨(some 49), none, .call 0 [] (.c (.fn 42 [])) [(.t 48)]⟩,
  ⟨(some 50), none, .bin .add (.c (.str [40, 108, 101, 116, 32])) (.t 49)⟩,
  ⟨(some 51), none, .bin .add (.t 50) (.c (.str [32, 105, 110, 32]))⟩,
  ⟨(some 52), none, .loadL (some 7) (.t 1)⟩,
  ⟨(some 53), none, .call 0 [] (.c (.fn 41 [])) [(.t 52), (.c (.int .i64 0))]⟩,
  ⟨(some 54), none, .call 0 [] (.c (.fn 20 [])) [(.t 53)]⟩,
  ⟨(some 55), none, .bin .add (.t 51) (.t 54)⟩,
  ⟨(some 56), none, .bin .add (.t 55) (.c (.str [41]))⟩,
  ⟨(some 2), none, .mov (.t 56)⟩])
 .ret)
 (.seq (.reg [⟨(some 58), none, .bin .eql (.t 4) (.c (.int .i64 8))⟩,
  ⟨(some 57), none, .mov (.t 58)⟩])
 (.cond (.t 57) (.seq (.reg [⟨(some 59), none, .load (some 7) (.t 1)⟩,
  ⟨(some 60), none, .call 0 [] (.c (.fn 41 [])) [(.t 59), (.c (.int .i64 0))]⟩,
  ⟨(some 61), none, .call 0 [] (.c (.fn 20 [])) [(.t 60)]⟩,
  ⟨(some 62), none, .bin .add (.c (.str [40, 99, 97, 115, 101, 32])) (.t 61)⟩,
  ⟨(some 63), none, .bin .add (.t 62) (.c (.str [32, 111, 102, 32]))⟩,
  ⟨(some 64), none, .faddr 5 (.t 1)⟩,
  ⟨(some 65), none, .loadL none (.t 64)⟩,
  ⟨(some 66), none, .call 0 [] (.c (.fn 45 [])) [(.t 65), (.c (.str [59, 32])), (.c (.fn 46 []))]⟩,
  ⟨(some 67), none, .call 0 [] (.c (.fn 42 [])) [(.t 66)]⟩,
  ⟨(some 68), none, .bin .add (.t 63) (.t 67)⟩,
  ⟨(some 69), none, .bin .add (.t 68) (.c (.str [41]))⟩,
  ⟨(some 2), none, .mov (.t 69)⟩])
 .ret)
 .skip))))))))))))))))
 (.seq (.reg [⟨(some 2), none, .mov (.c (.str []))⟩])
 .ret))),
  [.t 2], false, true, 70⟩
theorem co20 : compF Tryd.prog ⟨[], [], [], [], [], [], 20, [], []⟩ false true Tryd.f20 = some ac20 := by kernel_rfl

/-- (*paideia/cons.Env).Datas -/
def ac21 : AF := ⟨(.seq (.reg [⟨(some 2), none, .mov (.c (.sl .clip []))⟩])
 (.seq (.reg [⟨(some 3), none, .mov (.c (.sl .clip []))⟩])
 (.seq (.seq (.reg [⟨(some 6), none, .mov (.t 0)⟩,
  ⟨(some 7), none, .nilck (.t 6)⟩,
  ⟨(some 8), none, .faddr 0 (.t 7)⟩,
  ⟨(some 9), none, .load none (.t 8)⟩,
  ⟨(some 10), none, .len 1 (.t 9)⟩,
  ⟨(some 11), none, .mov (.c (.int .i64 0))⟩])
 (.block 0 (.loop [3, 9, 10, 11] [] (.seq (.reg [⟨(some 12), none, .bin .lss (.t 11) (.t 10)⟩])
 (.seq (.cond (.t 12) .skip
 (.exit 0))
 (.seq (.block 1 (.seq (.reg [⟨(some 13), none, .iaddr 5 (.t 9) (.t 11)⟩,
  ⟨(some 14), none, .load (some 5) (.t 13)⟩,
  ⟨(some 5), none, .alloc [(.str []), (.sl .clip []), (.sl .clip []), (.sl .clip []), (.int .i64 0)] false⟩,
  ⟨none, none, .store 5 (.t 5) (.t 14)⟩])
 (.reg [⟨(some 15), none, .mov (.t 3)⟩,
  ⟨(some 16), none, .load (some 5) (.t 5)⟩,
  ⟨(some 17), none, .call 0 [] (.c (.fn 25 [])) [(.t 16)]⟩,
  ⟨(some 18), none, .bslice [(.str []), (.sl .clip []), (.sl .clip []), (.sl .clip []), (.int .i64 0)] 1 [(0, (.t 17))]⟩,
  ⟨(some 19), none, .append 5 (.t 15) (.t 18)⟩,
  ⟨(some 3), none, .mov (.t 19)⟩])))
 (.reg [⟨(some 20), none, .bin .add (.t 11) (.c (.int .i64 1))⟩,
  ⟨(some 11), none, .mov (.t 20)⟩])))))))
 (.seq (.reg [⟨(some 21), none, .mov (.t 3)⟩,
  ⟨(some 2), none, .mov (.t 21)⟩])
 .ret)))),
  [.t 2], false, false, 22⟩
theorem co21 : compF Tryd.prog ⟨[], [(3, [3, 9, 10, 11], [])], [], [], [], [], 21, [], []⟩ false false Tryd.f21 = some ac21 := by kernel_rfl

/-- paideia/paideiaworld.Number -/
def ac22 : AF := ⟨(.seq (.reg [⟨(some 4), none, .mov (.c (.int .i64 0))⟩])
 (.seq (.reg [⟨(some 6), none, .mov (.t 0)⟩,
  ⟨(some 7), none, .mov (.t 1)⟩,
  ⟨(some 8), none, .bin .rem (.t 6) (.t 7)⟩,
  ⟨(some 5), none, .mov (.t 8)⟩])
 (.seq (.seq (.reg [⟨(some 9), none, .mov (.t 5)⟩,
  ⟨(some 10), none, .bin .lss (.t 9) (.c (.int .i64 0))⟩])
 (.cond (.t 10) (.reg [⟨(some 11), none, .mov (.t 5)⟩,
  ⟨(some 12), none, .mov (.t 1)⟩,
  ⟨(some 13), none, .bin .add (.t 11) (.t 12)⟩,
  ⟨(some 5), none, .mov (.t 13)⟩])
 .skip))
 (.seq (.reg [⟨(some 14), none, .mov (.t 5)⟩,
  ⟨(some 4), none, .mov (.t 14)⟩])
 .ret)))),
  [.t 4], false, true, 15⟩
theorem co22 : compF Tryd.prog ⟨[], [], [], [], [], [], 22, [], []⟩ false true Tryd.f22 = some ac22 := by kernel_rfl

/-- (*paideia/cons.Env).Copy -/
def ac23 : AF := ⟨(.seq (.reg [⟨(some 2), none, .mov (.c .nilp)⟩])
 (.seq (.reg [⟨(some 6), none, .mkmap⟩,
  ⟨(some 7), none, .mkmap⟩,
  ⟨(some 8), none, .build [(.sl .clip []), (.map none), (.map none)] [(1, 1, (.t 6)), (2, 1, (.t 7))]⟩,
  ⟨(some 9), none, .box (.t 8) 3 true⟩,
  ⟨(some 3), none, .mov (.t 9)⟩])
 (.seq (.seq (.reg [⟨(some 10), none, .mov (.t 0)⟩,
  ⟨(some 11), none, .nilck (.t 10)⟩,
  ⟨(some 12), none, .faddr 0 (.t 11)⟩,
  ⟨(some 13), none, .load none (.t 12)⟩,
  ⟨(some 14), none, .len 1 (.t 13)⟩,
  ⟨(some 15), none, .mov (.c (.int .i64 0))⟩])
 (.block 0 (.loop [3, 13, 14, 15] [] (.seq (.reg [⟨(some 16), none, .bin .lss (.t 15) (.t 14)⟩])
 (.seq (.cond (.t 16) .skip
 (.exit 0))
 (.seq (.block 1 (.seq (.reg [⟨(some 17), none, .iaddr 5 (.t 13) (.t 15)⟩,
  ⟨(some 18), none, .load (some 5) (.t 17)⟩,
  ⟨(some 5), none, .alloc [(.str []), (.sl .clip []), (.sl .clip []), (.sl .clip []), (.int .i64 0)] false⟩,
  ⟨none, none, .store 5 (.t 5) (.t 18)⟩])
 (.reg [⟨(some 19), none, .mov (.t 3)⟩,
  ⟨(some 20), none, .load (some 5) (.t 5)⟩,
  ⟨(some 21), none, .call 0 [] (.c (.fn 25 [])) [(.t 20)]⟩,
  ⟨(some 22), none, .call 0 [] (.c (.fn 24 [])) [(.t 19), (.t 21)]⟩])))
 (.reg [⟨(some 23), none, .bin .add (.t 15) (.c (.int .i64 1))⟩,
  ⟨(some 15), none, .mov (.t 23)⟩])))))))
 (.seq (.reg [⟨(some 24), none, .mov (.t 3)⟩,
  ⟨(some 2), none, .mov (.t 24)⟩])
 .ret)))),
  [.t 2], false, false, 25⟩
theorem co23 : compF Tryd.prog ⟨[9], [(3, [3, 13, 14, 15], [])], [], [], [], [], 23, [], []⟩ false false Tryd.f23 = some ac23 := by kernel_rfl

/-- (*paideia/cons.Env).puts -/
def ac24 : AF := ⟨(.seq (.reg [⟨(some 3), none, .box (.t 1) 5 false⟩])
 (.seq (.seq (.reg [⟨(some 6), none, .mov (.t 0)⟩,
  ⟨(some 7), none, .nilck (.t 6)⟩,
  ⟨(some 8), none, .faddr 1 (.t 7)⟩,
  ⟨(some 9), none, .load none (.t 8)⟩,
  ⟨(some 10), none, .eqnil .map false (.t 9)⟩])
 (.cond (.t 10) (.reg [⟨(some 11), none, .mov (.t 0)⟩,
  ⟨(some 12), none, .mov (.t 0)⟩,
  ⟨(some 13), none, .mkmap⟩,
  ⟨(some 14), none, .mkmap⟩,
  ⟨(some 15), none, .nilck (.t 11)⟩,
  ⟨(some 16), none, .faddr 1 (.t 15)⟩,
  ⟨none, none, .store 1 (.t 16) (.t 13)⟩,
  ⟨(some 17), none, .nilck (.t 12)⟩,
  ⟨(some 18), none, .faddr 2 (.t 17)⟩,
  ⟨none, none, .store 1 (.t 18) (.t 14)⟩])
 .skip))
 (.seq (.reg [⟨(some 19), none, .mov (.t 0)⟩,
  ⟨(some 20), none, .nilck (.t 19)⟩,
  ⟨(some 21), none, .faddr 1 (.t 20)⟩,
  ⟨(some 22), none, .load none (.t 21)⟩,
  ⟨(some 23), none, .faddr 0 (.t 3)⟩,
  ⟨(some 24), none, .load none (.t 23)⟩,
  ⟨(some 25), none, .mov (.t 0)⟩,
  ⟨(some 26), none, .nilck (.t 25)⟩,
  ⟨(some 27), none, .faddr 0 (.t 26)⟩,
  ⟨(some 28), none, .load none (.t 27)⟩,
  ⟨(some 29), none, .len 1 (.t 28)⟩,
  ⟨none, none, .mapset .str (.t 22) (.t 24) (.t 29)⟩])
 (.seq (.seq (.reg [⟨(some 30), none, .faddr 2 (.t 3)⟩,
  ⟨(some 31), none, .load none (.t 30)⟩,
  ⟨(some 32), none, .len 1 (.t 31)⟩,
  ⟨(some 33), none, .mov (.c (.int .i64 0))⟩])
 (.block 0 (.loop [0, 31, 32, 33] [3] (.seq (.reg [⟨(some 34), none, .bin .lss (.t 33) (.t 32)⟩])
 (.seq (.cond (.t 34) .skip
 (.exit 0))
 (.seq (.block 1 (.seq (.reg [⟨(some 35), none, .mov (.t 33)⟩,
  ⟨(some 36), none, .iaddr 2 (.t 31) (.t 33)⟩,
  ⟨(some 37), none, .load (some 2) (.t 36)⟩,
  ⟨(some 5), none, .alloc [(.str []), (.sl .clip [])] false⟩,
  ⟨(some 4), none, .mov (.t 35)⟩,
  ⟨none, none, .store 2 (.t 5) (.t 37)⟩])
 (.reg [⟨(some 38), none, .mov (.t 0)⟩,
  ⟨(some 39), none, .nilck (.t 38)⟩,
  ⟨(some 40), none, .faddr 2 (.t 39)⟩,
  ⟨(some 41), none, .load none (.t 40)⟩,
  ⟨(some 42), none, .faddr 0 (.t 5)⟩,
  ⟨(some 43), none, .load none (.t 42)⟩,
  ⟨(some 44), none, .mov (.t 0)⟩,
  ⟨(some 45), none, .nilck (.t 44)⟩,
  ⟨(some 46), none, .faddr 0 (.t 45)⟩,
  ⟨(some 47), none, .load none (.t 46)⟩,
  ⟨(some 48), none, .len 1 (.t 47)⟩,
  ⟨(some 49), none, .mov (.t 4)⟩,
  ⟨(some 50), none, .build [(.int .i64 0), (.int .i64 0)] [(0, 1, (.t 48)), (1, 1, (.t 49))]⟩,
  ⟨none, none, .mapset .str (.t 41) (.t 43) (.t 50)⟩])))
 (.reg [⟨(some 51), none, .bin .add (.t 33) (.c (.int .i64 1))⟩,
  ⟨(some 33), none, .mov (.t 51)⟩])))))))
 (.reg [⟨(some 52), none, .mov (.t 0)⟩,
  ⟨(some 53), none, .mov (.t 0)⟩,
  ⟨(some 54), none, .nilck (.t 53)⟩,
  ⟨(some 55), none, .faddr 0 (.t 54)⟩,
  ⟨(some 56), none, .load none (.t 55)⟩,
  ⟨(some 57), none, .load (some 5) (.t 3)⟩,
  ⟨(some 58), none, .bslice [(.str []), (.sl .clip []), (.sl .clip []), (.sl .clip []), (.int .i64 0)] 1 [(0, (.t 57))]⟩,
  ⟨(some 59), none, .append 5 (.t 56) (.t 58)⟩,
  ⟨(some 60), none, .nilck (.t 52)⟩,
  ⟨(some 61), none, .faddr 0 (.t 60)⟩,
  ⟨none, none, .store 1 (.t 61) (.t 59)⟩]))))),
  [], false, false, 62⟩
theorem co24 : compF Tryd.prog ⟨[], [(5, [0, 31, 32, 33], [3])], [], [], [], [], 24, [], []⟩ false false Tryd.f24 = some ac24 := by kernel_rfl

/-- paideia/cons.Clone -/
def ac25 : AF := ⟨(.seq (.reg [⟨(some 1), none, .box (.t 0) 5 false⟩,
  ⟨(some 2), none, .alloc [(.str []), (.sl .clip []), (.sl .clip []), (.sl .clip []), (.int .i64 0)] false⟩])
 (.seq (.reg [⟨(some 9), none, .load (some 5) (.t 1)⟩,
  ⟨(some 3), none, .alloc [(.str []), (.sl .clip []), (.sl .clip []), (.sl .clip []), (.int .i64 0)] false⟩,
  ⟨none, none, .store 5 (.t 3) (.t 9)⟩])
 (.seq (.reg [⟨(some 10), none, .faddr 1 (.t 1)⟩,
  ⟨(some 11), none, .load none (.t 10)⟩,
  ⟨(some 12), none, .call 0 [] (.c (.fn 36 [])) [(.t 11)]⟩,
  ⟨(some 13), none, .faddr 3 (.t 1)⟩,
  ⟨(some 14), none, .loadL none (.t 13)⟩,
  ⟨(some 15), none, .call 0 [] (.c (.fn 36 [])) [(.t 14)]⟩,
  ⟨(some 16), none, .faddr 1 (.t 3)⟩,
  ⟨none, none, .store 1 (.t 16) (.t 12)⟩,
  ⟨(some 17), none, .faddr 3 (.t 3)⟩,
  ⟨none, none, .store 1 (.t 17) (.t 15)⟩,
  ⟨(some 18), none, .faddr 2 (.t 3)⟩,
  ⟨none, none, .store 1 (.t 18) (.c (.sl .clip []))⟩])
 (.seq (.seq (.reg [⟨(some 19), none, .faddr 2 (.t 1)⟩,
  ⟨(some 20), none, .load none (.t 19)⟩,
  ⟨(some 21), none, .len 1 (.t 20)⟩,
  ⟨(some 22), none, .mov (.c (.int .i64 0))⟩])
 (.block 0 (.loop [20, 21, 22] [2, 3] (.seq (.reg [⟨(some 23), none, .bin .lss (.t 22) (.t 21)⟩])
 (.seq (.cond (.t 23) .skip
 (.exit 0))
 (.seq (.block 1 (.seq (.reg [⟨(some 24), none, .iaddr 2 (.t 20) (.t 22)⟩,
  ⟨(some 25), none, .load (some 2) (.t 24)⟩,
  ⟨(some 5), none, .alloc [(.str []), (.sl .clip [])] false⟩,
  ⟨none, none, .store 2 (.t 5) (.t 25)⟩])
 (.seq (.reg [⟨(some 26), none, .faddr 0 (.t 5)⟩,
  ⟨(some 27), none, .load none (.t 26)⟩,
  ⟨(some 28), none, .build [(.str []), (.sl .clip [])] [(0, 1, (.t 27))]⟩,
  ⟨(some 6), none, .alloc [(.str []), (.sl .clip [])] false⟩,
  ⟨none, none, .store 2 (.t 6) (.t 28)⟩])
 (.seq (.seq (.reg [⟨(some 29), none, .faddr 1 (.t 5)⟩,
  ⟨(some 30), none, .load none (.t 29)⟩,
  ⟨(some 31), none, .len 1 (.t 30)⟩,
  ⟨(some 32), none, .mov (.c (.int .i64 0))⟩])
 (.block 2 (.loop [20, 21, 22, 30, 31, 32] [2, 3, 6] (.seq (.reg [⟨(some 33), none, .bin .lss (.t 32) (.t 31)⟩])
 (.seq (.cond (.t 33) .skip
 (.exit 2))
 (.seq (.block 3 (.seq (.reg [⟨(some 34), none, .iaddr 3 (.t 30) (.t 32)⟩,
  ⟨(some 35), none, .load (some 3) (.t 34)⟩,
  ⟨(some 8), none, .alloc [(.int .i64 0), (.str []), (.sl .clip [])] false⟩,
  ⟨none, none, .store 3 (.t 8) (.t 35)⟩])
 (.reg [⟨(some 36), none, .faddr 1 (.t 6)⟩,
  ⟨(some 37), none, .loadL none (.t 36)⟩,
  ⟨(some 38), none, .load (some 3) (.t 8)⟩,
  ⟨(some 39), none, .call 0 [] (.c (.fn 47 [])) [(.t 38)]⟩,
  ⟨(some 40), none, .bslice [(.int .i64 0), (.str []), (.sl .clip [])] 1 [(0, (.t 39))]⟩,
  ⟨(some 41), none, .append 3 (.t 37) (.t 40)⟩,
  ⟨(some 42), none, .faddr 1 (.t 6)⟩,
  ⟨none, none, .store 1 (.t 42) (.t 41)⟩])))
 (.reg [⟨(some 43), none, .bin .add (.t 32) (.c (.int .i64 1))⟩,
  ⟨(some 32), none, .mov (.t 43)⟩])))))))
 (.reg [⟨(some 44), none, .faddr 2 (.t 3)⟩,
  ⟨(some 45), none, .load none (.t 44)⟩,
  ⟨(some 46), none, .load (some 2) (.t 6)⟩,
  ⟨(some 47), none, .bslice [(.str []), (.sl .clip [])] 1 [(0, (.t 46))]⟩,
  ⟨(some 48), none, .append 2 (.t 45) (.t 47)⟩,
  ⟨(some 49), none, .faddr 2 (.t 3)⟩,
  ⟨none, none, .store 1 (.t 49) (.t 48)⟩])))))
 (.reg [⟨(some 50), none, .bin .add (.t 22) (.c (.int .i64 1))⟩,
  ⟨(some 22), none, .mov (.t 50)⟩])))))))
 (.seq (.reg [⟨(some 51), none, .load (some 5) (.t 3)⟩,
  ⟨none, none, .store 5 (.t 2) (.t 51)⟩])
 .ret))))),
  [.cell 2 (some 5)], false, true, 52⟩
theorem co25 : compF Tryd.prog ⟨[], [(4, [20, 21, 22], [2, 3]), (8, [20, 21, 22, 30, 31, 32], [2, 3, 6])], [], [], [], [], 25, [], []⟩ false true Tryd.f25 = some ac25 := by kernel_rfl

/-- (*paideia/cons.Env).args: round 0 -/
def ab26_0 : AB := ⟨[27], (.reg [⟨(some 9), none, .alloc [(.int .i64 0), (.str []), (.sl .clip [])] false⟩,
  ⟨none, none, .store 3 (.t 9) (.t 27)⟩]),
 (.block 5 (.seq (.seq (.reg [⟨(some 28), none, .faddr 0 (.t 9)⟩,
  ⟨(some 29), none, .load none (.t 28)⟩,
  ⟨(some 30), none, .bin .eql (.t 29) (.c (.int .i64 1))⟩,
  ⟨(some 31), none, .mov (.t 30)⟩,
  ⟨(some 32), (some (31, true)), .faddr 1 (.t 3)⟩,
  ⟨(some 33), (some (31, true)), .load none (.t 32)⟩,
  ⟨(some 34), (some (31, true)), .faddr 1 (.t 9)⟩,
  ⟨(some 35), (some (31, true)), .load none (.t 34)⟩,
  ⟨(some 36), (some (31, true)), .call 0 [] (.c (.fn 48 [])) [(.t 33), (.t 35)]⟩,
  ⟨(some 37), (some (31, true)), .not (.t 36)⟩,
  ⟨(some 38), none, .pick (.t 31) (.t 37) (.c (.bool false))⟩])
 (.cond (.t 38) (.seq (.reg [⟨(some 39), none, .stuck⟩,
  ⟨none, none, .store 1 (.t 4) (.t 39)⟩])
 .ret)
 .skip))
 (.seq (.reg [⟨(some 40), none, .load none (.t 2)⟩,
  ⟨(some 41), none, .load (some 3) (.t 9)⟩,
  ⟨(some 42), none, .call 0 [] (.c (.fn 31 [])) [(.t 40), (.t 41)]⟩,
  ⟨(some 10), none, .mov (.t 42)⟩])
 (.seq (.reg [⟨(some 43), none, .mov (.t 10)⟩,
  ⟨(some 44), none, .eqnil .iface true (.t 43)⟩])
 (.cond (.t 44) (.seq (.reg [⟨(some 45), none, .mov (.t 10)⟩,
  ⟨none, none, .store 1 (.t 4) (.t 45)⟩])
 .ret)
 .skip)))))⟩
theorem cb26_0 : ((Tryd.f26.body.bind fun c => ((rfs c)[1664 % 64]?).map fun t => (t.1, t.2.1, t.2.2, Tryd.f26.ntmps)).bind (compB Tryd.prog ⟨[], [], [], [], [], [], 26, [], []⟩)) = some ab26_0 := by kernel_rfl

/-- (*paideia/cons.Env).args -/
def ac26 : AF := ⟨(.seq (.reg [⟨(some 2), none, .box (.t 0) 1 true⟩,
  ⟨(some 3), none, .box (.t 1) 5 true⟩,
  ⟨(some 4), none, .alloc [.nili] true⟩])
 (.seq (.seq (.reg [⟨(some 11), none, .faddr 2 (.t 3)⟩,
  ⟨(some 12), none, .load none (.t 11)⟩,
  ⟨(some 13), none, .len 1 (.t 12)⟩,
  ⟨(some 14), none, .mov (.c (.int .i64 0))⟩])
 (.block 0 (.loop [2, 3, 4, 12, 13, 14] [] (.seq (.reg [⟨(some 15), none, .bin .lss (.t 14) (.t 13)⟩])
 (.seq (.cond (.t 15) .skip
 (.exit 0))
 (.seq (.block 1 (.seq (.reg [⟨(some 16), none, .iaddr 2 (.t 12) (.t 14)⟩,
  ⟨(some 17), none, .load (some 2) (.t 16)⟩,
  ⟨(some 6), none, .alloc [(.str []), (.sl .clip [])] false⟩,
  ⟨none, none, .store 2 (.t 6) (.t 17)⟩])
 (.seq (.reg [⟨(some 18), none, .faddr 1 (.t 6)⟩,
  ⟨(some 19), none, .load none (.t 18)⟩,
  ⟨(some 20), none, .len 1 (.t 19)⟩,
  ⟨(some 21), none, .mov (.c (.int .i64 0))⟩])
 (.block 2 (.loop [2, 3, 4, 12, 13, 14, 19, 20, 21] [] (.seq (.reg [⟨(some 22), none, .bin .lss (.t 21) (.t 20)⟩])
 (.seq (.cond (.t 22) .skip
 (.exit 2))
 (.seq (.block 3 (.seq (.reg [⟨(some 23), none, .iaddr 3 (.t 19) (.t 21)⟩,
  ⟨(some 24), none, .load (some 3) (.t 23)⟩,
  ⟨(some 8), none, .alloc [(.int .i64 0), (.str []), (.sl .clip [])] false⟩,
  ⟨none, none, .store 3 (.t 8) (.t 24)⟩])
 (.seq (.reg [⟨(some 25), none, .load (some 3) (.t 8)⟩,
  ⟨(some 26), none, .call 0 [] (.c (.fn 30 [])) [(.t 25)]⟩])
 (.block 4 (.rfunc (.t 26) 1664 [3, 4, 2] [50])))))
 (.reg [⟨(some 46), none, .bin .add (.t 21) (.c (.int .i64 1))⟩,
  ⟨(some 21), none, .mov (.t 46)⟩])))))))))
 (.reg [⟨(some 47), none, .bin .add (.t 14) (.c (.int .i64 1))⟩,
  ⟨(some 14), none, .mov (.t 47)⟩])))))))
 (.seq (.reg [⟨none, none, .store 1 (.t 4) (.c .nili)⟩])
 .ret))),
  [.cell 4 none], false, false, 48⟩
theorem co26 : compF Tryd.prog ⟨[2, 3, 4], [(2, [2, 3, 4, 12, 13, 14], []), (5, [2, 3, 4, 12, 13, 14, 19, 20, 21], [])], [], [], [], [], 26, [(0, [3, 4, 2])], [50]⟩ false false Tryd.f26 = some ac26 := by kernel_rfl

/-- paideia/cons.Result -/
def ac27 : AF := ⟨(.seq (.reg [⟨(some 1), none, .box (.t 0) 5 false⟩,
  ⟨(some 2), none, .alloc [(.int .i64 0), (.str []), (.sl .clip [])] false⟩])
 (.seq (.reg [⟨(some 3), none, .mov (.c (.sl .clip []))⟩])
 (.seq (.seq (.reg [⟨(some 6), none, .faddr 1 (.t 1)⟩,
  ⟨(some 7), none, .load none (.t 6)⟩,
  ⟨(some 8), none, .len 1 (.t 7)⟩,
  ⟨(some 9), none, .mov (.c (.int .i64 0))⟩])
 (.block 0 (.loop [3, 7, 8, 9] [1, 2] (.seq (.reg [⟨(some 10), none, .bin .lss (.t 9) (.t 8)⟩])
 (.seq (.cond (.t 10) .skip
 (.exit 0))
 (.seq (.block 1 (.seq (.reg [⟨(some 11), none, .iaddr 1 (.t 7) (.t 9)⟩,
  ⟨(some 12), none, .load none (.t 11)⟩,
  ⟨(some 5), none, .mov (.t 12)⟩])
 (.reg [⟨(some 13), none, .mov (.t 3)⟩,
  ⟨(some 14), none, .mov (.t 5)⟩,
  ⟨(some 15), none, .call 0 [] (.c (.fn 37 [])) [(.t 14)]⟩,
  ⟨(some 16), none, .bslice [(.int .i64 0), (.str []), (.sl .clip [])] 1 [(0, (.t 15))]⟩,
  ⟨(some 17), none, .append 3 (.t 13) (.t 16)⟩,
  ⟨(some 3), none, .mov (.t 17)⟩])))
 (.reg [⟨(some 18), none, .bin .add (.t 9) (.c (.int .i64 1))⟩,
  ⟨(some 9), none, .mov (.t 18)⟩])))))))
 (.seq (.reg [⟨(some 19), none, .faddr 0 (.t 1)⟩,
  ⟨(some 20), none, .load none (.t 19)⟩,
  ⟨(some 21), none, .mov (.t 3)⟩,
  ⟨(some 22), none, .call 0 [] (.c (.fn 49 [])) [(.t 20), (.t 21)]⟩,
  ⟨none, none, .store 3 (.t 2) (.t 22)⟩])
 .ret)))),
  [.cell 2 (some 3)], false, true, 23⟩
theorem co27 : compF Tryd.prog ⟨[], [(3, [3, 7, 8, 9], [1, 2])], [], [], [], [], 27, [], []⟩ false true Tryd.f27 = some ac27 := by kernel_rfl

/-- paideia/types.Fun -/
def ac28 : AF := ⟨(.seq (.reg [⟨(some 2), none, .alloc [(.int .i64 0), (.str []), (.sl .clip [])] false⟩])
 (.seq (.seq (.reg [⟨(some 5), none, .mov (.t 0)⟩,
  ⟨(some 6), none, .len 1 (.t 5)⟩,
  ⟨(some 7), none, .bin .eql (.t 6) (.c (.int .i64 0))⟩])
 (.cond (.t 7) (.seq (.reg [⟨(some 8), none, .call 0 [] (.c (.fn 49 [])) [(.c (.str [85, 110, 105, 116])), (.c (.sl .clip []))]⟩,
  ⟨none, none, .store 3 (.t 2) (.t 8)⟩])
 .ret)
 .skip))
 (.seq (.reg [⟨(some 9), none, .mov (.t 0)⟩,
  ⟨(some 10), none, .mov (.t 0)⟩,
  ⟨(some 11), none, .len 1 (.t 10)⟩,
  ⟨(some 12), none, .bin .sub (.t 11) (.c (.int .i64 1))⟩,
  ⟨(some 13), none, .iaddr 3 (.t 9) (.t 12)⟩,
  ⟨(some 14), none, .load (some 3) (.t 13)⟩,
  ⟨(some 3), none, .alloc [(.int .i64 0), (.str []), (.sl .clip [])] false⟩,
  ⟨none, none, .store 3 (.t 3) (.t 14)⟩])
 (.seq (.seq (.reg [⟨(some 15), none, .mov (.t 0)⟩,
  ⟨(some 16), none, .len 1 (.t 15)⟩,
  ⟨(some 17), none, .bin .sub (.t 16) (.c (.int .i64 2))⟩,
  ⟨(some 4), none, .mov (.t 17)⟩])
 (.block 0 (.loop [0, 4] [2, 3] (.seq (.seq (.reg [⟨(some 18), none, .mov (.t 4)⟩,
  ⟨(some 19), none, .bin .geq (.t 18) (.c (.int .i64 0))⟩])
 (.cond (.t 19) .skip
 (.exit 0)))
 (.seq (.block 1 (.reg [⟨(some 22), none, .mov (.t 0)⟩,
  ⟨(some 23), none, .mov (.t 4)⟩,
  ⟨(some 24), none, .iaddr 3 (.t 22) (.t 23)⟩,
  ⟨(some 25), none, .load (some 3) (.t 24)⟩,
  ⟨(some 26), none, .load (some 3) (.t 3)⟩,
  ⟨(some 27), none, .bslice [(.int .i64 0), (.str []), (.sl .clip [])] 2 [(0, (.t 25)), (1, (.t 26))]⟩,
  ⟨(some 28), none, .build [(.int .i64 0), (.str []), (.sl .clip [])] [(0, 1, (.c (.int .i64 3))), (2, 1, (.t 27))]⟩,
  ⟨none, none, .store 3 (.t 3) (.t 28)⟩]))
 (.reg [⟨(some 20), none, .mov (.t 4)⟩,
  ⟨(some 21), none, .bin .sub (.t 20) (.c (.int .i64 1))⟩,
  ⟨(some 4), none, .mov (.t 21)⟩]))))))
 (.seq (.reg [⟨(some 29), none, .load (some 3) (.t 3)⟩,
  ⟨none, none, .store 3 (.t 2) (.t 29)⟩])
 .ret))))),
  [.cell 2 (some 3)], false, true, 30⟩
theorem co28 : compF Tryd.prog ⟨[], [(5, [0, 4], [2, 3])], [], [], [], [], 28, [], []⟩ false true Tryd.f28 = some ac28 := by kernel_rfl

/-- paideia/paideiaref.SameTypes -/
def ac29 : AF := ⟨(.seq (.reg [⟨(some 4), none, .mov (.c (.bool false))⟩])
 (.seq (.seq (.reg [⟨(some 7), none, .mov (.t 0)⟩,
  ⟨(some 8), none, .len 1 (.t 7)⟩,
  ⟨(some 9), none, .mov (.t 1)⟩,
  ⟨(some 10), none, .len 1 (.t 9)⟩,
  ⟨(some 11), none, .bin .neq (.t 8) (.t 10)⟩])
 (.cond (.t 11) (.seq (.reg [⟨(some 4), none, .mov (.c (.bool false))⟩])
 .ret)
 .skip))
 (.seq (.seq (.reg [⟨(some 5), none, .mov (.c (.int .i64 0))⟩])
 (.block 0 (.loop [0, 1, 5] [] (.seq (.seq (.reg [⟨(some 12), none, .mov (.t 5)⟩,
  ⟨(some 13), none, .mov (.t 0)⟩,
  ⟨(some 14), none, .len 1 (.t 13)⟩,
  ⟨(some 15), none, .bin .lss (.t 12) (.t 14)⟩])
 (.cond (.t 15) .skip
 (.exit 0)))
 (.seq (.block 1 (.seq (.reg [⟨(some 18), none, .mov (.t 0)⟩,
  ⟨(some 19), none, .mov (.t 5)⟩,
  ⟨(some 20), none, .iaddr 3 (.t 18) (.t 19)⟩,
  ⟨(some 21), none, .load (some 3) (.t 20)⟩,
  ⟨(some 22), none, .mov (.t 1)⟩,
  ⟨(some 23), none, .mov (.t 5)⟩,
  ⟨(some 24), none, .iaddr 3 (.t 22) (.t 23)⟩,
  ⟨(some 25), none, .load (some 3) (.t 24)⟩,
  ⟨(some 26), none, .call 0 [] (.c (.fn 13 [])) [(.t 21), (.t 25)]⟩,
  ⟨(some 6), none, .mov (.t 26)⟩])
 (.seq (.reg [⟨(some 27), none, .mov (.t 6)⟩,
  ⟨(some 28), none, .not (.t 27)⟩])
 (.cond (.t 28) (.seq (.reg [⟨(some 4), none, .mov (.c (.bool false))⟩])
 .ret)
 .skip))))
 (.reg [⟨(some 16), none, .mov (.t 5)⟩,
  ⟨(some 17), none, .bin .add (.t 16) (.c (.int .i64 1))⟩,
  ⟨(some 5), none, .mov (.t 17)⟩]))))))
 (.seq (.reg [⟨(some 4), none, .mov (.c (.bool true))⟩])
 .ret)))),
  [.t 4], false, true, 29⟩
theorem co29 : compF Tryd.prog ⟨[], [(4, [0, 1, 5], [])], [], [], [], [], 29, [], []⟩ false true Tryd.f29 = some ac29 := by kernel_rfl

/-- paideia/types.All -/
def ac30 : AF := ⟨(.seq (.reg [⟨(some 1), none, .box (.t 0) 3 true⟩,
  ⟨(some 2), none, .mov (.c .nilfn)⟩])
 (.seq (.reg [⟨(some 3), none, .mkfn 50 [(.t 1)]⟩,
  ⟨(some 2), none, .mov (.t 3)⟩])
 .ret)),
  [.t 2], false, false, 4⟩
theorem co30 : compF Tryd.prog ⟨[1], [], [], [], [], [], 30, [], []⟩ false false Tryd.f30 = some ac30 := by kernel_rfl

/-- (*paideia/cons.Env).part -/
def ac31 : AF := ⟨(.seq (.reg [⟨(some 3), none, .box (.t 1) 3 false⟩,
  ⟨(some 4), none, .mov (.c .nili)⟩])
 (.seq (.seq (.reg [⟨(some 7), none, .faddr 0 (.t 3)⟩,
  ⟨(some 8), none, .load none (.t 7)⟩,
  ⟨(some 9), none, .bin .neq (.t 8) (.c (.int .i64 2))⟩])
 (.cond (.t 9) (.seq (.reg [⟨(some 4), none, .mov (.c .nili)⟩])
 .ret)
 .skip))
 (.seq (.reg [⟨(some 11), none, .mov (.t 0)⟩,
  ⟨(some 12), none, .faddr 1 (.t 3)⟩,
  ⟨(some 13), none, .load none (.t 12)⟩,
  ⟨(some 14), none, .call 0 [] (.c (.fn 15 [])) [(.t 11), (.t 13)]⟩,
  ⟨(some 10), none, .mov (.t 14)⟩,
  ⟨(some 15), none, .extract (.t 10) 0⟩,
  ⟨(some 16), none, .extract (.t 10) 1⟩,
  ⟨(some 5), none, .mov (.t 15)⟩,
  ⟨(some 6), none, .mov (.t 16)⟩])
 (.seq (.block 0 (.seq (.reg [⟨(some 18), none, .mov (.t 6)⟩,
  ⟨(some 19), none, .not (.t 18)⟩,
  ⟨(some 17), none, .mov (.t 19)⟩])
 (.cond (.t 17) (.seq (.reg [⟨(some 20), none, .stuck⟩,
  ⟨(some 4), none, .mov (.t 20)⟩])
 .ret)
 (.seq (.reg [⟨(some 22), none, .mov (.t 5)⟩,
  ⟨(some 23), none, .faddr 2 (.t 3)⟩,
  ⟨(some 24), none, .load none (.t 23)⟩,
  ⟨(some 25), none, .len 1 (.t 24)⟩,
  ⟨(some 26), none, .bin .neq (.t 22) (.t 25)⟩,
  ⟨(some 21), none, .mov (.t 26)⟩])
 (.cond (.t 21) (.seq (.reg [⟨(some 27), none, .stuck⟩,
  ⟨(some 4), none, .mov (.t 27)⟩])
 .ret)
 .skip)))))
 (.seq (.reg [⟨(some 4), none, .mov (.c .nili)⟩])
 .ret))))),
  [.t 4], false, false, 28⟩
theorem co31 : compF Tryd.prog ⟨[], [], [], [], [], [], 31, [], []⟩ false false Tryd.f31 = some ac31 := by kernel_rfl

/-- paideia/derive.Can -/
def ac32 : AF := ⟨(.seq (.reg [⟨(some 2), none, .mov (.c (.bool false))⟩])
 (.seq (.reg [⟨(some 3), none, .mov (.t 0)⟩,
  ⟨(some 4), none, .bin .eql (.t 3) (.c (.str [69, 113]))⟩,
  ⟨(some 5), none, .mov (.t 4)⟩,
  ⟨(some 6), (some (5, false)), .mov (.t 0)⟩,
  ⟨(some 7), (some (5, false)), .bin .eql (.t 6) (.c (.str [79, 114, 100]))⟩,
  ⟨(some 8), none, .pick (.t 5) (.c (.bool true)) (.t 7)⟩,
  ⟨(some 9), none, .mov (.t 8)⟩,
  ⟨(some 10), (some (9, false)), .mov (.t 0)⟩,
  ⟨(some 11), (some (9, false)), .bin .eql (.t 10) (.c (.str [83, 104, 111, 119]))⟩,
  ⟨(some 12), none, .pick (.t 9) (.c (.bool true)) (.t 11)⟩,
  ⟨(some 2), none, .mov (.t 12)⟩])
 .ret)),
  [.t 2], false, true, 13⟩
theorem co32 : compF Tryd.prog ⟨[], [], [], [], [], [], 32, [], []⟩ false true Tryd.f32 = some ac32 := by kernel_rfl

/-- (paideia/derive.at).eq -/
def ac33 : AF := ⟨(.seq (.reg [⟨(some 3), none, .box (.t 1) 5 false⟩,
  ⟨(some 4), none, .alloc [(.int .i64 0), (.int .i64 0), (.str []), (.int .i64 0), (.sl .clip []), (.sl .clip []), (.sl .clip [])] false⟩])
 (.seq (.reg [⟨(some 5), none, .mov (.c (.sl .clip []))⟩])
 (.seq (.seq (.reg [⟨(some 11), none, .faddr 2 (.t 3)⟩,
  ⟨(some 12), none, .load none (.t 11)⟩,
  ⟨(some 13), none, .len 1 (.t 12)⟩,
  ⟨(some 14), none, .mov (.c (.int .i64 0))⟩])
 (.block 0 (.loop [0, 5, 12, 13, 14] [3, 4] (.seq (.reg [⟨(some 15), none, .bin .lss (.t 14) (.t 13)⟩])
 (.seq (.cond (.t 15) .skip
 (.exit 0))
 (.seq (.block 1 (.seq (.reg [⟨(some 16), none, .iaddr 2 (.t 12) (.t 14)⟩,
  ⟨(some 17), none, .load (some 2) (.t 16)⟩,
  ⟨(some 7), none, .alloc [(.str []), (.sl .clip [])] false⟩,
  ⟨none, none, .store 2 (.t 7) (.t 17)⟩])
 (.seq (.reg [⟨(some 18), none, .faddr 1 (.t 7)⟩,
  ⟨(some 19), none, .load none (.t 18)⟩,
  ⟨(some 20), none, .len 1 (.t 19)⟩,
  ⟨(some 21), none, .call 0 [] (.c (.fn 52 [])) [(.c (.str [97])), (.t 20)]⟩,
  ⟨(some 22), none, .faddr 1 (.t 7)⟩,
  ⟨(some 23), none, .loadL none (.t 22)⟩,
  ⟨(some 24), none, .len 1 (.t 23)⟩,
  ⟨(some 25), none, .call 0 [] (.c (.fn 52 [])) [(.c (.str [98])), (.t 24)]⟩,
  ⟨(some 8), none, .mov (.t 21)⟩,
  ⟨(some 9), none, .mov (.t 25)⟩])
 (.seq (.reg [⟨(some 26), none, .mov (.t 0)⟩,
  ⟨(some 27), none, .mov (.t 0)⟩,
  ⟨(some 28), none, .mov (.t 8)⟩,
  ⟨(some 29), none, .mov (.t 9)⟩,
  ⟨(some 30), none, .call 0 [] (.c (.fn 54 [])) [(.t 27), (.t 28), (.t 29)]⟩,
  ⟨(some 31), none, .faddr 0 (.t 7)⟩,
  ⟨(some 32), none, .loadL none (.t 31)⟩,
  ⟨(some 33), none, .mov (.t 9)⟩,
  ⟨(some 34), none, .call 0 [] (.c (.fn 53 [])) [(.t 26), (.t 30), (.t 32), (.t 33)]⟩,
  ⟨(some 35), none, .bslice [(.str []), (.sl .clip []), (.int .i64 0), (.int .i64 0), (.str []), (.int .i64 0), (.sl .clip []), (.sl .clip []), (.sl .clip []), (.int .i64 0)] 1 [(0, (.t 34))]⟩,
  ⟨(some 10), none, .mov (.t 35)⟩])
 (.seq (.seq (.reg [⟨(some 36), none, .faddr 2 (.t 3)⟩,
  ⟨(some 37), none, .load none (.t 36)⟩,
  ⟨(some 38), none, .len 1 (.t 37)⟩,
  ⟨(some 39), none, .bin .gtr (.t 38) (.c (.int .i64 1))⟩])
 (.cond (.t 39) (.reg [⟨(some 40), none, .mov (.t 10)⟩,
  ⟨(some 41), none, .mov (.t 0)⟩,
  ⟨(some 42), none, .mov (.t 0)⟩,
  ⟨(some 43), none, .call 0 [] (.c (.fn 55 [])) [(.t 42), (.c (.str [70, 97, 108, 115, 101]))]⟩,
  ⟨(some 44), none, .call 0 [] (.c (.fn 53 [])) [(.t 41), (.t 43), (.c (.str [])), (.c (.sl .clip []))]⟩,
  ⟨(some 45), none, .bslice [(.str []), (.sl .clip []), (.int .i64 0), (.int .i64 0), (.str []), (.int .i64 0), (.sl .clip []), (.sl .clip []), (.sl .clip []), (.int .i64 0)] 1 [(0, (.t 44))]⟩,
  ⟨(some 46), none, .append 10 (.t 40) (.t 45)⟩,
  ⟨(some 10), none, .mov (.t 46)⟩])
 .skip))
 (.reg [⟨(some 47), none, .mov (.t 5)⟩,
  ⟨(some 48), none, .mov (.t 0)⟩,
  ⟨(some 49), none, .mov (.t 0)⟩,
  ⟨(some 50), none, .mov (.t 0)⟩,
  ⟨(some 51), none, .call 0 [] (.c (.fn 57 [])) [(.t 50), (.c (.str [121]))]⟩,
  ⟨(some 52), none, .mov (.t 10)⟩,
  ⟨(some 53), none, .call 0 [] (.c (.fn 56 [])) [(.t 49), (.t 51), (.t 52)]⟩,
  ⟨(some 54), none, .faddr 0 (.t 7)⟩,
  ⟨(some 55), none, .loadL none (.t 54)⟩,
  ⟨(some 56), none, .mov (.t 8)⟩,
  ⟨(some 57), none, .call 0 [] (.c (.fn 53 [])) [(.t 48), (.t 53), (.t 55), (.t 56)]⟩,
  ⟨(some 58), none, .bslice [(.str []), (.sl .clip []), (.int .i64 0), (.int .i64 0), (.str []), (.int .i64 0), (.sl .clip []), (.sl .clip []), (.sl .clip []), (.int .i64 0)] 1 [(0, (.t 57))]⟩,
  ⟨(some 59), none, .append 10 (.t 47) (.t 58)⟩,
  ⟨(some 5), none, .mov (.t 59)⟩]))))))
 (.reg [⟨(some 60), none, .bin .add (.t 14) (.c (.int .i64 1))⟩,
  ⟨(some 14), none, .mov (.t 60)⟩])))))))
 (.seq (.reg [⟨(some 61), none, .mov (.t 0)⟩,
  ⟨(some 62), none, .mov (.t 0)⟩,
  ⟨(some 63), none, .mov (.t 0)⟩,
  ⟨(some 64), none, .call 0 [] (.c (.fn 57 [])) [(.t 63), (.c (.str [120]))]⟩,
  ⟨(some 65), none, .mov (.t 5)⟩,
  ⟨(some 66), none, .call 0 [] (.c (.fn 56 [])) [(.t 62), (.t 64), (.t 65)]⟩,
  ⟨(some 67), none, .bslice [(.str [])] 2 [(0, (.c (.str [120]))), (1, (.c (.str [121])))]⟩,
  ⟨(some 68), none, .call 0 [] (.c (.fn 58 [])) [(.t 61), (.t 66), (.t 67)]⟩,
  ⟨none, none, .store 7 (.t 4) (.t 68)⟩])
 .ret)))),
  [.cell 4 (some 7)], false, true, 69⟩
theorem co33 : compF Tryd.prog ⟨[], [(3, [0, 5, 12, 13, 14], [3, 4])], [], [], [], [], 33, [], []⟩ false true Tryd.f33 = some ac33 := by kernel_rfl

/-- (paideia/derive.at).ord -/
def ac34 : AF := ⟨(.seq (.reg [⟨(some 3), none, .box (.t 1) 5 false⟩,
  ⟨(some 4), none, .alloc [(.int .i64 0), (.int .i64 0), (.str []), (.int .i64 0), (.sl .clip []), (.sl .clip []), (.sl .clip [])] false⟩])
 (.seq (.reg [⟨(some 5), none, .mov (.c (.sl .clip []))⟩])
 (.seq (.seq (.reg [⟨(some 13), none, .faddr 2 (.t 3)⟩,
  ⟨(some 14), none, .load none (.t 13)⟩,
  ⟨(some 15), none, .len 1 (.t 14)⟩,
  ⟨(some 16), none, .mov (.c (.int .i64 0))⟩])
 (.block 0 (.loop [0, 5, 14, 15, 16] [3, 4] (.seq (.reg [⟨(some 17), none, .bin .lss (.t 16) (.t 15)⟩])
 (.seq (.cond (.t 17) .skip
 (.exit 0))
 (.seq (.block 1 (.seq (.reg [⟨(some 18), none, .mov (.t 16)⟩,
  ⟨(some 19), none, .iaddr 2 (.t 14) (.t 16)⟩,
  ⟨(some 20), none, .load (some 2) (.t 19)⟩,
  ⟨(some 7), none, .alloc [(.str []), (.sl .clip [])] false⟩,
  ⟨(some 6), none, .mov (.t 18)⟩,
  ⟨none, none, .store 2 (.t 7) (.t 20)⟩])
 (.seq (.reg [⟨(some 8), none, .mov (.c (.sl .clip []))⟩])
 (.seq (.seq (.reg [⟨(some 21), none, .faddr 2 (.t 3)⟩,
  ⟨(some 22), none, .load none (.t 21)⟩,
  ⟨(some 23), none, .mov (.t 6)⟩,
  ⟨(some 24), none, .slice 2 (.t 22) none (some (.t 23)) none⟩,
  ⟨(some 25), none, .len 1 (.t 24)⟩,
  ⟨(some 26), none, .mov (.c (.int .i64 0))⟩])
 (.block 2 (.loop [0, 5, 6, 8, 14, 15, 16, 24, 25, 26] [3, 4, 7] (.seq (.reg [⟨(some 27), none, .bin .lss (.t 26) (.t 25)⟩])
 (.seq (.cond (.t 27) .skip
 (.exit 2))
 (.seq (.block 3 (.seq (.reg [⟨(some 28), none, .iaddr 2 (.t 24) (.t 26)⟩,
  ⟨(some 29), none, .load (some 2) (.t 28)⟩,
  ⟨(some 10), none, .alloc [(.str []), (.sl .clip [])] false⟩,
  ⟨none, none, .store 2 (.t 10) (.t 29)⟩])
 (.reg [⟨(some 30), none, .mov (.t 8)⟩,
  ⟨(some 31), none, .mov (.t 0)⟩,
  ⟨(some 32), none, .mov (.t 0)⟩,
  ⟨(some 33), none, .call 0 [] (.c (.fn 55 [])) [(.t 32), (.c (.str [71, 84]))]⟩,
  ⟨(some 34), none, .faddr 0 (.t 10)⟩,
  ⟨(some 35), none, .loadL none (.t 34)⟩,
  ⟨(some 36), none, .bslice [(.str [])] 1 [(0, (.c (.str [95])))]⟩,
  ⟨(some 37), none, .faddr 1 (.t 10)⟩,
  ⟨(some 38), none, .loadL none (.t 37)⟩,
  ⟨(some 39), none, .len 1 (.t 38)⟩,
  ⟨(some 40), none, .call 0 [] (.c (.fn 59 [])) [(.t 36), (.t 39)]⟩,
  ⟨(some 41), none, .call 0 [] (.c (.fn 53 [])) [(.t 31), (.t 33), (.t 35), (.t 40)]⟩,
  ⟨(some 42), none, .bslice [(.str []), (.sl .clip []), (.int .i64 0), (.int .i64 0), (.str []), (.int .i64 0), (.sl .clip []), (.sl .clip []), (.sl .clip []), (.int .i64 0)] 1 [(0, (.t 41))]⟩,
  ⟨(some 43), none, .append 10 (.t 30) (.t 42)⟩,
  ⟨(some 8), none, .mov (.t 43)⟩])))
 (.reg [⟨(some 44), none, .bin .add (.t 26) (.c (.int .i64 1))⟩,
  ⟨(some 26), none, .mov (.t 44)⟩])))))))
 (.seq (.reg [⟨(some 45), none, .faddr 1 (.t 7)⟩,
  ⟨(some 46), none, .load none (.t 45)⟩,
  ⟨(some 47), none, .len 1 (.t 46)⟩,
  ⟨(some 48), none, .call 0 [] (.c (.fn 52 [])) [(.c (.str [97])), (.t 47)]⟩,
  ⟨(some 49), none, .faddr 1 (.t 7)⟩,
  ⟨(some 50), none, .loadL none (.t 49)⟩,
  ⟨(some 51), none, .len 1 (.t 50)⟩,
  ⟨(some 52), none, .call 0 [] (.c (.fn 52 [])) [(.c (.str [98])), (.t 51)]⟩,
  ⟨(some 11), none, .mov (.t 48)⟩,
  ⟨(some 12), none, .mov (.t 52)⟩])
 (.seq (.reg [⟨(some 53), none, .mov (.t 8)⟩,
  ⟨(some 54), none, .mov (.t 0)⟩,
  ⟨(some 55), none, .mov (.t 0)⟩,
  ⟨(some 56), none, .mov (.t 11)⟩,
  ⟨(some 57), none, .mov (.t 12)⟩,
  ⟨(some 58), none, .call 0 [] (.c (.fn 60 [])) [(.t 55), (.t 56), (.t 57)]⟩,
  ⟨(some 59), none, .faddr 0 (.t 7)⟩,
  ⟨(some 60), none, .loadL none (.t 59)⟩,
  ⟨(some 61), none, .mov (.t 12)⟩,
  ⟨(some 62), none, .call 0 [] (.c (.fn 53 [])) [(.t 54), (.t 58), (.t 60), (.t 61)]⟩,
  ⟨(some 63), none, .bslice [(.str []), (.sl .clip []), (.int .i64 0), (.int .i64 0), (.str []), (.int .i64 0), (.sl .clip []), (.sl .clip []), (.sl .clip []), (.int .i64 0)] 1 [(0, (.t 62))]⟩,
  ⟨(some 64), none, .append 10 (.t 53) (.t 63)⟩,
  ⟨(some 8), none, .mov (.t 64)⟩])
 (.seq (.seq (.reg [⟨(some 65), none, .mov (.t 6)⟩,
  ⟨(some 66), none, .bin .add (.t 65) (.c (.int .i64 1))⟩,
  ⟨(some 67), none, .faddr 2 (.t 3)⟩,
  ⟨(some 68), none, .load none (.t 67)⟩,
  ⟨(some 69), none, .len 1 (.t 68)⟩,
  ⟨(some 70), none, .bin .lss (.t 66) (.t 69)⟩])
 (.cond (.t 70) (.reg [⟨(some 71), none, .mov (.t 8)⟩,
  ⟨(some 72), none, .mov (.t 0)⟩,
  ⟨(some 73), none, .mov (.t 0)⟩,
  ⟨(some 74), none, .call 0 [] (.c (.fn 55 [])) [(.t 73), (.c (.str [76, 84]))]⟩,
  ⟨(some 75), none, .call 0 [] (.c (.fn 53 [])) [(.t 72), (.t 74), (.c (.str [])), (.c (.sl .clip []))]⟩,
  ⟨(some 76), none, .bslice [(.str []), (.sl .clip []), (.int .i64 0), (.int .i64 0), (.str []), (.int .i64 0), (.sl .clip []), (.sl .clip []), (.sl .clip []), (.int .i64 0)] 1 [(0, (.t 75))]⟩,
  ⟨(some 77), none, .append 10 (.t 71) (.t 76)⟩,
  ⟨(some 8), none, .mov (.t 77)⟩])
 .skip))
 (.reg [⟨(some 78), none, .mov (.t 5)⟩,
  ⟨(some 79), none, .mov (.t 0)⟩,
  ⟨(some 80), none, .mov (.t 0)⟩,
  ⟨(some 81), none, .mov (.t 0)⟩,
  ⟨(some 82), none, .call 0 [] (.c (.fn 57 [])) [(.t 81), (.c (.str [121]))]⟩,
  ⟨(some 83), none, .mov (.t 8)⟩,
  ⟨(some 84), none, .call 0 [] (.c (.fn 56 [])) [(.t 80), (.t 82), (.t 83)]⟩,
  ⟨(some 85), none, .faddr 0 (.t 7)⟩,
  ⟨(some 86), none, .loadL none (.t 85)⟩,
  ⟨(some 87), none, .mov (.t 11)⟩,
  ⟨(some 88), none, .call 0 [] (.c (.fn 53 [])) [(.t 79), (.t 84), (.t 86), (.t 87)]⟩,
  ⟨(some 89), none, .bslice [(.str []), (.sl .clip []), (.int .i64 0), (.int .i64 0), (.str []), (.int .i64 0), (.sl .clip []), (.sl .clip []), (.sl .clip []), (.int .i64 0)] 1 [(0, (.t 88))]⟩,
  ⟨(some 90), none, .append 10 (.t 78) (.t 89)⟩,
  ⟨(some 5), none, .mov (.t 90)⟩]))))))))
 (.reg [⟨(some 91), none, .bin .add (.t 16) (.c (.int .i64 1))⟩,
  ⟨(some 16), none, .mov (.t 91)⟩])))))))
 (.seq (.reg [⟨(some 92), none, .mov (.t 0)⟩,
  ⟨(some 93), none, .mov (.t 0)⟩,
  ⟨(some 94), none, .mov (.t 0)⟩,
  ⟨(some 95), none, .call 0 [] (.c (.fn 57 [])) [(.t 94), (.c (.str [120]))]⟩,
  ⟨(some 96), none, .mov (.t 5)⟩,
  ⟨(some 97), none, .call 0 [] (.c (.fn 56 [])) [(.t 93), (.t 95), (.t 96)]⟩,
  ⟨(some 98), none, .bslice [(.str [])] 2 [(0, (.c (.str [120]))), (1, (.c (.str [121])))]⟩,
  ⟨(some 99), none, .call 0 [] (.c (.fn 58 [])) [(.t 92), (.t 97), (.t 98)]⟩,
  ⟨none, none, .store 7 (.t 4) (.t 99)⟩])
 .ret)))),
  [.cell 4 (some 7)], false, true, 100⟩
theorem co34 : compF Tryd.prog ⟨[], [(3, [0, 5, 14, 15, 16], [3, 4]), (7, [0, 5, 6, 8, 14, 15, 16, 24, 25, 26], [3, 4, 7])], [], [], [], [], 34, [], []⟩ false true Tryd.f34 = some ac34 := by kernel_rfl

/-- (paideia/derive.at).show -/
def ac35 : AF := ⟨(.seq (.reg [⟨(some 3), none, .box (.t 1) 5 false⟩,
  ⟨(some 4), none, .alloc [(.int .i64 0), (.int .i64 0), (.str []), (.int .i64 0), (.sl .clip []), (.sl .clip []), (.sl .clip [])] false⟩])
 (.seq (.reg [⟨(some 5), none, .mov (.c (.sl .clip []))⟩])
 (.seq (.seq (.reg [⟨(some 10), none, .faddr 2 (.t 3)⟩,
  ⟨(some 11), none, .load none (.t 10)⟩,
  ⟨(some 12), none, .len 1 (.t 11)⟩,
  ⟨(some 13), none, .mov (.c (.int .i64 0))⟩])
 (.block 0 (.loop [0, 5, 11, 12, 13] [4] (.seq (.reg [⟨(some 14), none, .bin .lss (.t 13) (.t 12)⟩])
 (.seq (.cond (.t 14) .skip
 (.exit 0))
 (.seq (.block 1 (.seq (.reg [⟨(some 15), none, .iaddr 2 (.t 11) (.t 13)⟩,
  ⟨(some 16), none, .load (some 2) (.t 15)⟩,
  ⟨(some 7), none, .alloc [(.str []), (.sl .clip [])] false⟩,
  ⟨none, none, .store 2 (.t 7) (.t 16)⟩])
 (.seq (.reg [⟨(some 17), none, .faddr 1 (.t 7)⟩,
  ⟨(some 18), none, .load none (.t 17)⟩,
  ⟨(some 19), none, .len 1 (.t 18)⟩,
  ⟨(some 20), none, .call 0 [] (.c (.fn 52 [])) [(.c (.str [97])), (.t 19)]⟩,
  ⟨(some 8), none, .mov (.t 20)⟩])
 (.seq (.reg [⟨(some 21), none, .mov (.t 0)⟩,
  ⟨(some 22), none, .faddr 0 (.t 7)⟩,
  ⟨(some 23), none, .load none (.t 22)⟩,
  ⟨(some 24), none, .call 0 [] (.c (.fn 61 [])) [(.t 21), (.t 23)]⟩,
  ⟨(some 9), none, .alloc [(.int .i64 0), (.int .i64 0), (.str []), (.int .i64 0), (.sl .clip []), (.sl .clip []), (.sl .clip [])] false⟩,
  ⟨none, none, .store 7 (.t 9) (.t 24)⟩])
 (.seq (.seq (.reg [⟨(some 25), none, .mov (.t 8)⟩,
  ⟨(some 26), none, .len 1 (.t 25)⟩,
  ⟨(some 27), none, .bin .gtr (.t 26) (.c (.int .i64 0))⟩])
 (.cond (.t 27) (.reg [⟨(some 28), none, .mov (.t 0)⟩,
  ⟨(some 29), none, .mov (.t 0)⟩,
  ⟨(some 30), none, .faddr 0 (.t 7)⟩,
  ⟨(some 31), none, .load none (.t 30)⟩,
  ⟨(some 32), none, .bin .add (.c (.str [40])) (.t 31)⟩,
  ⟨(some 33), none, .bin .add (.t 32) (.c (.str [32]))⟩,
  ⟨(some 34), none, .call 0 [] (.c (.fn 61 [])) [(.t 29), (.t 33)]⟩,
  ⟨(some 35), none, .mov (.t 0)⟩,
  ⟨(some 36), none, .mov (.t 8)⟩,
  ⟨(some 37), none, .call 0 [] (.c (.fn 63 [])) [(.t 35), (.t 36)]⟩,
  ⟨(some 38), none, .call 0 [] (.c (.fn 62 [])) [(.t 28), (.t 34), (.t 37)]⟩,
  ⟨none, none, .store 7 (.t 9) (.t 38)⟩])
 .skip))
 (.reg [⟨(some 39), none, .mov (.t 5)⟩,
  ⟨(some 40), none, .mov (.t 0)⟩,
  ⟨(some 41), none, .load (some 7) (.t 9)⟩,
  ⟨(some 42), none, .faddr 0 (.t 7)⟩,
  ⟨(some 43), none, .load none (.t 42)⟩,
  ⟨(some 44), none, .mov (.t 8)⟩,
  ⟨(some 45), none, .call 0 [] (.c (.fn 53 [])) [(.t 40), (.t 41), (.t 43), (.t 44)]⟩,
  ⟨(some 46), none, .bslice [(.str []), (.sl .clip []), (.int .i64 0), (.int .i64 0), (.str []), (.int .i64 0), (.sl .clip []), (.sl .clip []), (.sl .clip []), (.int .i64 0)] 1 [(0, (.t 45))]⟩,
  ⟨(some 47), none, .append 10 (.t 39) (.t 46)⟩,
  ⟨(some 5), none, .mov (.t 47)⟩]))))))
 (.reg [⟨(some 48), none, .bin .add (.t 13) (.c (.int .i64 1))⟩,
  ⟨(some 13), none, .mov (.t 48)⟩])))))))
 (.seq (.reg [⟨(some 49), none, .mov (.t 0)⟩,
  ⟨(some 50), none, .mov (.t 0)⟩,
  ⟨(some 51), none, .mov (.t 0)⟩,
  ⟨(some 52), none, .call 0 [] (.c (.fn 57 [])) [(.t 51), (.c (.str [120]))]⟩,
  ⟨(some 53), none, .mov (.t 5)⟩,
  ⟨(some 54), none, .call 0 [] (.c (.fn 56 [])) [(.t 50), (.t 52), (.t 53)]⟩,
  ⟨(some 55), none, .bslice [(.str [])] 1 [(0, (.c (.str [120])))]⟩,
  ⟨(some 56), none, .call 0 [] (.c (.fn 58 [])) [(.t 49), (.t 54), (.t 55)]⟩,
  ⟨none, none, .store 7 (.t 4) (.t 56)⟩])
 .ret)))),
  [.cell 4 (some 7)], false, true, 57⟩
theorem co35 : compF Tryd.prog ⟨[], [(3, [0, 5, 11, 12, 13], [4])], [], [], [], [], 35, [], []⟩ false true Tryd.f35 = some ac35 := by kernel_rfl

/-- slices.Clone[[]string,string] -/
def ac36 : AF := ⟨(.seq (.reg [⟨(some 2), none, .mov (.c (.sl .clip []))⟩])
 (.seq (.seq (.reg [⟨(some 3), none, .mov (.t 0)⟩,
  ⟨(some 4), none, .nilsl false (.t 3)⟩])
 (.cond (.t 4) (.seq (.reg [⟨(some 2), none, .mov (.c (.sl .clip []))⟩])
 .ret)
 .skip))
 (.seq (.reg [⟨(some 5), none, .bslice [(.str [])] 0 []⟩,
  ⟨(some 6), none, .mov (.t 0)⟩,
  ⟨(some 7), none, .append 1 (.t 5) (.t 6)⟩,
  ⟨(some 2), none, .mov (.t 7)⟩])
 .ret))),
  [.t 2], false, true, 8⟩
theorem co36 : compF Tryd.prog ⟨[], [], [], [], [], [], 36, [], []⟩ false true Tryd.f36 = some ac36 := by kernel_rfl

/-- paideia/types.Var -/
def ac37 : AF := ⟨(.seq (.reg [⟨(some 2), none, .alloc [(.int .i64 0), (.str []), (.sl .clip [])] false⟩])
 (.seq (.reg [⟨(some 3), none, .mov (.t 0)⟩,
  ⟨(some 4), none, .build [(.int .i64 0), (.str []), (.sl .clip [])] [(0, 1, (.c (.int .i64 1))), (1, 1, (.t 3))]⟩,
  ⟨none, none, .store 3 (.t 2) (.t 4)⟩])
 .ret)),
  [.cell 2 (some 3)], false, true, 5⟩
theorem co37 : compF Tryd.prog ⟨[], [], [], [], [], [], 37, [], []⟩ false true Tryd.f37 = some ac37 := by kernel_rfl

/-- paideia/printer.Name -/
def ac38 : AF := ⟨(.seq (.reg [⟨(some 2), none, .mov (.c (.str []))⟩])
 (.seq (.seq (.reg [⟨(some 3), none, .mov (.t 0)⟩,
  ⟨(some 4), none, .call 0 [] (.c (.fn 64 [])) [(.t 3)]⟩])
 (.cond (.t 4) (.seq (.reg [⟨(some 5), none, .mov (.t 0)⟩,
  ⟨(some 6), none, .bin .add (.c (.str [40])) (.t 5)⟩,
  ⟨(some 7), none, .bin .add (.t 6) (.c (.str [41]))⟩,
  ⟨(some 2), none, .mov (.t 7)⟩])
 .ret)
 .skip))
 (.seq (.reg [⟨(some 8), none, .mov (.t 0)⟩,
  ⟨(some 2), none, .mov (.t 8)⟩])
 .ret))),
  [.t 2], false, true, 9⟩
theorem co38 : compF Tryd.prog ⟨[], [], [], [], [], [], 38, [], []⟩ false true Tryd.f38 = some ac38 := by kernel_rfl

/-- strconv.FormatInt -/
def ac39 : AF := ⟨(.seq (.reg [⟨(some 4), none, .mov (.c (.str []))⟩])
 (.seq (.reg [⟨(some 5), none, .mov (.t 0)⟩,
  ⟨(some 6), none, .mov (.t 1)⟩,
  ⟨(some 7), none, .call 0 [] (.c (.fn 65 [])) [(.t 5), (.t 6)]⟩,
  ⟨(some 4), none, .mov (.t 7)⟩])
 .ret)),
  [.t 4], false, true, 8⟩
theorem co39 : compF Tryd.prog ⟨[], [], [], [], [], [], 39, [], []⟩ false true Tryd.f39 = some ac39 := by kernel_rfl

/-- paideia/printer.Letter -/
def ac40 : AF := ⟨(.seq (.reg [⟨(some 2), none, .mov (.c (.str []))⟩])
 (.seq (.block 0 (.seq (.reg [⟨(some 4), none, .mov (.t 0)⟩,
  ⟨(some 5), none, .bin .eql (.t 4) (.c (.int .i64 10))⟩,
  ⟨(some 3), none, .mov (.t 5)⟩])
 (.cond (.t 3) (.seq (.reg [⟨(some 2), none, .mov (.c (.str [39, 92, 110, 39]))⟩])
 .ret)
 (.seq (.reg [⟨(some 7), none, .mov (.t 0)⟩,
  ⟨(some 8), none, .bin .eql (.t 7) (.c (.int .i64 39))⟩,
  ⟨(some 9), none, .mov (.t 8)⟩,
  ⟨(some 10), (some (9, false)), .mov (.t 0)⟩,
  ⟨(some 11), (some (9, false)), .bin .eql (.t 10) (.c (.int .i64 92))⟩,
  ⟨(some 12), none, .pick (.t 9) (.c (.bool true)) (.t 11)⟩,
  ⟨(some 6), none, .mov (.t 12)⟩])
 (.cond (.t 6) (.seq (.reg [⟨(some 13), none, .mov (.t 0)⟩,
  ⟨(some 14), none, .conv (.int .i32) (.t 13)⟩,
  ⟨(some 15), none, .conv .rune (.t 14)⟩,
  ⟨(some 16), none, .bin .add (.c (.str [39, 92])) (.t 15)⟩,
  ⟨(some 17), none, .bin .add (.t 16) (.c (.str [39]))⟩,
  ⟨(some 2), none, .mov (.t 17)⟩])
 .ret)
 (.seq (.reg [⟨(some 19), none, .mov (.t 0)⟩,
  ⟨(some 20), none, .bin .geq (.t 19) (.c (.int .i64 0))⟩,
  ⟨(some 21), none, .mov (.t 20)⟩,
  ⟨(some 22), (some (21, true)), .mov (.t 0)⟩,
  ⟨(some 23), (some (21, true)), .bin .leq (.t 22) (.c (.int .i64 126))⟩,
  ⟨(some 24), none, .pick (.t 21) (.t 23) (.c (.bool false))⟩,
  ⟨(some 25), none, .mov (.t 24)⟩,
  ⟨(some 26), (some (25, true)), .mov (.t 0)⟩,
  ⟨(some 27), (some (25, true)), .conv (.int .u8) (.t 26)⟩,
  ⟨(some 28), (some (25, true)), .call 0 [] (.c (.fn 66 [])) [(.t 27)]⟩,
  ⟨(some 29), none, .pick (.t 25) (.t 28) (.c (.bool false))⟩,
  ⟨(some 18), none, .mov (.t 29)⟩])
 (.cond (.t 18) (.seq (.reg [⟨(some 30), none, .mov (.t 0)⟩,
  ⟨(some 31), none, .conv (.int .i32) (.t 30)⟩,
  ⟨(some 32), none, .conv .rune (.t 31)⟩,
  ⟨(some 33), none, .bin .add (.c (.str [39])) (.t 32)⟩,
  ⟨(some 34), none, .bin .add (.t 33) (.c (.str [39]))⟩,
  ⟨(some 2), none, .mov (.t 34)⟩])
 .ret)
 .skip)))))))
 (.seq (.reg [⟨(some 2), none, .mov (.c (.str [39, 63, 39]))⟩])
 .ret))),
  [.t 2], false, true, 35⟩
theorem co40 : compF Tryd.prog ⟨[], [], [], [], [], [], 40, [], []⟩ false true Tryd.f40 = some ac40 := by kernel_rfl

/-- paideia/printer.sub -/
def ac41 : AF := ⟨(.seq (.reg [⟨(some 2), none, .box (.t 0) 7 false⟩,
  ⟨(some 4), none, .alloc [(.int .i64 0), (.int .i64 0), (.str []), (.int .i64 0), (.sl .clip []), (.sl .clip []), (.sl .clip [])] false⟩])
 (.seq (.seq (.reg [⟨(some 5), none, .mov (.t 1)⟩,
  ⟨(some 6), none, .faddr 4 (.t 2)⟩,
  ⟨(some 7), none, .load none (.t 6)⟩,
  ⟨(some 8), none, .len 1 (.t 7)⟩,
  ⟨(some 9), none, .bin .lss (.t 5) (.t 8)⟩])
 (.cond (.t 9) (.seq (.reg [⟨(some 10), none, .faddr 4 (.t 2)⟩,
  ⟨(some 11), none, .load none (.t 10)⟩,
  ⟨(some 12), none, .mov (.t 1)⟩,
  ⟨(some 13), none, .iaddr 7 (.t 11) (.t 12)⟩,
  ⟨(some 14), none, .load (some 7) (.t 13)⟩,
  ⟨none, none, .store 7 (.t 4) (.t 14)⟩])
 .ret)
 .skip))
 (.seq (.reg [⟨(some 15), none, .build [(.int .i64 0), (.int .i64 0), (.str []), (.int .i64 0), (.sl .clip []), (.sl .clip []), (.sl .clip [])] []⟩,
  ⟨none, none, .store 7 (.t 4) (.t 15)⟩])
 .ret))),
  [.cell 4 (some 7)], false, true, 16⟩
theorem co41 : compF Tryd.prog ⟨[], [], [], [], [], [], 41, [], []⟩ false true Tryd.f41 = some ac41 := by kernel_rfl

/-- paideia/printer.Braces -/
def ac42 : AF := ⟨(.seq (.reg [⟨(some 2), none, .mov (.c (.str []))⟩])
 (.seq (.seq (.reg [⟨(some 3), none, .mov (.t 0)⟩,
  ⟨(some 4), none, .bin .eql (.t 3) (.c (.str []))⟩])
 (.cond (.t 4) (.seq (.reg [⟨(some 2), none, .mov (.c (.str [123, 32, 125]))⟩])
 .ret)
 .skip))
 (.seq (.reg [⟨(some 5), none, .mov (.t 0)⟩,
  ⟨(some 6), none, .bin .add (.c (.str [123, 32])) (.t 5)⟩,
  ⟨(some 7), none, .bin .add (.t 6) (.c (.str [32, 125]))⟩,
  ⟨(some 2), none, .mov (.t 7)⟩])
 .ret))),
  [.t 2], false, true, 8⟩
theorem co42 : compF Tryd.prog ⟨[], [], [], [], [], [], 42, [], []⟩ false true Tryd.f42 = some ac42 := by kernel_rfl

/-- paideia/printer.joined[paideia/api.Bind] -/
def ac43 : AF := ⟨(.seq (.reg [⟨(some 6), none, .mov (.c (.str []))⟩])
 (.seq (.reg [⟨(some 7), none, .mov (.c (.sl .clip []))⟩])
 (.seq (.seq (.reg [⟨(some 10), none, .mov (.t 0)⟩,
  ⟨(some 11), none, .len 1 (.t 10)⟩,
  ⟨(some 12), none, .mov (.c (.int .i64 0))⟩])
 (.block 0 (.loop [1, 2, 7, 10, 11, 12] [] (.seq (.reg [⟨(some 13), none, .bin .lss (.t 12) (.t 11)⟩])
 (.seq (.cond (.t 13) .skip
 (.exit 0))
 (.seq (.block 1 (.seq (.reg [⟨(some 14), none, .iaddr 15 (.t 10) (.t 12)⟩,
  ⟨(some 15), none, .load (some 15) (.t 14)⟩,
  ⟨(some 9), none, .alloc [(.str []), (.bool false), (.sl .clip []), (.sl .clip []), (.int .i64 0), (.str []), (.sl .clip []), (.int .i64 0), (.int .i64 0), (.str []), (.int .i64 0), (.sl .clip []), (.sl .clip []), (.sl .clip []), (.int .i64 0)] false⟩,
  ⟨none, none, .store 15 (.t 9) (.t 15)⟩])
 (.reg [⟨(some 16), none, .mov (.t 7)⟩,
  ⟨(some 17), none, .mov (.t 2)⟩,
  ⟨(some 18), none, .load (some 15) (.t 9)⟩,
  ⟨(some 19), none, .call 0 [] (.t 17) [(.t 18)]⟩,
  ⟨(some 20), none, .bslice [(.str [])] 1 [(0, (.t 19))]⟩,
  ⟨(some 21), none, .append 1 (.t 16) (.t 20)⟩,
  ⟨(some 7), none, .mov (.t 21)⟩])))
 (.reg [⟨(some 22), none, .bin .add (.t 12) (.c (.int .i64 1))⟩,
  ⟨(some 12), none, .mov (.t 22)⟩])))))))
 (.seq (.reg [⟨(some 23), none, .mov (.t 7)⟩,
  ⟨(some 24), none, .mov (.t 1)⟩,
  ⟨(some 25), none, .call 0 [] (.c (.fn 67 [])) [(.t 23), (.t 24)]⟩,
  ⟨(some 6), none, .mov (.t 25)⟩])
 .ret)))),
  [.t 6], false, true, 26⟩
theorem co43 : compF Tryd.prog ⟨[], [(3, [1, 2, 7, 10, 11, 12], [])], [], [], [], [], 43, [], []⟩ false true Tryd.f43 = some ac43 := by kernel_rfl

/-- paideia/printer.Bind -/
def ac44 : AF := ⟨(.seq (.reg [⟨(some 1), none, .box (.t 0) 15 false⟩,
  ⟨(some 2), none, .mov (.c (.str []))⟩])
 (.seq (.reg [⟨(some 4), none, .faddr 0 (.t 1)⟩,
  ⟨(some 5), none, .load none (.t 4)⟩,
  ⟨(some 6), none, .call 0 [] (.c (.fn 38 [])) [(.t 5)]⟩,
  ⟨(some 7), none, .bin .add (.t 6) (.c (.str [32, 61, 32]))⟩,
  ⟨(some 8), none, .faddr 7 (.t 1)⟩,
  ⟨(some 9), none, .loadL (some 7) (.t 8)⟩,
  ⟨(some 10), none, .call 0 [] (.c (.fn 20 [])) [(.t 9)]⟩,
  ⟨(some 11), none, .bin .add (.t 7) (.t 10)⟩,
  ⟨(some 3), none, .mov (.t 11)⟩])
 (.seq (.seq (.reg [⟨(some 12), none, .faddr 1 (.t 1)⟩,
  ⟨(some 13), none, .load none (.t 12)⟩])
 (.cond (.t 13) (.seq (.reg [⟨(some 14), none, .faddr 0 (.t 1)⟩,
  ⟨(some 15), none, .load none (.t 14)⟩,
  ⟨(some 16), none, .call 0 [] (.c (.fn 38 [])) [(.t 15)]⟩,
  ⟨(some 17), none, .bin .add (.t 16) (.c (.str [32, 58, 58, 32]))⟩,
  ⟨(some 18), none, .faddr 2 (.t 1)⟩,
  ⟨(some 19), none, .loadL (some 5) (.t 18)⟩,
  ⟨(some 20), none, .call 0 [] (.c (.fn 68 [])) [(.t 19)]⟩,
  ⟨(some 21), none, .bin .add (.t 17) (.t 20)⟩,
  ⟨(some 22), none, .bin .add (.t 21) (.c (.str [59, 32]))⟩,
  ⟨(some 23), none, .mov (.t 3)⟩,
  ⟨(some 24), none, .bin .add (.t 22) (.t 23)⟩,
  ⟨(some 2), none, .mov (.t 24)⟩])
 .ret)
 .skip))
 (.seq (.reg [⟨(some 25), none, .mov (.t 3)⟩,
  ⟨(some 2), none, .mov (.t 25)⟩])
 .ret)))),
  [.t 2], false, true, 26⟩
theorem co44 : compF Tryd.prog ⟨[], [], [], [], [], [], 44, [], []⟩ false true Tryd.f44 = some ac44 := by kernel_rfl

/-- paideia/printer.joined[paideia/api.Alt] -/
def ac45 : AF := ⟨(.seq (.reg [⟨(some 6), none, .mov (.c (.str []))⟩])
 (.seq (.reg [⟨(some 7), none, .mov (.c (.sl .clip []))⟩])
 (.seq (.seq (.reg [⟨(some 10), none, .mov (.t 0)⟩,
  ⟨(some 11), none, .len 1 (.t 10)⟩,
  ⟨(some 12), none, .mov (.c (.int .i64 0))⟩])
 (.block 0 (.loop [1, 2, 7, 10, 11, 12] [] (.seq (.reg [⟨(some 13), none, .bin .lss (.t 12) (.t 11)⟩])
 (.seq (.cond (.t 13) .skip
 (.exit 0))
 (.seq (.block 1 (.seq (.reg [⟨(some 14), none, .iaddr 10 (.t 10) (.t 12)⟩,
  ⟨(some 15), none, .load (some 10) (.t 14)⟩,
  ⟨(some 9), none, .alloc [(.str []), (.sl .clip []), (.int .i64 0), (.int .i64 0), (.str []), (.int .i64 0), (.sl .clip []), (.sl .clip []), (.sl .clip []), (.int .i64 0)] false⟩,
  ⟨none, none, .store 10 (.t 9) (.t 15)⟩])
 (.reg [⟨(some 16), none, .mov (.t 7)⟩,
  ⟨(some 17), none, .mov (.t 2)⟩,
  ⟨(some 18), none, .load (some 10) (.t 9)⟩,
  ⟨(some 19), none, .call 0 [] (.t 17) [(.t 18)]⟩,
  ⟨(some 20), none, .bslice [(.str [])] 1 [(0, (.t 19))]⟩,
  ⟨(some 21), none, .append 1 (.t 16) (.t 20)⟩,
  ⟨(some 7), none, .mov (.t 21)⟩])))
 (.reg [⟨(some 22), none, .bin .add (.t 12) (.c (.int .i64 1))⟩,
  ⟨(some 12), none, .mov (.t 22)⟩])))))))
 (.seq (.reg [⟨(some 23), none, .mov (.t 7)⟩,
  ⟨(some 24), none, .mov (.t 1)⟩,
  ⟨(some 25), none, .call 0 [] (.c (.fn 67 [])) [(.t 23), (.t 24)]⟩,
  ⟨(some 6), none, .mov (.t 25)⟩])
 .ret)))),
  [.t 6], false, true, 26⟩
theorem co45 : compF Tryd.prog ⟨[], [(3, [1, 2, 7, 10, 11, 12], [])], [], [], [], [], 45, [], []⟩ false true Tryd.f45 = some ac45 := by kernel_rfl

/-- paideia/printer.alt -/
def ac46 : AF := ⟨(.seq (.reg [⟨(some 1), none, .box (.t 0) 10 false⟩,
  ⟨(some 2), none, .mov (.c (.str []))⟩])
 (.seq (.reg [⟨(some 4), none, .faddr 1 (.t 1)⟩,
  ⟨(some 5), none, .load none (.t 4)⟩,
  ⟨(some 3), none, .mov (.t 5)⟩])
 (.seq (.seq (.reg [⟨(some 6), none, .faddr 0 (.t 1)⟩,
  ⟨(some 7), none, .load none (.t 6)⟩,
  ⟨(some 8), none, .bin .neq (.t 7) (.c (.str []))⟩])
 (.cond (.t 8) (.reg [⟨(some 9), none, .faddr 0 (.t 1)⟩,
  ⟨(some 10), none, .load none (.t 9)⟩,
  ⟨(some 11), none, .bslice [(.str [])] 1 [(0, (.t 10))]⟩,
  ⟨(some 12), none, .faddr 1 (.t 1)⟩,
  ⟨(some 13), none, .load none (.t 12)⟩,
  ⟨(some 14), none, .append 1 (.t 11) (.t 13)⟩,
  ⟨(some 3), none, .mov (.t 14)⟩])
 .skip))
 (.seq (.seq (.reg [⟨(some 15), none, .mov (.t 3)⟩,
  ⟨(some 16), none, .len 1 (.t 15)⟩,
  ⟨(some 17), none, .bin .eql (.t 16) (.c (.int .i64 0))⟩])
 (.cond (.t 17) (.reg [⟨(some 18), none, .bslice [(.str [])] 1 [(0, (.c (.str [95])))]⟩,
  ⟨(some 3), none, .mov (.t 18)⟩])
 .skip))
 (.seq (.reg [⟨(some 19), none, .mov (.t 3)⟩,
  ⟨(some 20), none, .call 0 [] (.c (.fn 67 [])) [(.t 19), (.c (.str [32]))]⟩,
  ⟨(some 21), none, .bin .add (.t 20) (.c (.str [32, 45, 62, 32]))⟩,
  ⟨(some 22), none, .faddr 2 (.t 1)⟩,
  ⟨(some 23), none, .loadL (some 7) (.t 22)⟩,
  ⟨(some 24), none, .call 0 [] (.c (.fn 20 [])) [(.t 23)]⟩,
  ⟨(some 25), none, .bin .add (.t 21) (.t 24)⟩,
  ⟨(some 2), none, .mov (.t 25)⟩])
 .ret))))),
  [.t 2], false, true, 26⟩
theorem co46 : compF Tryd.prog ⟨[], [], [], [], [], [], 46, [], []⟩ false true Tryd.f46 = some ac46 := by kernel_rfl

/-- paideia/types.Clone -/
def ac47 : AF := ⟨(.seq (.reg [⟨(some 1), none, .box (.t 0) 3 false⟩,
  ⟨(some 2), none, .alloc [(.int .i64 0), (.str []), (.sl .clip [])] false⟩])
 (.seq (.reg [⟨(some 6), none, .faddr 0 (.t 1)⟩,
  ⟨(some 7), none, .load none (.t 6)⟩,
  ⟨(some 8), none, .faddr 1 (.t 1)⟩,
  ⟨(some 9), none, .load none (.t 8)⟩,
  ⟨(some 10), none, .build [(.int .i64 0), (.str []), (.sl .clip [])] [(0, 1, (.t 7)), (1, 1, (.t 9))]⟩,
  ⟨(some 3), none, .alloc [(.int .i64 0), (.str []), (.sl .clip [])] false⟩,
  ⟨none, none, .store 3 (.t 3) (.t 10)⟩])
 (.seq (.seq (.reg [⟨(some 11), none, .faddr 2 (.t 1)⟩,
  ⟨(some 12), none, .load none (.t 11)⟩,
  ⟨(some 13), none, .len 1 (.t 12)⟩,
  ⟨(some 14), none, .mov (.c (.int .i64 0))⟩])
 (.block 0 (.loop [12, 13, 14] [2, 3] (.seq (.reg [⟨(some 15), none, .bin .lss (.t 14) (.t 13)⟩])
 (.seq (.cond (.t 15) .skip
 (.exit 0))
 (.seq (.block 1 (.seq (.reg [⟨(some 16), none, .iaddr 3 (.t 12) (.t 14)⟩,
  ⟨(some 17), none, .load (some 3) (.t 16)⟩,
  ⟨(some 5), none, .alloc [(.int .i64 0), (.str []), (.sl .clip [])] false⟩,
  ⟨none, none, .store 3 (.t 5) (.t 17)⟩])
 (.reg [⟨(some 18), none, .faddr 2 (.t 3)⟩,
  ⟨(some 19), none, .loadL none (.t 18)⟩,
  ⟨(some 20), none, .load (some 3) (.t 5)⟩,
  ⟨(some 21), none, .call 0 [] (.c (.fn 47 [])) [(.t 20)]⟩,
  ⟨(some 22), none, .bslice [(.int .i64 0), (.str []), (.sl .clip [])] 1 [(0, (.t 21))]⟩,
  ⟨(some 23), none, .append 3 (.t 19) (.t 22)⟩,
  ⟨(some 24), none, .faddr 2 (.t 3)⟩,
  ⟨none, none, .store 1 (.t 24) (.t 23)⟩])))
 (.reg [⟨(some 25), none, .bin .add (.t 14) (.c (.int .i64 1))⟩,
  ⟨(some 14), none, .mov (.t 25)⟩])))))))
 (.seq (.reg [⟨(some 26), none, .load (some 3) (.t 3)⟩,
  ⟨none, none, .store 3 (.t 2) (.t 26)⟩])
 .ret)))),
  [.cell 2 (some 3)], false, true, 27⟩
theorem co47 : compF Tryd.prog ⟨[], [(3, [12, 13, 14], [2, 3])], [], [], [], [], 47, [], []⟩ false true Tryd.f47 = some ac47 := by kernel_rfl

/-- slices.Contains[[]string,string] -/
def ac48 : AF := ⟨(.seq (.reg [⟨(some 4), none, .mov (.c (.bool false))⟩])
 (.seq (.reg [⟨(some 5), none, .mov (.t 0)⟩,
  ⟨(some 6), none, .mov (.t 1)⟩,
  ⟨(some 7), none, .call 0 [] (.c (.fn 69 [])) [(.t 5), (.t 6)]⟩,
  ⟨(some 8), none, .bin .geq (.t 7) (.c (.int .i64 0))⟩,
  ⟨(some 4), none, .mov (.t 8)⟩])
 .ret)),
  [.t 4], false, true, 9⟩
theorem co48 : compF Tryd.prog ⟨[], [], [], [], [], [], 48, [], []⟩ false true Tryd.f48 = some ac48 := by kernel_rfl

/-- paideia/types.Con -/
def ac49 : AF := ⟨(.seq (.reg [⟨(some 4), none, .alloc [(.int .i64 0), (.str []), (.sl .clip [])] false⟩])
 (.seq (.reg [⟨(some 5), none, .mov (.t 0)⟩,
  ⟨(some 6), none, .mov (.t 1)⟩,
  ⟨(some 7), none, .call 0 [] (.c (.fn 70 [])) [(.t 6)]⟩,
  ⟨(some 8), none, .build [(.int .i64 0), (.str []), (.sl .clip [])] [(0, 1, (.c (.int .i64 2))), (1, 1, (.t 5)), (2, 1, (.t 7))]⟩,
  ⟨none, none, .store 3 (.t 4) (.t 8)⟩])
 .ret)),
  [.cell 4 (some 3)], false, true, 9⟩
theorem co49 : compF Tryd.prog ⟨[], [], [], [], [], [], 49, [], []⟩ false true Tryd.f49 = some ac49 := by kernel_rfl

/-- paideia/types.All$1 -/
def ac50 : AF := ⟨(.reg [⟨(some 3), none, .load (some 3) (.t 1)⟩,
  ⟨(some 4), none, .mov (.t 0)⟩,
  ⟨(some 5), none, .call 0 [] (.c (.fn 51 [])) [(.t 3), (.t 4)]⟩]),
  [], false, false, 6⟩
theorem co50 : compF Tryd.prog ⟨[], [], [], [], [], [], 50, [], []⟩ false false Tryd.f50 = some ac50 := by kernel_rfl

/-- paideia/types.walk -/
def ac51 : AF := ⟨(.seq (.reg [⟨(some 2), none, .box (.t 0) 3 false⟩,
  ⟨(some 4), none, .mov (.c (.bool false))⟩])
 (.seq (.seq (.reg [⟨(some 7), none, .mov (.t 1)⟩,
  ⟨(some 8), none, .load (some 3) (.t 2)⟩,
  ⟨(some 9), none, .call 0 [] (.c (.fn 47 [])) [(.t 8)]⟩,
  ⟨(some 10), none, .call 0 [] (.t 7) [(.t 9)]⟩,
  ⟨(some 11), none, .not (.t 10)⟩])
 (.cond (.t 11) (.seq (.reg [⟨(some 4), none, .mov (.c (.bool false))⟩])
 .ret)
 .skip))
 (.seq (.seq (.reg [⟨(some 12), none, .faddr 2 (.t 2)⟩,
  ⟨(some 13), none, .load none (.t 12)⟩,
  ⟨(some 14), none, .len 1 (.t 13)⟩,
  ⟨(some 15), none, .mov (.c (.int .i64 0))⟩])
 (.block 0 (.loop [1, 13, 14, 15] [] (.seq (.reg [⟨(some 16), none, .bin .lss (.t 15) (.t 14)⟩])
 (.seq (.cond (.t 16) .skip
 (.exit 0))
 (.seq (.block 1 (.seq (.reg [⟨(some 17), none, .iaddr 3 (.t 13) (.t 15)⟩,
  ⟨(some 18), none, .load (some 3) (.t 17)⟩,
  ⟨(some 6), none, .alloc [(.int .i64 0), (.str []), (.sl .clip [])] false⟩,
  ⟨none, none, .store 3 (.t 6) (.t 18)⟩])
 (.seq (.reg [⟨(some 19), none, .load (some 3) (.t 6)⟩,
  ⟨(some 20), none, .mov (.t 1)⟩,
  ⟨(some 21), none, .call 0 [] (.c (.fn 51 [])) [(.t 19), (.t 20)]⟩,
  ⟨(some 22), none, .not (.t 21)⟩])
 (.cond (.t 22) (.seq (.reg [⟨(some 4), none, .mov (.c (.bool false))⟩])
 .ret)
 .skip))))
 (.reg [⟨(some 23), none, .bin .add (.t 15) (.c (.int .i64 1))⟩,
  ⟨(some 15), none, .mov (.t 23)⟩])))))))
 (.seq (.reg [⟨(some 4), none, .mov (.c (.bool true))⟩])
 .ret)))),
  [.t 4], false, false, 24⟩
theorem co51 : compF Tryd.prog ⟨[], [(4, [1, 13, 14, 15], [])], [], [], [], [], 51, [], []⟩ false false Tryd.f51 = some ac51 := by kernel_rfl

/-- paideia/derive.names -/
def ac52 : AF := ⟨(.seq (.reg [⟨(some 4), none, .mov (.c (.sl .clip []))⟩])
 (.seq (.reg [⟨(some 5), none, .mov (.c (.sl .clip []))⟩])
 (.seq (.seq (.reg [⟨(some 7), none, .mov (.t 1)⟩,
  ⟨(some 8), none, .mov (.c (.int .i64 0))⟩])
 (.block 0 (.loop [0, 5, 7, 8] [] (.seq (.reg [⟨(some 9), none, .bin .lss (.t 8) (.t 7)⟩])
 (.seq (.cond (.t 9) .skip
 (.exit 0))
 (.seq (.block 1 (.seq (.reg [⟨(some 10), none, .mov (.t 8)⟩,
  ⟨(some 6), none, .mov (.t 10)⟩])
 (.reg [⟨(some 11), none, .mov (.t 5)⟩,
  ⟨(some 12), none, .mov (.t 0)⟩,
  ⟨(some 13), none, .mov (.t 6)⟩,
  ⟨(some 14), none, .bin .add (.t 13) (.c (.int .i64 1))⟩,
  ⟨(some 15), none, .call 0 [] (.c (.fn 71 [])) [(.t 14)]⟩,
  ⟨(some 16), none, .bin .add (.t 12) (.t 15)⟩,
  ⟨(some 17), none, .bslice [(.str [])] 1 [(0, (.t 16))]⟩,
  ⟨(some 18), none, .append 1 (.t 11) (.t 17)⟩,
  ⟨(some 5), none, .mov (.t 18)⟩])))
 (.reg [⟨(some 19), none, .bin .add (.t 8) (.c (.int .i64 1))⟩,
  ⟨(some 8), none, .mov (.t 19)⟩])))))))
 (.seq (.reg [⟨(some 20), none, .mov (.t 5)⟩,
  ⟨(some 4), none, .mov (.t 20)⟩])
 .ret)))),
  [.t 4], false, true, 21⟩
theorem co52 : compF Tryd.prog ⟨[], [(3, [0, 5, 7, 8], [])], [], [], [], [], 52, [], []⟩ false true Tryd.f52 = some ac52 := by kernel_rfl

/-- (paideia/derive.at).alt -/
def ac53 : AF := ⟨(.seq (.reg [⟨(some 5), none, .box (.t 1) 7 false⟩,
  ⟨(some 8), none, .alloc [(.str []), (.sl .clip []), (.int .i64 0), (.int .i64 0), (.str []), (.int .i64 0), (.sl .clip []), (.sl .clip []), (.sl .clip []), (.int .i64 0)] false⟩])
 (.seq (.reg [⟨(some 9), none, .mov (.t 2)⟩,
  ⟨(some 10), none, .mov (.t 3)⟩,
  ⟨(some 11), none, .load (some 7) (.t 5)⟩,
  ⟨(some 12), none, .mov (.t 0)⟩,
  ⟨(some 13), none, .build [(.str []), (.sl .clip []), (.int .i64 0), (.int .i64 0), (.str []), (.int .i64 0), (.sl .clip []), (.sl .clip []), (.sl .clip []), (.int .i64 0)] [(0, 1, (.t 9)), (1, 1, (.t 10)), (2, 7, (.t 11)), (9, 1, (.t 12))]⟩,
  ⟨none, none, .store 10 (.t 8) (.t 13)⟩])
 .ret)),
  [.cell 8 (some 10)], false, true, 14⟩
theorem co53 : compF Tryd.prog ⟨[], [], [], [], [], [], 53, [], []⟩ false true Tryd.f53 = some ac53 := by kernel_rfl

/-- (paideia/derive.at).eqArgs -/
def ac54 : AF := ⟨(.seq (.reg [⟨(some 6), none, .alloc [(.int .i64 0), (.int .i64 0), (.str []), (.int .i64 0), (.sl .clip []), (.sl .clip []), (.sl .clip [])] false⟩])
 (.seq (.seq (.reg [⟨(some 8), none, .mov (.t 1)⟩,
  ⟨(some 9), none, .len 1 (.t 8)⟩,
  ⟨(some 10), none, .bin .eql (.t 9) (.c (.int .i64 0))⟩])
 (.cond (.t 10) (.seq (.reg [⟨(some 11), none, .mov (.t 0)⟩,
  ⟨(some 12), none, .call 0 [] (.c (.fn 55 [])) [(.t 11), (.c (.str [84, 114, 117, 101]))]⟩,
  ⟨none, none, .store 7 (.t 6) (.t 12)⟩])
 .ret)
 .skip))
 (.seq (.reg [⟨(some 13), none, .mov (.t 0)⟩,
  ⟨(some 14), none, .mov (.t 0)⟩,
  ⟨(some 15), none, .call 0 [] (.c (.fn 57 [])) [(.t 14), (.c (.str [61, 61]))]⟩,
  ⟨(some 16), none, .mov (.t 0)⟩,
  ⟨(some 17), none, .mov (.t 1)⟩,
  ⟨(some 18), none, .iaddr 1 (.t 17) (.c (.int .i64 0))⟩,
  ⟨(some 19), none, .loadL none (.t 18)⟩,
  ⟨(some 20), none, .call 0 [] (.c (.fn 57 [])) [(.t 16), (.t 19)]⟩,
  ⟨(some 21), none, .mov (.t 0)⟩,
  ⟨(some 22), none, .mov (.t 2)⟩,
  ⟨(some 23), none, .iaddr 1 (.t 22) (.c (.int .i64 0))⟩,
  ⟨(some 24), none, .loadL none (.t 23)⟩,
  ⟨(some 25), none, .call 0 [] (.c (.fn 57 [])) [(.t 21), (.t 24)]⟩,
  ⟨(some 26), none, .bslice [(.int .i64 0), (.int .i64 0), (.str []), (.int .i64 0), (.sl .clip []), (.sl .clip []), (.sl .clip [])] 2 [(0, (.t 20)), (1, (.t 25))]⟩,
  ⟨(some 27), none, .call 0 [] (.c (.fn 72 [])) [(.t 13), (.t 15), (.t 26)]⟩,
  ⟨(some 7), none, .alloc [(.int .i64 0), (.int .i64 0), (.str []), (.int .i64 0), (.sl .clip []), (.sl .clip []), (.sl .clip [])] false⟩,
  ⟨none, none, .store 7 (.t 7) (.t 27)⟩])
 (.seq (.seq (.reg [⟨(some 28), none, .mov (.t 1)⟩,
  ⟨(some 29), none, .len 1 (.t 28)⟩,
  ⟨(some 30), none, .bin .eql (.t 29) (.c (.int .i64 1))⟩])
 (.cond (.t 30) (.seq (.reg [⟨(some 31), none, .load (some 7) (.t 7)⟩,
  ⟨none, none, .store 7 (.t 6) (.t 31)⟩])
 .ret)
 .skip))
 (.seq (.reg [⟨(some 32), none, .mov (.t 0)⟩,
  ⟨(some 33), none, .loadL (some 7) (.t 7)⟩,
  ⟨(some 34), none, .mov (.t 0)⟩,
  ⟨(some 35), none, .mov (.t 0)⟩,
  ⟨(some 36), none, .mov (.t 1)⟩,
  ⟨(some 37), none, .slice 1 (.t 36) (some (.c (.int .i64 1))) none none⟩,
  ⟨(some 38), none, .mov (.t 2)⟩,
  ⟨(some 39), none, .slice 1 (.t 38) (some (.c (.int .i64 1))) none none⟩,
  ⟨(some 40), none, .call 0 [] (.c (.fn 54 [])) [(.t 35), (.t 37), (.t 39)]⟩,
  ⟨(some 41), none, .call 0 [] (.c (.fn 53 [])) [(.t 34), (.t 40), (.c (.str [84, 114, 117, 101])), (.c (.sl .clip []))]⟩,
  ⟨(some 42), none, .mov (.t 0)⟩,
  ⟨(some 43), none, .mov (.t 0)⟩,
  ⟨(some 44), none, .call 0 [] (.c (.fn 55 [])) [(.t 43), (.c (.str [70, 97, 108, 115, 101]))]⟩,
  ⟨(some 45), none, .call 0 [] (.c (.fn 53 [])) [(.t 42), (.t 44), (.c (.str [70, 97, 108, 115, 101])), (.c (.sl .clip []))]⟩,
  ⟨(some 46), none, .bslice [(.str []), (.sl .clip []), (.int .i64 0), (.int .i64 0), (.str []), (.int .i64 0), (.sl .clip []), (.sl .clip []), (.sl .clip []), (.int .i64 0)] 2 [(0, (.t 41)), (1, (.t 45))]⟩,
  ⟨(some 47), none, .call 0 [] (.c (.fn 56 [])) [(.t 32), (.t 33), (.t 46)]⟩,
  ⟨none, none, .store 7 (.t 6) (.t 47)⟩])
 .ret))))),
  [.cell 6 (some 7)], false, true, 48⟩
theorem co54 : compF Tryd.prog ⟨[], [], [], [], [], [], 54, [], []⟩ false true Tryd.f54 = some ac54 := by kernel_rfl

/-- (paideia/derive.at).c -/
def ac55 : AF := ⟨(.seq (.reg [⟨(some 4), none, .alloc [(.int .i64 0), (.int .i64 0), (.str []), (.int .i64 0), (.sl .clip []), (.sl .clip []), (.sl .clip [])] false⟩])
 (.seq (.reg [⟨(some 5), none, .mov (.t 0)⟩,
  ⟨(some 6), none, .mov (.t 1)⟩,
  ⟨(some 7), none, .build [(.int .i64 0), (.int .i64 0), (.str []), (.int .i64 0), (.sl .clip []), (.sl .clip []), (.sl .clip [])] [(0, 1, (.c (.int .i64 2))), (1, 1, (.t 5)), (2, 1, (.t 6))]⟩,
  ⟨none, none, .store 7 (.t 4) (.t 7)⟩])
 .ret)),
  [.cell 4 (some 7)], false, true, 8⟩
theorem co55 : compF Tryd.prog ⟨[], [], [], [], [], [], 55, [], []⟩ false true Tryd.f55 = some ac55 := by kernel_rfl

/-- (paideia/derive.at).cases -/
def ac56 : AF := ⟨(.seq (.reg [⟨(some 4), none, .box (.t 1) 7 false⟩,
  ⟨(some 6), none, .alloc [(.int .i64 0), (.int .i64 0), (.str []), (.int .i64 0), (.sl .clip []), (.sl .clip []), (.sl .clip [])] false⟩])
 (.seq (.reg [⟨(some 7), none, .mov (.t 0)⟩,
  ⟨(some 8), none, .load (some 7) (.t 4)⟩,
  ⟨(some 9), none, .bslice [(.int .i64 0), (.int .i64 0), (.str []), (.int .i64 0), (.sl .clip []), (.sl .clip []), (.sl .clip [])] 1 [(0, (.t 8))]⟩,
  ⟨(some 10), none, .mov (.t 2)⟩,
  ⟨(some 11), none, .build [(.int .i64 0), (.int .i64 0), (.str []), (.int .i64 0), (.sl .clip []), (.sl .clip []), (.sl .clip [])] [(0, 1, (.c (.int .i64 8))), (1, 1, (.t 7)), (4, 1, (.t 9)), (5, 1, (.t 10))]⟩,
  ⟨none, none, .store 7 (.t 6) (.t 11)⟩])
 .ret)),
  [.cell 6 (some 7)], false, true, 12⟩
theorem co56 : compF Tryd.prog ⟨[], [], [], [], [], [], 56, [], []⟩ false true Tryd.f56 = some ac56 := by kernel_rfl

/-- (paideia/derive.at).v -/
def ac57 : AF := ⟨(.seq (.reg [⟨(some 4), none, .alloc [(.int .i64 0), (.int .i64 0), (.str []), (.int .i64 0), (.sl .clip []), (.sl .clip []), (.sl .clip [])] false⟩])
 (.seq (.reg [⟨(some 5), none, .mov (.t 0)⟩,
  ⟨(some 6), none, .mov (.t 1)⟩,
  ⟨(some 7), none, .build [(.int .i64 0), (.int .i64 0), (.str []), (.int .i64 0), (.sl .clip []), (.sl .clip []), (.sl .clip [])] [(0, 1, (.c (.int .i64 1))), (1, 1, (.t 5)), (2, 1, (.t 6))]⟩,
  ⟨none, none, .store 7 (.t 4) (.t 7)⟩])
 .ret)),
  [.cell 4 (some 7)], false, true, 8⟩
theorem co57 : compF Tryd.prog ⟨[], [], [], [], [], [], 57, [], []⟩ false true Tryd.f57 = some ac57 := by kernel_rfl

/-- (paideia/derive.at).lam: round 0 -/
def ab58_0 : AB := ⟨[11, 12], (.reg [⟨(some 8), none, .mov (.t 12)⟩]),
 (.block 1 (.reg [⟨(some 13), none, .load none (.t 3)⟩,
  ⟨(some 14), none, .mov (.t 8)⟩,
  ⟨(some 15), none, .load (some 7) (.t 4)⟩,
  ⟨(some 16), none, .bslice [(.int .i64 0), (.int .i64 0), (.str []), (.int .i64 0), (.sl .clip []), (.sl .clip []), (.sl .clip [])] 1 [(0, (.t 15))]⟩,
  ⟨(some 17), none, .build [(.int .i64 0), (.int .i64 0), (.str []), (.int .i64 0), (.sl .clip []), (.sl .clip []), (.sl .clip [])] [(0, 1, (.c (.int .i64 6))), (1, 1, (.t 13)), (2, 1, (.t 14)), (4, 1, (.t 16))]⟩,
  ⟨none, none, .store 7 (.t 4) (.t 17)⟩]))⟩
theorem cb58_0 : ((Tryd.f58.body.bind fun c => ((rfs c)[3712 % 64]?).map fun t => (t.1, t.2.1, t.2.2, Tryd.f58.ntmps)).bind (compB Tryd.prog ⟨[], [], [], [], [], [], 58, [], []⟩)) = some ab58_0 := by kernel_rfl

/-- (paideia/derive.at).lam -/
def ac58 : AF := ⟨(.seq (.reg [⟨(some 3), none, .box (.t 0) 1 true⟩,
  ⟨(some 4), none, .box (.t 1) 7 true⟩,
  ⟨(some 6), none, .alloc [(.int .i64 0), (.int .i64 0), (.str []), (.int .i64 0), (.sl .clip []), (.sl .clip []), (.sl .clip [])] false⟩])
 (.seq (.seq (.reg [⟨(some 9), none, .mov (.t 2)⟩,
  ⟨(some 10), none, .call 0 [] (.c (.fn 73 [])) [(.t 9)]⟩])
 (.block 0 (.rfunc (.t 10) 3712 [3, 4] [86])))
 (.seq (.reg [⟨(some 18), none, .load (some 7) (.t 4)⟩,
  ⟨none, none, .store 7 (.t 6) (.t 18)⟩])
 .ret))),
  [.cell 6 (some 7)], false, true, 19⟩
theorem co58 : compF Tryd.prog ⟨[3, 4], [], [], [], [], [], 58, [(0, [3, 4])], [86]⟩ false true Tryd.f58 = some ac58 := by kernel_rfl

/-- slices.Repeat[[]string,string] -/
def ac59 : AF := ⟨(.seq (.reg [⟨(some 4), none, .mov (.c (.sl .clip []))⟩])
 (.seq (.seq (.reg [⟨(some 9), none, .mov (.t 1)⟩,
  ⟨(some 10), none, .bin .lss (.t 9) (.c (.int .i64 0))⟩])
 (.cond (.t 10) (.reg [⟨(some 11), none, .mkif 9 (.c (.str [99, 97, 110, 110, 111, 116, 32, 98, 101, 32, 110, 101, 103, 97, 116, 105, 118, 101]))⟩,
  ⟨none, none, .stuck⟩])
 .skip))
 (.seq (.reg [⟨(some 13), none, .mov (.t 0)⟩,
  ⟨(some 14), none, .len 1 (.t 13)⟩,
  ⟨(some 15), none, .conv (.int .u64) (.t 14)⟩,
  ⟨(some 16), none, .mov (.t 1)⟩,
  ⟨(some 17), none, .conv (.int .u64) (.t 16)⟩,
  ⟨(some 18), none, .call 0 [] (.c (.fn 74 [])) [(.t 15), (.t 17)]⟩,
  ⟨(some 12), none, .mov (.t 18)⟩,
  ⟨(some 19), none, .extract (.t 12) 0⟩,
  ⟨(some 20), none, .extract (.t 12) 1⟩,
  ⟨(some 5), none, .mov (.t 19)⟩,
  ⟨(some 6), none, .mov (.t 20)⟩])
 (.seq (.seq (.reg [⟨(some 21), none, .mov (.t 5)⟩,
  ⟨(some 22), none, .bin .gtr (.t 21) (.c (.int .u64 0))⟩,
  ⟨(some 23), none, .mov (.t 22)⟩,
  ⟨(some 24), (some (23, false)), .mov (.t 6)⟩,
  ⟨(some 25), (some (23, false)), .bin .gtr (.t 24) (.c (.int .u64 9223372036854775807))⟩,
  ⟨(some 26), none, .pick (.t 23) (.c (.bool true)) (.t 25)⟩])
 (.cond (.t 26) (.reg [⟨(some 27), none, .mkif 9 (.c (.str [116, 104, 101, 32, 114, 101, 115, 117, 108, 116, 32, 111, 102, 32, 40, 108, 101, 110, 40, 120, 41, 32, 42, 32, 99, 111, 117, 110, 116, 41, 32, 111, 118, 101, 114, 102, 108, 111, 119, 115]))⟩,
  ⟨none, none, .stuck⟩])
 .skip))
 (.seq (.reg [⟨(some 28), none, .mov (.t 6)⟩,
  ⟨(some 29), none, .conv (.int .i64) (.t 28)⟩,
  ⟨(some 30), none, .mkslice [(.str [])] (.t 29) (.t 29)⟩,
  ⟨(some 7), none, .mov (.t 30)⟩])
 (.seq (.reg [⟨(some 31), none, .mov (.t 7)⟩,
  ⟨(some 32), none, .mov (.t 0)⟩,
  ⟨(some 33), none, .copy0 (.t 31) (.t 32)⟩,
  ⟨(some 8), none, .mov (.t 33)⟩])
 (.seq (.block 0 (.loop [7, 8] [] (.seq (.seq (.reg [⟨(some 34), none, .mov (.t 8)⟩,
  ⟨(some 35), none, .mov (.t 7)⟩,
  ⟨(some 36), none, .len 1 (.t 35)⟩,
  ⟨(some 37), none, .bin .lss (.t 34) (.t 36)⟩])
 (.cond (.t 37) .skip
 (.exit 0)))
 (.block 1 (.reg [⟨(some 38), none, .mov (.t 8)⟩,
  ⟨(some 39), none, .mov (.t 7)⟩,
  ⟨(some 40), none, .mov (.t 8)⟩,
  ⟨(some 41), none, .slice 1 (.t 39) (some (.t 40)) none none⟩,
  ⟨(some 42), none, .mov (.t 7)⟩,
  ⟨(some 43), none, .mov (.t 8)⟩,
  ⟨(some 44), none, .slice 1 (.t 42) none (some (.t 43)) none⟩,
  ⟨(some 45), none, .copy0 (.t 41) (.t 44)⟩,
  ⟨(some 46), none, .bin .add (.t 38) (.t 45)⟩,
  ⟨(some 8), none, .mov (.t 46)⟩])))))
 (.seq (.reg [⟨(some 47), none, .mov (.t 7)⟩,
  ⟨(some 4), none, .mov (.t 47)⟩])
 .ret)))))))),
  [.t 4], false, true, 48⟩
theorem co59 : compF Tryd.prog ⟨[], [(8, [7, 8], [])], [], [], [], [], 59, [], []⟩ false true Tryd.f59 = some ac59 := by kernel_rfl

/-- (paideia/derive.at).ordArgs -/
def ac60 : AF := ⟨(.seq (.reg [⟨(some 6), none, .alloc [(.int .i64 0), (.int .i64 0), (.str []), (.int .i64 0), (.sl .clip []), (.sl .clip []), (.sl .clip [])] false⟩])
 (.seq (.seq (.reg [⟨(some 8), none, .mov (.t 1)⟩,
  ⟨(some 9), none, .len 1 (.t 8)⟩,
  ⟨(some 10), none, .bin .eql (.t 9) (.c (.int .i64 0))⟩])
 (.cond (.t 10) (.seq (.reg [⟨(some 11), none, .mov (.t 0)⟩,
  ⟨(some 12), none, .call 0 [] (.c (.fn 55 [])) [(.t 11), (.c (.str [69, 81]))]⟩,
  ⟨none, none, .store 7 (.t 6) (.t 12)⟩])
 .ret)
 .skip))
 (.seq (.reg [⟨(some 13), none, .mov (.t 0)⟩,
  ⟨(some 14), none, .mov (.t 0)⟩,
  ⟨(some 15), none, .call 0 [] (.c (.fn 57 [])) [(.t 14), (.c (.str [99, 111, 109, 112, 97, 114, 101]))]⟩,
  ⟨(some 16), none, .mov (.t 0)⟩,
  ⟨(some 17), none, .mov (.t 1)⟩,
  ⟨(some 18), none, .iaddr 1 (.t 17) (.c (.int .i64 0))⟩,
  ⟨(some 19), none, .loadL none (.t 18)⟩,
  ⟨(some 20), none, .call 0 [] (.c (.fn 57 [])) [(.t 16), (.t 19)]⟩,
  ⟨(some 21), none, .mov (.t 0)⟩,
  ⟨(some 22), none, .mov (.t 2)⟩,
  ⟨(some 23), none, .iaddr 1 (.t 22) (.c (.int .i64 0))⟩,
  ⟨(some 24), none, .loadL none (.t 23)⟩,
  ⟨(some 25), none, .call 0 [] (.c (.fn 57 [])) [(.t 21), (.t 24)]⟩,
  ⟨(some 26), none, .bslice [(.int .i64 0), (.int .i64 0), (.str []), (.int .i64 0), (.sl .clip []), (.sl .clip []), (.sl .clip [])] 2 [(0, (.t 20)), (1, (.t 25))]⟩,
  ⟨(some 27), none, .call 0 [] (.c (.fn 72 [])) [(.t 13), (.t 15), (.t 26)]⟩,
  ⟨(some 7), none, .alloc [(.int .i64 0), (.int .i64 0), (.str []), (.int .i64 0), (.sl .clip []), (.sl .clip []), (.sl .clip [])] false⟩,
  ⟨none, none, .store 7 (.t 7) (.t 27)⟩])
 (.seq (.seq (.reg [⟨(some 28), none, .mov (.t 1)⟩,
  ⟨(some 29), none, .len 1 (.t 28)⟩,
  ⟨(some 30), none, .bin .eql (.t 29) (.c (.int .i64 1))⟩])
 (.cond (.t 30) (.seq (.reg [⟨(some 31), none, .load (some 7) (.t 7)⟩,
  ⟨none, none, .store 7 (.t 6) (.t 31)⟩])
 .ret)
 .skip))
 (.seq (.reg [⟨(some 32), none, .mov (.t 0)⟩,
  ⟨(some 33), none, .loadL (some 7) (.t 7)⟩,
  ⟨(some 34), none, .mov (.t 0)⟩,
  ⟨(some 35), none, .mov (.t 0)⟩,
  ⟨(some 36), none, .mov (.t 1)⟩,
  ⟨(some 37), none, .slice 1 (.t 36) (some (.c (.int .i64 1))) none none⟩,
  ⟨(some 38), none, .mov (.t 2)⟩,
  ⟨(some 39), none, .slice 1 (.t 38) (some (.c (.int .i64 1))) none none⟩,
  ⟨(some 40), none, .call 0 [] (.c (.fn 60 [])) [(.t 35), (.t 37), (.t 39)]⟩,
  ⟨(some 41), none, .call 0 [] (.c (.fn 53 [])) [(.t 34), (.t 40), (.c (.str [69, 81])), (.c (.sl .clip []))]⟩,
  ⟨(some 42), none, .mov (.t 0)⟩,
  ⟨(some 43), none, .mov (.t 0)⟩,
  ⟨(some 44), none, .call 0 [] (.c (.fn 57 [])) [(.t 43), (.c (.str [99]))]⟩,
  ⟨(some 45), none, .bslice [(.str [])] 1 [(0, (.c (.str [99])))]⟩,
  ⟨(some 46), none, .call 0 [] (.c (.fn 53 [])) [(.t 42), (.t 44), (.c (.str [])), (.t 45)]⟩,
  ⟨(some 47), none, .bslice [(.str []), (.sl .clip []), (.int .i64 0), (.int .i64 0), (.str []), (.int .i64 0), (.sl .clip []), (.sl .clip []), (.sl .clip []), (.int .i64 0)] 2 [(0, (.t 41)), (1, (.t 46))]⟩,
  ⟨(some 48), none, .call 0 [] (.c (.fn 56 [])) [(.t 32), (.t 33), (.t 47)]⟩,
  ⟨none, none, .store 7 (.t 6) (.t 48)⟩])
 .ret))))),
  [.cell 6 (some 7)], false, true, 49⟩
theorem co60 : compF Tryd.prog ⟨[], [], [], [], [], [], 60, [], []⟩ false true Tryd.f60 = some ac60 := by kernel_rfl

/-- (paideia/derive.at).text -/
def ac61 : AF := ⟨(.seq (.reg [⟨(some 4), none, .alloc [(.int .i64 0), (.int .i64 0), (.str []), (.int .i64 0), (.sl .clip []), (.sl .clip []), (.sl .clip [])] false⟩])
 (.seq (.reg [⟨(some 7), none, .mov (.t 0)⟩,
  ⟨(some 8), none, .call 0 [] (.c (.fn 55 [])) [(.t 7), (.c (.str [78, 105, 108]))]⟩,
  ⟨(some 5), none, .alloc [(.int .i64 0), (.int .i64 0), (.str []), (.int .i64 0), (.sl .clip []), (.sl .clip []), (.sl .clip [])] false⟩,
  ⟨none, none, .store 7 (.t 5) (.t 8)⟩])
 (.seq (.seq (.reg [⟨(some 9), none, .mov (.t 1)⟩,
  ⟨(some 10), none, .len 0 (.t 9)⟩,
  ⟨(some 11), none, .bin .sub (.t 10) (.c (.int .i64 1))⟩,
  ⟨(some 6), none, .mov (.t 11)⟩])
 (.block 0 (.loop [0, 1, 6] [4, 5] (.seq (.seq (.reg [⟨(some 12), none, .mov (.t 6)⟩,
  ⟨(some 13), none, .bin .geq (.t 12) (.c (.int .i64 0))⟩])
 (.cond (.t 13) .skip
 (.exit 0)))
 (.seq (.block 1 (.reg [⟨(some 16), none, .mov (.t 0)⟩,
  ⟨(some 17), none, .mov (.t 0)⟩,
  ⟨(some 18), none, .call 0 [] (.c (.fn 55 [])) [(.t 17), (.c (.str [67, 111, 110, 115]))]⟩,
  ⟨(some 19), none, .mov (.t 0)⟩,
  ⟨(some 20), none, .mov (.t 1)⟩,
  ⟨(some 21), none, .mov (.t 6)⟩,
  ⟨(some 22), none, .sindex (.t 20) (.t 21)⟩,
  ⟨(some 23), none, .conv (.int .i64) (.t 22)⟩,
  ⟨(some 24), none, .build [(.int .i64 0), (.int .i64 0), (.str []), (.int .i64 0), (.sl .clip []), (.sl .clip []), (.sl .clip [])] [(0, 1, (.c (.int .i64 4))), (1, 1, (.t 19)), (3, 1, (.t 23))]⟩,
  ⟨(some 25), none, .loadL (some 7) (.t 5)⟩,
  ⟨(some 26), none, .bslice [(.int .i64 0), (.int .i64 0), (.str []), (.int .i64 0), (.sl .clip []), (.sl .clip []), (.sl .clip [])] 2 [(0, (.t 24)), (1, (.t 25))]⟩,
  ⟨(some 27), none, .call 0 [] (.c (.fn 72 [])) [(.t 16), (.t 18), (.t 26)]⟩,
  ⟨none, none, .store 7 (.t 5) (.t 27)⟩]))
 (.reg [⟨(some 14), none, .mov (.t 6)⟩,
  ⟨(some 15), none, .bin .sub (.t 14) (.c (.int .i64 1))⟩,
  ⟨(some 6), none, .mov (.t 15)⟩]))))))
 (.seq (.reg [⟨(some 28), none, .load (some 7) (.t 5)⟩,
  ⟨none, none, .store 7 (.t 4) (.t 28)⟩])
 .ret)))),
  [.cell 4 (some 7)], false, true, 29⟩
theorem co61 : compF Tryd.prog ⟨[], [(3, [0, 1, 6], [4, 5])], [], [], [], [], 61, [], []⟩ false true Tryd.f61 = some ac61 := by kernel_rfl

/-- (paideia/derive.at).both -/
def ac62 : AF := ⟨(.seq (.reg [⟨(some 4), none, .box (.t 1) 7 false⟩,
  ⟨(some 5), none, .box (.t 2) 7 false⟩,
  ⟨(some 6), none, .alloc [(.int .i64 0), (.int .i64 0), (.str []), (.int .i64 0), (.sl .clip []), (.sl .clip []), (.sl .clip [])] false⟩])
 (.seq (.reg [⟨(some 7), none, .mov (.t 0)⟩,
  ⟨(some 8), none, .mov (.t 0)⟩,
  ⟨(some 9), none, .call 0 [] (.c (.fn 57 [])) [(.t 8), (.c (.str [97, 112, 112, 101, 110, 100]))]⟩,
  ⟨(some 10), none, .loadL (some 7) (.t 4)⟩,
  ⟨(some 11), none, .loadL (some 7) (.t 5)⟩,
  ⟨(some 12), none, .bslice [(.int .i64 0), (.int .i64 0), (.str []), (.int .i64 0), (.sl .clip []), (.sl .clip []), (.sl .clip [])] 2 [(0, (.t 10)), (1, (.t 11))]⟩,
  ⟨(some 13), none, .call 0 [] (.c (.fn 72 [])) [(.t 7), (.t 9), (.t 12)]⟩,
  ⟨none, none, .store 7 (.t 6) (.t 13)⟩])
 .ret)),
  [.cell 6 (some 7)], false, true, 14⟩
theorem co62 : compF Tryd.prog ⟨[], [], [], [], [], [], 62, [], []⟩ false true Tryd.f62 = some ac62 := by kernel_rfl

/-- (paideia/derive.at).shown -/
def ac63 : AF := ⟨(.seq (.reg [⟨(some 4), none, .alloc [(.int .i64 0), (.int .i64 0), (.str []), (.int .i64 0), (.sl .clip []), (.sl .clip []), (.sl .clip [])] false⟩])
 (.seq (.reg [⟨(some 6), none, .mov (.t 0)⟩,
  ⟨(some 7), none, .mov (.t 0)⟩,
  ⟨(some 8), none, .call 0 [] (.c (.fn 57 [])) [(.t 7), (.c (.str [115, 104, 111, 119]))]⟩,
  ⟨(some 9), none, .mov (.t 0)⟩,
  ⟨(some 10), none, .mov (.t 1)⟩,
  ⟨(some 11), none, .iaddr 1 (.t 10) (.c (.int .i64 0))⟩,
  ⟨(some 12), none, .loadL none (.t 11)⟩,
  ⟨(some 13), none, .call 0 [] (.c (.fn 57 [])) [(.t 9), (.t 12)]⟩,
  ⟨(some 14), none, .bslice [(.int .i64 0), (.int .i64 0), (.str []), (.int .i64 0), (.sl .clip []), (.sl .clip []), (.sl .clip [])] 1 [(0, (.t 13))]⟩,
  ⟨(some 15), none, .call 0 [] (.c (.fn 72 [])) [(.t 6), (.t 8), (.t 14)]⟩,
  ⟨(some 5), none, .alloc [(.int .i64 0), (.int .i64 0), (.str []), (.int .i64 0), (.sl .clip []), (.sl .clip []), (.sl .clip [])] false⟩,
  ⟨none, none, .store 7 (.t 5) (.t 15)⟩])
 (.seq (.seq (.reg [⟨(some 16), none, .mov (.t 1)⟩,
  ⟨(some 17), none, .len 1 (.t 16)⟩,
  ⟨(some 18), none, .bin .eql (.t 17) (.c (.int .i64 1))⟩])
 (.cond (.t 18) (.seq (.reg [⟨(some 19), none, .mov (.t 0)⟩,
  ⟨(some 20), none, .loadL (some 7) (.t 5)⟩,
  ⟨(some 21), none, .mov (.t 0)⟩,
  ⟨(some 22), none, .call 0 [] (.c (.fn 61 [])) [(.t 21), (.c (.str [41]))]⟩,
  ⟨(some 23), none, .call 0 [] (.c (.fn 62 [])) [(.t 19), (.t 20), (.t 22)]⟩,
  ⟨none, none, .store 7 (.t 4) (.t 23)⟩])
 .ret)
 .skip))
 (.seq (.reg [⟨(some 24), none, .mov (.t 0)⟩,
  ⟨(some 25), none, .loadL (some 7) (.t 5)⟩,
  ⟨(some 26), none, .mov (.t 0)⟩,
  ⟨(some 27), none, .mov (.t 0)⟩,
  ⟨(some 28), none, .call 0 [] (.c (.fn 61 [])) [(.t 27), (.c (.str [32]))]⟩,
  ⟨(some 29), none, .mov (.t 0)⟩,
  ⟨(some 30), none, .mov (.t 1)⟩,
  ⟨(some 31), none, .slice 1 (.t 30) (some (.c (.int .i64 1))) none none⟩,
  ⟨(some 32), none, .call 0 [] (.c (.fn 63 [])) [(.t 29), (.t 31)]⟩,
  ⟨(some 33), none, .call 0 [] (.c (.fn 62 [])) [(.t 26), (.t 28), (.t 32)]⟩,
  ⟨(some 34), none, .call 0 [] (.c (.fn 62 [])) [(.t 24), (.t 25), (.t 33)]⟩,
  ⟨none, none, .store 7 (.t 4) (.t 34)⟩])
 .ret)))),
  [.cell 4 (some 7)], false, true, 35⟩
theorem co63 : compF Tryd.prog ⟨[], [], [], [], [], [], 63, [], []⟩ false true Tryd.f63 = some ac63 := by kernel_rfl

/-- paideia/lexer.Operator -/
def ac64 : AF := ⟨(.seq (.reg [⟨(some 2), none, .mov (.c (.bool false))⟩])
 (.seq (.seq (.reg [⟨(some 5), none, .call 0 [] (.c (.fn 75 [])) [(.c (.str [61, 61, 32, 47, 61, 32, 60, 61, 32, 62, 61, 32, 60, 32, 62, 32, 43, 32, 45, 32, 42]))]⟩,
  ⟨(some 6), none, .len 1 (.t 5)⟩,
  ⟨(some 7), none, .mov (.c (.int .i64 0))⟩])
 (.block 0 (.loop [0, 5, 6, 7] [] (.seq (.reg [⟨(some 8), none, .bin .lss (.t 7) (.t 6)⟩])
 (.seq (.cond (.t 8) .skip
 (.exit 0))
 (.seq (.block 1 (.seq (.reg [⟨(some 9), none, .iaddr 1 (.t 5) (.t 7)⟩,
  ⟨(some 10), none, .load none (.t 9)⟩,
  ⟨(some 4), none, .mov (.t 10)⟩])
 (.seq (.reg [⟨(some 11), none, .mov (.t 0)⟩,
  ⟨(some 12), none, .mov (.t 4)⟩,
  ⟨(some 13), none, .bin .eql (.t 11) (.t 12)⟩])
 (.cond (.t 13) (.seq (.reg [⟨(some 2), none, .mov (.c (.bool true))⟩])
 .ret)
 .skip))))
 (.reg [⟨(some 14), none, .bin .add (.t 7) (.c (.int .i64 1))⟩,
  ⟨(some 7), none, .mov (.t 14)⟩])))))))
 (.seq (.reg [⟨(some 2), none, .mov (.c (.bool false))⟩])
 .ret))),
  [.t 2], false, true, 15⟩
theorem co64 : compF Tryd.prog ⟨[], [(2, [0, 5, 6, 7], [])], [], [], [], [], 64, [], []⟩ false true Tryd.f64 = some ac64 := by kernel_rfl

/-- paideia/lexer.Plain -/
def ac66 : AF := ⟨(.seq (.reg [⟨(some 2), none, .mov (.c (.bool false))⟩])
 (.seq (.reg [⟨(some 3), none, .mov (.t 0)⟩,
  ⟨(some 4), none, .bin .geq (.t 3) (.c (.int .u8 32))⟩,
  ⟨(some 5), none, .mov (.t 4)⟩,
  ⟨(some 6), (some (5, true)), .mov (.t 0)⟩,
  ⟨(some 7), (some (5, true)), .bin .leq (.t 6) (.c (.int .u8 126))⟩,
  ⟨(some 8), none, .pick (.t 5) (.t 7) (.c (.bool false))⟩,
  ⟨(some 9), none, .mov (.t 8)⟩,
  ⟨(some 10), (some (9, true)), .mov (.t 0)⟩,
  ⟨(some 11), (some (9, true)), .bin .neq (.t 10) (.c (.int .u8 39))⟩,
  ⟨(some 12), none, .pick (.t 9) (.t 11) (.c (.bool false))⟩,
  ⟨(some 13), none, .mov (.t 12)⟩,
  ⟨(some 14), (some (13, true)), .mov (.t 0)⟩,
  ⟨(some 15), (some (13, true)), .bin .neq (.t 14) (.c (.int .u8 92))⟩,
  ⟨(some 16), none, .pick (.t 13) (.t 15) (.c (.bool false))⟩,
  ⟨(some 2), none, .mov (.t 16)⟩])
 .ret)),
  [.t 2], false, true, 17⟩
theorem co66 : compF Tryd.prog ⟨[], [], [], [], [], [], 66, [], []⟩ false true Tryd.f66 = some ac66 := by kernel_rfl

/-- paideia/printer.Scheme -/
def ac68 : AF := ⟨(.seq (.reg [⟨(some 1), none, .box (.t 0) 5 false⟩,
  ⟨(some 2), none, .mov (.c (.str []))⟩])
 (.seq (.reg [⟨(some 3), none, .faddr 1 (.t 1)⟩,
  ⟨(some 4), none, .load none (.t 3)⟩,
  ⟨(some 5), none, .call 0 [] (.c (.fn 83 [])) [(.t 4)]⟩,
  ⟨(some 6), none, .faddr 2 (.t 1)⟩,
  ⟨(some 7), none, .loadL (some 3) (.t 6)⟩,
  ⟨(some 8), none, .call 0 [] (.c (.fn 84 [])) [(.t 7)]⟩,
  ⟨(some 9), none, .bin .add (.t 5) (.t 8)⟩,
  ⟨(some 2), none, .mov (.t 9)⟩])
 .ret)),
  [.t 2], false, true, 10⟩
theorem co68 : compF Tryd.prog ⟨[], [], [], [], [], [], 68, [], []⟩ false true Tryd.f68 = some ac68 := by kernel_rfl

/-- slices.Index[[]string,string] -/
def ac69 : AF := ⟨(.seq (.reg [⟨(some 4), none, .mov (.c (.int .i64 0))⟩])
 (.seq (.seq (.reg [⟨(some 6), none, .mov (.t 0)⟩,
  ⟨(some 7), none, .len 1 (.t 6)⟩,
  ⟨(some 8), none, .mov (.c (.int .i64 0))⟩])
 (.block 0 (.loop [0, 1, 7, 8] [] (.seq (.reg [⟨(some 9), none, .bin .lss (.t 8) (.t 7)⟩])
 (.seq (.cond (.t 9) .skip
 (.exit 0))
 (.seq (.block 1 (.seq (.reg [⟨(some 10), none, .mov (.t 8)⟩,
  ⟨(some 5), none, .mov (.t 10)⟩])
 (.seq (.reg [⟨(some 11), none, .mov (.t 1)⟩,
  ⟨(some 12), none, .mov (.t 0)⟩,
  ⟨(some 13), none, .mov (.t 5)⟩,
  ⟨(some 14), none, .iaddr 1 (.t 12) (.t 13)⟩,
  ⟨(some 15), none, .load none (.t 14)⟩,
  ⟨(some 16), none, .bin .eql (.t 11) (.t 15)⟩])
 (.cond (.t 16) (.seq (.reg [⟨(some 17), none, .mov (.t 5)⟩,
  ⟨(some 4), none, .mov (.t 17)⟩])
 .ret)
 .skip))))
 (.reg [⟨(some 18), none, .bin .add (.t 8) (.c (.int .i64 1))⟩,
  ⟨(some 8), none, .mov (.t 18)⟩])))))))
 (.seq (.reg [⟨(some 4), none, .mov (.c (.int .i64 (-1)))⟩])
 .ret))),
  [.t 4], false, true, 19⟩
theorem co69 : compF Tryd.prog ⟨[], [(2, [0, 1, 7, 8], [])], [], [], [], [], 69, [], []⟩ false true Tryd.f69 = some ac69 := by kernel_rfl

/-- slices.Clone[[]paideia/api.Type,paideia/api.Type] -/
def ac70 : AF := ⟨(.seq (.reg [⟨(some 2), none, .mov (.c (.sl .clip []))⟩])
 (.seq (.seq (.reg [⟨(some 3), none, .mov (.t 0)⟩,
  ⟨(some 4), none, .nilsl false (.t 3)⟩])
 (.cond (.t 4) (.seq (.reg [⟨(some 2), none, .mov (.c (.sl .clip []))⟩])
 .ret)
 .skip))
 (.seq (.reg [⟨(some 5), none, .bslice [(.int .i64 0), (.str []), (.sl .clip [])] 0 []⟩,
  ⟨(some 6), none, .mov (.t 0)⟩,
  ⟨(some 7), none, .append 3 (.t 5) (.t 6)⟩,
  ⟨(some 2), none, .mov (.t 7)⟩])
 .ret))),
  [.t 2], false, true, 8⟩
theorem co70 : compF Tryd.prog ⟨[], [], [], [], [], [], 70, [], []⟩ false true Tryd.f70 = some ac70 := by kernel_rfl

/-- (paideia/derive.at).app -/
def ac72 : AF := ⟨(.seq (.reg [⟨(some 4), none, .box (.t 1) 7 false⟩,
  ⟨(some 6), none, .alloc [(.int .i64 0), (.int .i64 0), (.str []), (.int .i64 0), (.sl .clip []), (.sl .clip []), (.sl .clip [])] false⟩])
 (.seq (.seq (.reg [⟨(some 9), none, .mov (.t 2)⟩,
  ⟨(some 10), none, .len 1 (.t 9)⟩,
  ⟨(some 11), none, .mov (.c (.int .i64 0))⟩])
 (.block 0 (.loop [0, 9, 10, 11] [4, 6] (.seq (.reg [⟨(some 12), none, .bin .lss (.t 11) (.t 10)⟩])
 (.seq (.cond (.t 12) .skip
 (.exit 0))
 (.seq (.block 1 (.seq (.reg [⟨(some 13), none, .iaddr 7 (.t 9) (.t 11)⟩,
  ⟨(some 14), none, .load (some 7) (.t 13)⟩,
  ⟨(some 8), none, .alloc [(.int .i64 0), (.int .i64 0), (.str []), (.int .i64 0), (.sl .clip []), (.sl .clip []), (.sl .clip [])] false⟩,
  ⟨none, none, .store 7 (.t 8) (.t 14)⟩])
 (.reg [⟨(some 15), none, .mov (.t 0)⟩,
  ⟨(some 16), none, .load (some 7) (.t 4)⟩,
  ⟨(some 17), none, .load (some 7) (.t 8)⟩,
  ⟨(some 18), none, .bslice [(.int .i64 0), (.int .i64 0), (.str []), (.int .i64 0), (.sl .clip []), (.sl .clip []), (.sl .clip [])] 2 [(0, (.t 16)), (1, (.t 17))]⟩,
  ⟨(some 19), none, .build [(.int .i64 0), (.int .i64 0), (.str []), (.int .i64 0), (.sl .clip []), (.sl .clip []), (.sl .clip [])] [(0, 1, (.c (.int .i64 5))), (1, 1, (.t 15)), (4, 1, (.t 18))]⟩,
  ⟨none, none, .store 7 (.t 4) (.t 19)⟩])))
 (.reg [⟨(some 20), none, .bin .add (.t 11) (.c (.int .i64 1))⟩,
  ⟨(some 11), none, .mov (.t 20)⟩])))))))
 (.seq (.reg [⟨(some 21), none, .load (some 7) (.t 4)⟩,
  ⟨none, none, .store 7 (.t 6) (.t 21)⟩])
 .ret))),
  [.cell 6 (some 7)], false, true, 22⟩
theorem co72 : compF Tryd.prog ⟨[], [(2, [0, 9, 10, 11], [4, 6])], [], [], [], [], 72, [], []⟩ false true Tryd.f72 = some ac72 := by kernel_rfl

/-- slices.Backward[[]string,string] -/
def ac73 : AF := ⟨(.seq (.reg [⟨(some 1), none, .box (.t 0) 1 true⟩,
  ⟨(some 2), none, .mov (.c .nilfn)⟩])
 (.seq (.reg [⟨(some 3), none, .mkfn 86 [(.t 1)]⟩,
  ⟨(some 2), none, .mov (.t 3)⟩])
 .ret)),
  [.t 2], false, false, 4⟩
theorem co73 : compF Tryd.prog ⟨[1], [], [], [], [], [], 73, [], []⟩ false false Tryd.f73 = some ac73 := by kernel_rfl

/-- paideia/printer.context -/
def ac83 : AF := ⟨(.seq (.reg [⟨(some 2), none, .mov (.c (.str []))⟩])
 (.seq (.reg [⟨(some 4), none, .mov (.t 0)⟩,
  ⟨(some 5), none, .call 0 [] (.c (.fn 98 [])) [(.t 4), (.c (.str [44, 32])), (.c (.fn 99 []))]⟩,
  ⟨(some 3), none, .mov (.t 5)⟩])
 (.seq (.seq (.reg [⟨(some 6), none, .mov (.t 0)⟩,
  ⟨(some 7), none, .len 1 (.t 6)⟩])
 (.block 0 (.seq (.reg [⟨(some 9), none, .bin .eql (.t 7) (.c (.int .i64 0))⟩,
  ⟨(some 8), none, .mov (.t 9)⟩])
 (.cond (.t 8) (.seq (.reg [⟨(some 2), none, .mov (.c (.str []))⟩])
 .ret)
 (.seq (.reg [⟨(some 11), none, .bin .eql (.t 7) (.c (.int .i64 1))⟩,
  ⟨(some 10), none, .mov (.t 11)⟩])
 (.cond (.t 10) (.seq (.reg [⟨(some 12), none, .mov (.t 3)⟩,
  ⟨(some 13), none, .bin .add (.t 12) (.c (.str [32, 61, 62, 32]))⟩,
  ⟨(some 2), none, .mov (.t 13)⟩])
 .ret)
 .skip))))))
 (.seq (.reg [⟨(some 14), none, .mov (.t 3)⟩,
  ⟨(some 15), none, .bin .add (.c (.str [40])) (.t 14)⟩,
  ⟨(some 16), none, .bin .add (.t 15) (.c (.str [41, 32, 61, 62, 32]))⟩,
  ⟨(some 2), none, .mov (.t 16)⟩])
 .ret)))),
  [.t 2], false, true, 17⟩
theorem co83 : compF Tryd.prog ⟨[], [], [], [], [], [], 83, [], []⟩ false true Tryd.f83 = some ac83 := by kernel_rfl

/-- paideia/printer.Type -/
def ac84 : AF := ⟨(.seq (.reg [⟨(some 1), none, .box (.t 0) 3 false⟩,
  ⟨(some 2), none, .mov (.c (.str []))⟩])
 (.seq (.seq (.reg [⟨(some 6), none, .faddr 0 (.t 1)⟩,
  ⟨(some 7), none, .load none (.t 6)⟩])
 (.block 0 (.seq (.reg [⟨(some 9), none, .bin .eql (.t 7) (.c (.int .i64 3))⟩,
  ⟨(some 8), none, .mov (.t 9)⟩])
 (.cond (.t 8) (.seq (.reg [⟨(some 10), none, .load (some 3) (.t 1)⟩,
  ⟨(some 11), none, .call 0 [] (.c (.fn 102 [])) [(.t 10), (.c (.int .i64 0))]⟩,
  ⟨(some 12), none, .call 0 [] (.c (.fn 101 [])) [(.t 11)]⟩,
  ⟨(some 13), none, .bin .add (.t 12) (.c (.str [32, 45, 62, 32]))⟩,
  ⟨(some 14), none, .loadL (some 3) (.t 1)⟩,
  ⟨(some 15), none, .call 0 [] (.c (.fn 102 [])) [(.t 14), (.c (.int .i64 1))]⟩,
  ⟨(some 16), none, .call 0 [] (.c (.fn 84 [])) [(.t 15)]⟩,
  ⟨(some 17), none, .bin .add (.t 13) (.t 16)⟩,
  ⟨(some 2), none, .mov (.t 17)⟩])
 .ret)
 (.seq (.reg [⟨(some 19), none, .bin .eql (.t 7) (.c (.int .i64 4))⟩,
  ⟨(some 18), none, .mov (.t 19)⟩])
 (.cond (.t 18) (.seq (.reg [⟨(some 20), none, .faddr 1 (.t 1)⟩,
  ⟨(some 21), none, .loadL none (.t 20)⟩,
  ⟨(some 22), none, .bin .add (.c (.str [102, 111, 114, 97, 108, 108, 32])) (.t 21)⟩,
  ⟨(some 23), none, .bin .add (.t 22) (.c (.str [46, 32]))⟩,
  ⟨(some 24), none, .load (some 3) (.t 1)⟩,
  ⟨(some 25), none, .call 0 [] (.c (.fn 102 [])) [(.t 24), (.c (.int .i64 0))]⟩,
  ⟨(some 26), none, .call 0 [] (.c (.fn 84 [])) [(.t 25)]⟩,
  ⟨(some 27), none, .bin .add (.t 23) (.t 26)⟩,
  ⟨(some 2), none, .mov (.t 27)⟩])
 .ret)
 .skip))))))
 (.seq (.reg [⟨(some 28), none, .faddr 1 (.t 1)⟩,
  ⟨(some 29), none, .load none (.t 28)⟩,
  ⟨(some 3), none, .mov (.t 29)⟩])
 (.seq (.seq (.reg [⟨(some 30), none, .faddr 2 (.t 1)⟩,
  ⟨(some 31), none, .load none (.t 30)⟩,
  ⟨(some 32), none, .len 1 (.t 31)⟩,
  ⟨(some 33), none, .mov (.c (.int .i64 0))⟩])
 (.block 1 (.loop [3, 31, 32, 33] [] (.seq (.reg [⟨(some 34), none, .bin .lss (.t 33) (.t 32)⟩])
 (.seq (.cond (.t 34) .skip
 (.exit 1))
 (.seq (.block 2 (.seq (.reg [⟨(some 35), none, .iaddr 3 (.t 31) (.t 33)⟩,
  ⟨(some 36), none, .load (some 3) (.t 35)⟩,
  ⟨(some 5), none, .alloc [(.int .i64 0), (.str []), (.sl .clip [])] false⟩,
  ⟨none, none, .store 3 (.t 5) (.t 36)⟩])
 (.reg [⟨(some 37), none, .mov (.t 3)⟩,
  ⟨(some 38), none, .load (some 3) (.t 5)⟩,
  ⟨(some 39), none, .call 0 [] (.c (.fn 100 [])) [(.t 38)]⟩,
  ⟨(some 40), none, .bin .add (.c (.str [32])) (.t 39)⟩,
  ⟨(some 41), none, .bin .add (.t 37) (.t 40)⟩,
  ⟨(some 3), none, .mov (.t 41)⟩])))
 (.reg [⟨(some 42), none, .bin .add (.t 33) (.c (.int .i64 1))⟩,
  ⟨(some 33), none, .mov (.t 42)⟩])))))))
 (.seq (.reg [⟨(some 43), none, .mov (.t 3)⟩,
  ⟨(some 2), none, .mov (.t 43)⟩])
 .ret))))),
  [.t 2], false, true, 44⟩
theorem co84 : compF Tryd.prog ⟨[], [(8, [3, 31, 32, 33], [])], [], [], [], [], 84, [], []⟩ false true Tryd.f84 = some ac84 := by kernel_rfl

/-- slices.Backward[[]string,string]$1 -/
def ac86 : AF := ⟨(.seq (.reg [⟨(some 4), none, .load none (.t 1)⟩,
  ⟨(some 5), none, .len 1 (.t 4)⟩,
  ⟨(some 6), none, .bin .sub (.t 5) (.c (.int .i64 1))⟩,
  ⟨(some 3), none, .mov (.t 6)⟩])
 (.block 0 (.loop [0, 1, 3] [] (.seq (.seq (.reg [⟨(some 7), none, .mov (.t 3)⟩,
  ⟨(some 8), none, .bin .geq (.t 7) (.c (.int .i64 0))⟩])
 (.cond (.t 8) .skip
 (.exit 0)))
 (.seq (.block 1 (.seq (.reg [⟨(some 11), none, .mov (.t 0)⟩,
  ⟨(some 12), none, .mov (.t 3)⟩,
  ⟨(some 13), none, .load none (.t 1)⟩,
  ⟨(some 14), none, .mov (.t 3)⟩,
  ⟨(some 15), none, .iaddr 1 (.t 13) (.t 14)⟩,
  ⟨(some 16), none, .load none (.t 15)⟩,
  ⟨(some 17), none, .call 0 [] (.t 11) [(.t 12), (.t 16)]⟩,
  ⟨(some 18), none, .not (.t 17)⟩])
 (.cond (.t 18) .ret
 .skip)))
 (.reg [⟨(some 9), none, .mov (.t 3)⟩,
  ⟨(some 10), none, .bin .sub (.t 9) (.c (.int .i64 1))⟩,
  ⟨(some 3), none, .mov (.t 10)⟩])))))),
  [], false, false, 19⟩
theorem co86 : compF Tryd.prog ⟨[], [(1, [0, 1, 3], [])], [], [], [], [], 86, [], []⟩ false false Tryd.f86 = some ac86 := by kernel_rfl

/-- internal/strconv.log10Pow2 -/
def ac91 : AF := ⟨(.seq (.reg [⟨(some 2), none, .mov (.c (.int .i64 0))⟩])
 (.seq (.reg [⟨(some 3), none, .mov (.t 0)⟩,
  ⟨(some 4), none, .bin .mul (.t 3) (.c (.int .i64 78913))⟩,
  ⟨(some 5), none, .bin .shr (.t 4) (.c (.int .u64 18))⟩,
  ⟨(some 2), none, .mov (.t 5)⟩])
 .ret)),
  [.t 2], false, true, 6⟩
theorem co91 : compF Tryd.prog ⟨[], [], [], [], [], [], 91, [], []⟩ false true Tryd.f91 = some ac91 := by kernel_rfl

/-- internal/strconv.bool2[int] -/
def ac93 : AF := ⟨(.seq (.reg [⟨(some 2), none, .mov (.c (.int .i64 0))⟩])
 (.seq (.seq (.reg [⟨(some 3), none, .mov (.t 0)⟩])
 (.cond (.t 3) (.seq (.reg [⟨(some 2), none, .mov (.c (.int .i64 1))⟩])
 .ret)
 .skip))
 (.seq (.reg [⟨(some 2), none, .mov (.c (.int .i64 0))⟩])
 .ret))),
  [.t 2], false, true, 4⟩
theorem co93 : compF Tryd.prog ⟨[], [], [], [], [], [], 93, [], []⟩ false true Tryd.f93 = some ac93 := by kernel_rfl

/-- internal/strconv.isPowerOfTwo -/
def ac94 : AF := ⟨(.seq (.reg [⟨(some 2), none, .mov (.c (.bool false))⟩])
 (.seq (.reg [⟨(some 3), none, .mov (.t 0)⟩,
  ⟨(some 4), none, .mov (.t 0)⟩,
  ⟨(some 5), none, .bin .sub (.t 4) (.c (.int .i64 1))⟩,
  ⟨(some 6), none, .bin .and (.t 3) (.t 5)⟩,
  ⟨(some 7), none, .bin .eql (.t 6) (.c (.int .i64 0))⟩,
  ⟨(some 2), none, .mov (.t 7)⟩])
 .ret)),
  [.t 2], false, true, 8⟩
theorem co94 : compF Tryd.prog ⟨[], [], [], [], [], [], 94, [], []⟩ false true Tryd.f94 = some ac94 := by kernel_rfl

/-- paideia/printer.joined[paideia/api.Pred] -/
def ac98 : AF := ⟨(.seq (.reg [⟨(some 6), none, .mov (.c (.str []))⟩])
 (.seq (.reg [⟨(some 7), none, .mov (.c (.sl .clip []))⟩])
 (.seq (.seq (.reg [⟨(some 10), none, .mov (.t 0)⟩,
  ⟨(some 11), none, .len 1 (.t 10)⟩,
  ⟨(some 12), none, .mov (.c (.int .i64 0))⟩])
 (.block 0 (.loop [1, 2, 7, 10, 11, 12] [] (.seq (.reg [⟨(some 13), none, .bin .lss (.t 12) (.t 11)⟩])
 (.seq (.cond (.t 13) .skip
 (.exit 0))
 (.seq (.block 1 (.seq (.reg [⟨(some 14), none, .iaddr 4 (.t 10) (.t 12)⟩,
  ⟨(some 15), none, .load (some 4) (.t 14)⟩,
  ⟨(some 9), none, .alloc [(.str []), (.int .i64 0), (.str []), (.sl .clip [])] false⟩,
  ⟨none, none, .store 4 (.t 9) (.t 15)⟩])
 (.reg [⟨(some 16), none, .mov (.t 7)⟩,
  ⟨(some 17), none, .mov (.t 2)⟩,
  ⟨(some 18), none, .load (some 4) (.t 9)⟩,
  ⟨(some 19), none, .call 0 [] (.t 17) [(.t 18)]⟩,
  ⟨(some 20), none, .bslice [(.str [])] 1 [(0, (.t 19))]⟩,
  ⟨(some 21), none, .append 1 (.t 16) (.t 20)⟩,
  ⟨(some 7), none, .mov (.t 21)⟩])))
 (.reg [⟨(some 22), none, .bin .add (.t 12) (.c (.int .i64 1))⟩,
  ⟨(some 12), none, .mov (.t 22)⟩])))))))
 (.seq (.reg [⟨(some 23), none, .mov (.t 7)⟩,
  ⟨(some 24), none, .mov (.t 1)⟩,
  ⟨(some 25), none, .call 0 [] (.c (.fn 67 [])) [(.t 23), (.t 24)]⟩,
  ⟨(some 6), none, .mov (.t 25)⟩])
 .ret)))),
  [.t 6], false, true, 26⟩
theorem co98 : compF Tryd.prog ⟨[], [(3, [1, 2, 7, 10, 11, 12], [])], [], [], [], [], 98, [], []⟩ false true Tryd.f98 = some ac98 := by kernel_rfl

/-- paideia/printer.context$1 -/
def ac99 : AF := ⟨(.seq (.reg [⟨(some 1), none, .box (.t 0) 4 false⟩,
  ⟨(some 2), none, .mov (.c (.str []))⟩])
 (.seq (.reg [⟨(some 3), none, .faddr 0 (.t 1)⟩,
  ⟨(some 4), none, .loadL none (.t 3)⟩,
  ⟨(some 5), none, .bin .add (.t 4) (.c (.str [32]))⟩,
  ⟨(some 6), none, .faddr 1 (.t 1)⟩,
  ⟨(some 7), none, .load (some 3) (.t 6)⟩,
  ⟨(some 8), none, .call 0 [] (.c (.fn 100 [])) [(.t 7)]⟩,
  ⟨(some 9), none, .bin .add (.t 5) (.t 8)⟩,
  ⟨(some 2), none, .mov (.t 9)⟩])
 .ret)),
  [.t 2], false, false, 10⟩
theorem co99 : compF Tryd.prog ⟨[], [], [], [], [], [], 99, [], []⟩ false false Tryd.f99 = some ac99 := by kernel_rfl

/-- paideia/printer.Arg -/
def ac100 : AF := ⟨(.seq (.reg [⟨(some 1), none, .box (.t 0) 3 false⟩,
  ⟨(some 2), none, .mov (.c (.str []))⟩])
 (.seq (.seq (.reg [⟨(some 3), none, .faddr 0 (.t 1)⟩,
  ⟨(some 4), none, .load none (.t 3)⟩,
  ⟨(some 5), none, .bin .eql (.t 4) (.c (.int .i64 3))⟩,
  ⟨(some 6), none, .mov (.t 5)⟩,
  ⟨(some 7), (some (6, false)), .faddr 0 (.t 1)⟩,
  ⟨(some 8), (some (6, false)), .load none (.t 7)⟩,
  ⟨(some 9), (some (6, false)), .bin .eql (.t 8) (.c (.int .i64 4))⟩,
  ⟨(some 10), none, .pick (.t 6) (.c (.bool true)) (.t 9)⟩,
  ⟨(some 11), none, .mov (.t 10)⟩,
  ⟨(some 12), (some (11, false)), .faddr 0 (.t 1)⟩,
  ⟨(some 13), (some (11, false)), .load none (.t 12)⟩,
  ⟨(some 14), (some (11, false)), .bin .eql (.t 13) (.c (.int .i64 2))⟩,
  ⟨(some 15), (some (11, false)), .mov (.t 14)⟩,
  ⟨(some 16), (some (15, true)), .faddr 2 (.t 1)⟩,
  ⟨(some 17), (some (15, true)), .load none (.t 16)⟩,
  ⟨(some 18), (some (15, true)), .len 1 (.t 17)⟩,
  ⟨(some 19), (some (15, true)), .bin .gtr (.t 18) (.c (.int .i64 0))⟩,
  ⟨(some 20), (some (11, false)), .pick (.t 15) (.t 19) (.c (.bool false))⟩,
  ⟨(some 21), none, .pick (.t 11) (.c (.bool true)) (.t 20)⟩])
 (.cond (.t 21) (.seq (.reg [⟨(some 22), none, .load (some 3) (.t 1)⟩,
  ⟨(some 23), none, .call 0 [] (.c (.fn 84 [])) [(.t 22)]⟩,
  ⟨(some 24), none, .bin .add (.c (.str [40])) (.t 23)⟩,
  ⟨(some 25), none, .bin .add (.t 24) (.c (.str [41]))⟩,
  ⟨(some 2), none, .mov (.t 25)⟩])
 .ret)
 .skip))
 (.seq (.reg [⟨(some 26), none, .load (some 3) (.t 1)⟩,
  ⟨(some 27), none, .call 0 [] (.c (.fn 84 [])) [(.t 26)]⟩,
  ⟨(some 2), none, .mov (.t 27)⟩])
 .ret))),
  [.t 2], false, true, 28⟩
theorem co100 : compF Tryd.prog ⟨[], [], [], [], [], [], 100, [], []⟩ false true Tryd.f100 = some ac100 := by kernel_rfl

/-- paideia/printer.left -/
def ac101 : AF := ⟨(.seq (.reg [⟨(some 1), none, .box (.t 0) 3 false⟩,
  ⟨(some 2), none, .mov (.c (.str []))⟩])
 (.seq (.seq (.reg [⟨(some 3), none, .faddr 0 (.t 1)⟩,
  ⟨(some 4), none, .load none (.t 3)⟩,
  ⟨(some 5), none, .bin .eql (.t 4) (.c (.int .i64 3))⟩,
  ⟨(some 6), none, .mov (.t 5)⟩,
  ⟨(some 7), (some (6, false)), .faddr 0 (.t 1)⟩,
  ⟨(some 8), (some (6, false)), .load none (.t 7)⟩,
  ⟨(some 9), (some (6, false)), .bin .eql (.t 8) (.c (.int .i64 4))⟩,
  ⟨(some 10), none, .pick (.t 6) (.c (.bool true)) (.t 9)⟩])
 (.cond (.t 10) (.seq (.reg [⟨(some 11), none, .load (some 3) (.t 1)⟩,
  ⟨(some 12), none, .call 0 [] (.c (.fn 84 [])) [(.t 11)]⟩,
  ⟨(some 13), none, .bin .add (.c (.str [40])) (.t 12)⟩,
  ⟨(some 14), none, .bin .add (.t 13) (.c (.str [41]))⟩,
  ⟨(some 2), none, .mov (.t 14)⟩])
 .ret)
 .skip))
 (.seq (.reg [⟨(some 15), none, .load (some 3) (.t 1)⟩,
  ⟨(some 16), none, .call 0 [] (.c (.fn 84 [])) [(.t 15)]⟩,
  ⟨(some 2), none, .mov (.t 16)⟩])
 .ret))),
  [.t 2], false, true, 17⟩
theorem co101 : compF Tryd.prog ⟨[], [], [], [], [], [], 101, [], []⟩ false true Tryd.f101 = some ac101 := by kernel_rfl

/-- paideia/printer.part -/
def ac102 : AF := ⟨(.seq (.reg [⟨(some 2), none, .box (.t 0) 3 false⟩,
  ⟨(some 4), none, .alloc [(.int .i64 0), (.str []), (.sl .clip [])] false⟩])
 (.seq (.seq (.reg [⟨(some 5), none, .mov (.t 1)⟩,
  ⟨(some 6), none, .faddr 2 (.t 2)⟩,
  ⟨(some 7), none, .load none (.t 6)⟩,
  ⟨(some 8), none, .len 1 (.t 7)⟩,
  ⟨(some 9), none, .bin .lss (.t 5) (.t 8)⟩])
 (.cond (.t 9) (.seq (.reg [⟨(some 10), none, .faddr 2 (.t 2)⟩,
  ⟨(some 11), none, .load none (.t 10)⟩,
  ⟨(some 12), none, .mov (.t 1)⟩,
  ⟨(some 13), none, .iaddr 3 (.t 11) (.t 12)⟩,
  ⟨(some 14), none, .load (some 3) (.t 13)⟩,
  ⟨none, none, .store 3 (.t 4) (.t 14)⟩])
 .ret)
 .skip))
 (.seq (.reg [⟨(some 15), none, .build [(.int .i64 0), (.str []), (.sl .clip [])] []⟩,
  ⟨none, none, .store 3 (.t 4) (.t 15)⟩])
 .ret))),
  [.cell 4 (some 3)], false, true, 16⟩
theorem co102 : compF Tryd.prog ⟨[], [], [], [], [], [], 102, [], []⟩ false true Tryd.f102 = some ac102 := by kernel_rfl

-- 125 (*paideia/api.At).Error: not compiled

theorem prim65 : PrimOkG Tryd.prog [3000003] 65 itoaSP := itoaS_ok Tryd.func65 (by kernel_rfl) (by kernel_rfl) Tryd.internal_strconv_FormatInt_10_small
theorem prim67 : PrimOkG Tryd.prog [3000003] 67 joinP := (joinP_ok Tryd.func67 (by kernel_rfl) (by kernel_rfl) Tryd.strings_Join_none Tryd.strings_Join).g
theorem prim75 : PrimOkG Tryd.prog [3000003] 75 fieldsP := fieldsP_ok (g := 3) (t := 9) Tryd.func75 (by kernel_rfl) (by kernel_rfl) (by kernel_rfl) (by simp) Tryd.strings_Fields
theorem prim74 : PrimOkG Tryd.prog [3000003] 74 mulP := mulP_ok Tryd.func74 (by kernel_rfl) (by kernel_rfl) Tryd.bits_Mul
theorem prim71 : PrimOkG Tryd.prog [3000003] 71 itoa1P := itoa1_ok Tryd.func71 (by kernel_rfl) (by kernel_rfl) Tryd.strconv_Itoa_small

def ap3 : AP := fun f vr => match f, vr with
  | 100, 0 => some (.code ac100)
  | 101, 0 => some (.code ac101)
  | 102, 0 => some (.code ac102)
  | 1088, 77 => some (.body ab17_0)
  | 1664, 77 => some (.body ab26_0)
  | 3712, 77 => some (.body ab58_0)
  | 65, 0 => some (.prim itoaSP)
  | 67, 0 => some (.prim joinP)
  | 75, 0 => some (.prim fieldsP)
  | 74, 0 => some (.prim mulP)
  | 71, 0 => some (.prim itoa1P)
  | _, _ => none

theorem table3 : TableOk Tryd.prog ap3 [3000003] := by
  intro f vr fd h
  unfold ap3 at h
  split at h
  · cases h; exact ⟨_, _, Tryd.func100, co100, by decide, rfl⟩
  · cases h; exact ⟨_, _, Tryd.func101, co101, by decide, rfl⟩
  · cases h; exact ⟨_, _, Tryd.func102, co102, by decide, rfl⟩
  · cases h; exact tab_body (key := 1088) Tryd.func17 cb17_0 (by decide)
  · cases h; exact tab_body (key := 1664) Tryd.func26 cb26_0 (by decide)
  · cases h; exact tab_body (key := 3712) Tryd.func58 cb58_0 (by decide)
  · cases h; exact prim65
  · cases h; exact prim67
  · cases h; exact prim75
  · cases h; exact prim74
  · cases h; exact prim71
  · cases h

def ap2 : AP := fun f vr => match f, vr with
  | 54, 0 => some (.code ac54)
  | 55, 0 => some (.code ac55)
  | 56, 0 => some (.code ac56)
  | 57, 0 => some (.code ac57)
  | 58, 0 => some (.code ac58)
  | 59, 0 => some (.code ac59)
  | 60, 0 => some (.code ac60)
  | 61, 0 => some (.code ac61)
  | 62, 0 => some (.code ac62)
  | 63, 0 => some (.code ac63)
  | 64, 0 => some (.code ac64)
  | 66, 0 => some (.code ac66)
  | 68, 0 => some (.code ac68)
  | 69, 0 => some (.code ac69)
  | 70, 0 => some (.code ac70)
  | 72, 0 => some (.code ac72)
  | 73, 0 => some (.code ac73)
  | 83, 0 => some (.code ac83)
  | 84, 0 => some (.code ac84)
  | 86, 0 => some (.code ac86)
  | 91, 0 => some (.code ac91)
  | 93, 0 => some (.code ac93)
  | 94, 0 => some (.code ac94)
  | 98, 0 => some (.code ac98)
  | 99, 0 => some (.code ac99)
  | f, vr => ap3 f vr

theorem table2 : TableOk Tryd.prog ap2 [3000003] := by
  intro f vr fd h
  unfold ap2 at h
  split at h
  · cases h; exact ⟨_, _, Tryd.func54, co54, by decide, rfl⟩
  · cases h; exact ⟨_, _, Tryd.func55, co55, by decide, rfl⟩
  · cases h; exact ⟨_, _, Tryd.func56, co56, by decide, rfl⟩
  · cases h; exact ⟨_, _, Tryd.func57, co57, by decide, rfl⟩
  · cases h; exact ⟨_, _, Tryd.func58, co58, by decide, rfl⟩
  · cases h; exact ⟨_, _, Tryd.func59, co59, by decide, rfl⟩
  · cases h; exact ⟨_, _, Tryd.func60, co60, by decide, rfl⟩
  · cases h; exact ⟨_, _, Tryd.func61, co61, by decide, rfl⟩
  · cases h; exact ⟨_, _, Tryd.func62, co62, by decide, rfl⟩
  · cases h; exact ⟨_, _, Tryd.func63, co63, by decide, rfl⟩
  · cases h; exact ⟨_, _, Tryd.func64, co64, by decide, rfl⟩
  · cases h; exact ⟨_, _, Tryd.func66, co66, by decide, rfl⟩
  · cases h; exact ⟨_, _, Tryd.func68, co68, by decide, rfl⟩
  · cases h; exact ⟨_, _, Tryd.func69, co69, by decide, rfl⟩
  · cases h; exact ⟨_, _, Tryd.func70, co70, by decide, rfl⟩
  · cases h; exact ⟨_, _, Tryd.func72, co72, by decide, rfl⟩
  · cases h; exact ⟨_, _, Tryd.func73, co73, by decide, rfl⟩
  · cases h; exact ⟨_, _, Tryd.func83, co83, by decide, rfl⟩
  · cases h; exact ⟨_, _, Tryd.func84, co84, by decide, rfl⟩
  · cases h; exact ⟨_, _, Tryd.func86, co86, by decide, rfl⟩
  · cases h; exact ⟨_, _, Tryd.func91, co91, by decide, rfl⟩
  · cases h; exact ⟨_, _, Tryd.func93, co93, by decide, rfl⟩
  · cases h; exact ⟨_, _, Tryd.func94, co94, by decide, rfl⟩
  · cases h; exact ⟨_, _, Tryd.func98, co98, by decide, rfl⟩
  · cases h; exact ⟨_, _, Tryd.func99, co99, by decide, rfl⟩
  · exact table3 _ _ _ h

def ap1 : AP := fun f vr => match f, vr with
  | 29, 0 => some (.code ac29)
  | 30, 0 => some (.code ac30)
  | 31, 0 => some (.code ac31)
  | 32, 0 => some (.code ac32)
  | 33, 0 => some (.code ac33)
  | 34, 0 => some (.code ac34)
  | 35, 0 => some (.code ac35)
  | 36, 0 => some (.code ac36)
  | 37, 0 => some (.code ac37)
  | 38, 0 => some (.code ac38)
  | 39, 0 => some (.code ac39)
  | 40, 0 => some (.code ac40)
  | 41, 0 => some (.code ac41)
  | 42, 0 => some (.code ac42)
  | 43, 0 => some (.code ac43)
  | 44, 0 => some (.code ac44)
  | 45, 0 => some (.code ac45)
  | 46, 0 => some (.code ac46)
  | 47, 0 => some (.code ac47)
  | 48, 0 => some (.code ac48)
  | 49, 0 => some (.code ac49)
  | 50, 0 => some (.code ac50)
  | 51, 0 => some (.code ac51)
  | 52, 0 => some (.code ac52)
  | 53, 0 => some (.code ac53)
  | f, vr => ap2 f vr

theorem table1 : TableOk Tryd.prog ap1 [3000003] := by
  intro f vr fd h
  unfold ap1 at h
  split at h
  · cases h; exact ⟨_, _, Tryd.func29, co29, by decide, rfl⟩
  · cases h; exact ⟨_, _, Tryd.func30, co30, by decide, rfl⟩
  · cases h; exact ⟨_, _, Tryd.func31, co31, by decide, rfl⟩
  · cases h; exact ⟨_, _, Tryd.func32, co32, by decide, rfl⟩
  · cases h; exact ⟨_, _, Tryd.func33, co33, by decide, rfl⟩
  · cases h; exact ⟨_, _, Tryd.func34, co34, by decide, rfl⟩
  · cases h; exact ⟨_, _, Tryd.func35, co35, by decide, rfl⟩
  · cases h; exact ⟨_, _, Tryd.func36, co36, by decide, rfl⟩
  · cases h; exact ⟨_, _, Tryd.func37, co37, by decide, rfl⟩
  · cases h; exact ⟨_, _, Tryd.func38, co38, by decide, rfl⟩
  · cases h; exact ⟨_, _, Tryd.func39, co39, by decide, rfl⟩
  · cases h; exact ⟨_, _, Tryd.func40, co40, by decide, rfl⟩
  · cases h; exact ⟨_, _, Tryd.func41, co41, by decide, rfl⟩
  · cases h; exact ⟨_, _, Tryd.func42, co42, by decide, rfl⟩
  · cases h; exact ⟨_, _, Tryd.func43, co43, by decide, rfl⟩
  · cases h; exact ⟨_, _, Tryd.func44, co44, by decide, rfl⟩
  · cases h; exact ⟨_, _, Tryd.func45, co45, by decide, rfl⟩
  · cases h; exact ⟨_, _, Tryd.func46, co46, by decide, rfl⟩
  · cases h; exact ⟨_, _, Tryd.func47, co47, by decide, rfl⟩
  · cases h; exact ⟨_, _, Tryd.func48, co48, by decide, rfl⟩
  · cases h; exact ⟨_, _, Tryd.func49, co49, by decide, rfl⟩
  · cases h; exact ⟨_, _, Tryd.func50, co50, by decide, rfl⟩
  · cases h; exact ⟨_, _, Tryd.func51, co51, by decide, rfl⟩
  · cases h; exact ⟨_, _, Tryd.func52, co52, by decide, rfl⟩
  · cases h; exact ⟨_, _, Tryd.func53, co53, by decide, rfl⟩
  · exact table2 _ _ _ h

def ap0 : AP := fun f vr => match f, vr with
  | 4, 0 => some (.code ac4)
  | 5, 0 => some (.code ac5)
  | 6, 0 => some (.code ac6)
  | 7, 0 => some (.code ac7)
  | 8, 0 => some (.code ac8)
  | 9, 0 => some (.code ac9)
  | 10, 0 => some (.code ac10)
  | 11, 0 => some (.code ac11)
  | 12, 0 => some (.code ac12)
  | 13, 0 => some (.code ac13)
  | 14, 0 => some (.code ac14)
  | 15, 0 => some (.code ac15)
  | 16, 0 => some (.code ac16)
  | 17, 0 => some (.code ac17)
  | 18, 0 => some (.code ac18)
  | 19, 0 => some (.code ac19)
  | 20, 0 => some (.code ac20)
  | 21, 0 => some (.code ac21)
  | 22, 0 => some (.code ac22)
  | 23, 0 => some (.code ac23)
  | 24, 0 => some (.code ac24)
  | 25, 0 => some (.code ac25)
  | 26, 0 => some (.code ac26)
  | 27, 0 => some (.code ac27)
  | 28, 0 => some (.code ac28)
  | f, vr => ap1 f vr

theorem table0 : TableOk Tryd.prog ap0 [3000003] := by
  intro f vr fd h
  unfold ap0 at h
  split at h
  · cases h; exact ⟨_, _, Tryd.func4, co4, by decide, rfl⟩
  · cases h; exact ⟨_, _, Tryd.func5, co5, by decide, rfl⟩
  · cases h; exact ⟨_, _, Tryd.func6, co6, by decide, rfl⟩
  · cases h; exact ⟨_, _, Tryd.func7, co7, by decide, rfl⟩
  · cases h; exact ⟨_, _, Tryd.func8, co8, by decide, rfl⟩
  · cases h; exact ⟨_, _, Tryd.func9, co9, by decide, rfl⟩
  · cases h; exact ⟨_, _, Tryd.func10, co10, by decide, rfl⟩
  · cases h; exact ⟨_, _, Tryd.func11, co11, by decide, rfl⟩
  · cases h; exact ⟨_, _, Tryd.func12, co12, by decide, rfl⟩
  · cases h; exact ⟨_, _, Tryd.func13, co13, by decide, rfl⟩
  · cases h; exact ⟨_, _, Tryd.func14, co14, by decide, rfl⟩
  · cases h; exact ⟨_, _, Tryd.func15, co15, by decide, rfl⟩
  · cases h; exact ⟨_, _, Tryd.func16, co16, by decide, rfl⟩
  · cases h; exact ⟨_, _, Tryd.func17, co17, by decide, rfl⟩
  · cases h; exact ⟨_, _, Tryd.func18, co18, by decide, rfl⟩
  · cases h; exact ⟨_, _, Tryd.func19, co19, by decide, rfl⟩
  · cases h; exact ⟨_, _, Tryd.func20, co20, by decide, rfl⟩
  · cases h; exact ⟨_, _, Tryd.func21, co21, by decide, rfl⟩
  · cases h; exact ⟨_, _, Tryd.func22, co22, by decide, rfl⟩
  · cases h; exact ⟨_, _, Tryd.func23, co23, by decide, rfl⟩
  · cases h; exact ⟨_, _, Tryd.func24, co24, by decide, rfl⟩
  · cases h; exact ⟨_, _, Tryd.func25, co25, by decide, rfl⟩
  · cases h; exact ⟨_, _, Tryd.func26, co26, by decide, rfl⟩
  · cases h; exact ⟨_, _, Tryd.func27, co27, by decide, rfl⟩
  · cases h; exact ⟨_, _, Tryd.func28, co28, by decide, rfl⟩
  · exact table1 _ _ _ h

def ap : AP := ap0
theorem tableOk : TableOk Tryd.prog ap [3000003] := table0

end Go.Jt
