/- The seat's functions on the abstract machine. -/
import Derived.Test.YtkahhcceddfbpabAmQ
import Derived.Test.YtkahhcceddfbpabAmJ
import Derived.Test.YtkahhcceddfbpabShelfAb
import Derived.Test.YtkahhcceddfbpabAmE
import Derived.Test.YtkahhcceddfbpabAmZ
import Derived.Test.YtkahhcceddfbpabProg
namespace Go.At
open Go.Am Go.Proofs

set_option maxRecDepth 100000
/-- paideia/paideialaw4.TypesOrder -/
def ac3 : AF := ⟨(.seq (.reg [⟨(some 6), none, .mov (.c (.bool false))⟩])
 (.seq (.reg [⟨(some 14), none, .call 0 [] (.c (.fn 9 [])) []⟩,
  ⟨(some 7), none, .mov (.t 14)⟩])
 (.seq (.seq (.reg [⟨(some 15), none, .mov (.t 7)⟩,
  ⟨(some 16), none, .not (.t 15)⟩])
 (.cond (.t 16) (.seq (.reg [⟨(some 6), none, .mov (.c (.bool false))⟩])
 .ret)
 .skip))
 (.seq (.seq (.reg [⟨(some 17), none, .mov (.t 0)⟩,
  ⟨(some 18), none, .len 1 (.t 17)⟩,
  ⟨(some 19), none, .bin .gtr (.t 18) (.c (.int .i64 60))⟩,
  ⟨(some 20), none, .mov (.t 19)⟩,
  ⟨(some 21), (some (20, false)), .mov (.t 1)⟩,
  ⟨(some 22), (some (20, false)), .len 1 (.t 21)⟩,
  ⟨(some 23), (some (20, false)), .bin .gtr (.t 22) (.c (.int .i64 60))⟩,
  ⟨(some 24), none, .pick (.t 20) (.c (.bool true)) (.t 23)⟩,
  ⟨(some 25), none, .mov (.t 24)⟩,
  ⟨(some 26), (some (25, false)), .mov (.t 2)⟩,
  ⟨(some 27), (some (25, false)), .len 1 (.t 26)⟩,
  ⟨(some 28), (some (25, false)), .bin .gtr (.t 27) (.c (.int .i64 60))⟩,
  ⟨(some 29), none, .pick (.t 25) (.c (.bool true)) (.t 28)⟩])
 (.cond (.t 29) (.seq (.reg [⟨(some 30), none, .mov (.t 7)⟩,
  ⟨(some 6), none, .mov (.t 30)⟩])
 .ret)
 .skip))
 (.seq (.reg [⟨(some 31), none, .mov (.t 0)⟩,
  ⟨(some 32), none, .build [(.sl .clip []), (.int .i64 0)] [(0, 1, (.t 31))]⟩,
  ⟨(some 33), none, .box (.t 32) 2 true⟩,
  ⟨(some 34), none, .call 0 [] (.c (.fn 10 [])) [(.t 33), (.c (.int .i64 3))]⟩,
  ⟨(some 8), none, .alloc [(.int .i64 0), (.str []), (.sl .clip [])] false⟩,
  ⟨none, none, .store 3 (.t 8) (.t 34)⟩])
 (.seq (.reg [⟨(some 35), none, .mov (.t 1)⟩,
  ⟨(some 36), none, .build [(.sl .clip []), (.int .i64 0)] [(0, 1, (.t 35))]⟩,
  ⟨(some 37), none, .box (.t 36) 2 true⟩,
  ⟨(some 38), none, .call 0 [] (.c (.fn 10 [])) [(.t 37), (.c (.int .i64 3))]⟩,
  ⟨(some 9), none, .alloc [(.int .i64 0), (.str []), (.sl .clip [])] false⟩,
  ⟨none, none, .store 3 (.t 9) (.t 38)⟩])
 (.seq (.reg [⟨(some 39), none, .mov (.t 2)⟩,
  ⟨(some 40), none, .build [(.sl .clip []), (.int .i64 0)] [(0, 1, (.t 39))]⟩,
  ⟨(some 41), none, .box (.t 40) 2 true⟩,
  ⟨(some 42), none, .call 0 [] (.c (.fn 10 [])) [(.t 41), (.c (.int .i64 3))]⟩,
  ⟨(some 10), none, .alloc [(.int .i64 0), (.str []), (.sl .clip [])] false⟩,
  ⟨none, none, .store 3 (.t 10) (.t 42)⟩])
 (.seq (.reg [⟨(some 43), none, .load (some 3) (.t 8)⟩,
  ⟨(some 44), none, .load (some 3) (.t 9)⟩,
  ⟨(some 45), none, .call 0 [] (.c (.fn 11 [])) [(.t 43), (.t 44)]⟩,
  ⟨(some 11), none, .mov (.t 45)⟩])
 (.seq (.reg [⟨(some 46), none, .load (some 3) (.t 9)⟩,
  ⟨(some 47), none, .load (some 3) (.t 10)⟩,
  ⟨(some 48), none, .call 0 [] (.c (.fn 11 [])) [(.t 46), (.t 47)]⟩,
  ⟨(some 12), none, .mov (.t 48)⟩])
 (.seq (.reg [⟨(some 49), none, .load (some 3) (.t 8)⟩,
  ⟨(some 50), none, .load (some 3) (.t 10)⟩,
  ⟨(some 51), none, .call 0 [] (.c (.fn 11 [])) [(.t 49), (.t 50)]⟩,
  ⟨(some 13), none, .mov (.t 51)⟩])
 (.seq (.reg [⟨(some 52), none, .mov (.t 7)⟩,
  ⟨(some 53), none, .mov (.t 52)⟩,
  ⟨(some 54), (some (53, true)), .load (some 3) (.t 9)⟩,
  ⟨(some 55), (some (53, true)), .load (some 3) (.t 8)⟩,
  ⟨(some 56), (some (53, true)), .call 0 [] (.c (.fn 11 [])) [(.t 54), (.t 55)]⟩,
  ⟨(some 57), (some (53, true)), .mov (.t 11)⟩,
  ⟨(some 58), (some (53, true)), .neg (.t 57)⟩,
  ⟨(some 59), (some (53, true)), .bin .eql (.t 56) (.t 58)⟩,
  ⟨(some 60), none, .pick (.t 53) (.t 59) (.c (.bool false))⟩,
  ⟨(some 61), none, .mov (.t 60)⟩,
  ⟨(some 62), (some (61, true)), .mov (.t 11)⟩,
  ⟨(some 63), (some (61, true)), .bin .eql (.t 62) (.c (.int .i64 0))⟩,
  ⟨(some 64), (some (61, true)), .load (some 3) (.t 8)⟩,
  ⟨(some 65), (some (61, true)), .load (some 3) (.t 9)⟩,
  ⟨(some 66), (some (61, true)), .call 0 [] (.c (.fn 12 [])) [(.t 64), (.t 65)]⟩,
  ⟨(some 67), (some (61, true)), .eqb false (.t 63) (.t 66)⟩,
  ⟨(some 68), none, .pick (.t 61) (.t 67) (.c (.bool false))⟩,
  ⟨(some 69), none, .mov (.t 68)⟩,
  ⟨(some 70), (some (69, true)), .load (some 3) (.t 8)⟩,
  ⟨(some 71), (some (69, true)), .load (some 3) (.t 8)⟩,
  ⟨(some 72), (some (69, true)), .call 0 [] (.c (.fn 11 [])) [(.t 70), (.t 71)]⟩,
  ⟨(some 73), (some (69, true)), .bin .eql (.t 72) (.c (.int .i64 0))⟩,
  ⟨(some 74), none, .pick (.t 69) (.t 73) (.c (.bool false))⟩,
  ⟨(some 75), none, .mov (.t 74)⟩,
  ⟨(some 76), (some (75, true)), .mov (.t 11)⟩,
  ⟨(some 77), (some (75, true)), .bin .gtr (.t 76) (.c (.int .i64 0))⟩,
  ⟨(some 78), (some (75, true)), .mov (.t 77)⟩,
  ⟨(some 79), (some (78, false)), .mov (.t 12)⟩,
  ⟨(some 80), (some (78, false)), .bin .gtr (.t 79) (.c (.int .i64 0))⟩,
  ⟨(some 81), (some (75, true)), .pick (.t 78) (.c (.bool true)) (.t 80)⟩,
  ⟨(some 82), (some (75, true)), .mov (.t 81)⟩,
  ⟨(some 83), (some (82, false)), .mov (.t 13)⟩,
  ⟨(some 84), (some (82, false)), .bin .leq (.t 83) (.c (.int .i64 0))⟩,
  ⟨(some 85), (some (75, true)), .pick (.t 82) (.c (.bool true)) (.t 84)⟩,
  ⟨(some 86), none, .pick (.t 75) (.t 85) (.c (.bool false))⟩,
  ⟨(some 87), none, .mov (.t 86)⟩,
  ⟨(some 88), (some (87, true)), .mov (.t 11)⟩,
  ⟨(some 89), (some (87, true)), .bin .lss (.t 88) (.c (.int .i64 0))⟩,
  ⟨(some 90), (some (87, true)), .mov (.t 89)⟩,
  ⟨(some 91), (some (90, false)), .mov (.t 12)⟩,
  ⟨(some 92), (some (90, false)), .bin .lss (.t 91) (.c (.int .i64 0))⟩,
  ⟨(some 93), (some (87, true)), .pick (.t 90) (.c (.bool true)) (.t 92)⟩,
  ⟨(some 94), (some (87, true)), .mov (.t 93)⟩,
  ⟨(some 95), (some (94, false)), .mov (.t 13)⟩,
  ⟨(some 96), (some (94, false)), .bin .geq (.t 95) (.c (.int .i64 0))⟩,
  ⟨(some 97), (some (87, true)), .pick (.t 94) (.c (.bool true)) (.t 96)⟩,
  ⟨(some 98), none, .pick (.t 87) (.t 97) (.c (.bool false))⟩,
  ⟨(some 6), none, .mov (.t 98)⟩])
 .ret))))))))))),
  [.t 6], false, true, 99⟩
theorem co3 : compF Try.prog ⟨[33, 37, 41], [], []⟩ false true Try.f3 = some ac3 := by kernel_rfl

/-- paideia/paideialaw2.PrinterUnlike -/
def ac4 : AF := ⟨(.seq (.reg [⟨(some 4), none, .mov (.c (.bool false))⟩])
 (.seq (.reg [⟨(some 12), none, .call 0 [] (.c (.fn 13 [])) []⟩,
  ⟨(some 5), none, .mov (.t 12)⟩])
 (.seq (.seq (.reg [⟨(some 13), none, .mov (.t 5)⟩,
  ⟨(some 14), none, .not (.t 13)⟩])
 (.cond (.t 14) (.seq (.reg [⟨(some 4), none, .mov (.c (.bool false))⟩])
 .ret)
 .skip))
 (.seq (.seq (.reg [⟨(some 15), none, .mov (.t 0)⟩,
  ⟨(some 16), none, .len 1 (.t 15)⟩,
  ⟨(some 17), none, .bin .gtr (.t 16) (.c (.int .i64 80))⟩,
  ⟨(some 18), none, .mov (.t 17)⟩,
  ⟨(some 19), (some (18, false)), .mov (.t 1)⟩,
  ⟨(some 20), (some (18, false)), .len 1 (.t 19)⟩,
  ⟨(some 21), (some (18, false)), .bin .gtr (.t 20) (.c (.int .i64 80))⟩,
  ⟨(some 22), none, .pick (.t 18) (.c (.bool true)) (.t 21)⟩])
 (.cond (.t 22) (.seq (.reg [⟨(some 23), none, .mov (.t 5)⟩,
  ⟨(some 4), none, .mov (.t 23)⟩])
 .ret)
 .skip))
 (.seq (.reg [⟨(some 24), none, .mov (.t 0)⟩,
  ⟨(some 25), none, .build [(.sl .clip []), (.int .i64 0)] [(0, 1, (.t 24))]⟩,
  ⟨(some 26), none, .box (.t 25) 2 true⟩,
  ⟨(some 6), none, .mov (.t 26)⟩])
 (.seq (.reg [⟨(some 27), none, .mov (.t 1)⟩,
  ⟨(some 28), none, .build [(.sl .clip []), (.int .i64 0)] [(0, 1, (.t 27))]⟩,
  ⟨(some 29), none, .box (.t 28) 2 true⟩,
  ⟨(some 7), none, .mov (.t 29)⟩])
 (.seq (.reg [⟨(some 30), none, .mov (.t 6)⟩,
  ⟨(some 31), none, .call 0 [] (.c (.fn 10 [])) [(.t 30), (.c (.int .i64 4))]⟩,
  ⟨(some 8), none, .alloc [(.int .i64 0), (.str []), (.sl .clip [])] false⟩,
  ⟨none, none, .store 3 (.t 8) (.t 31)⟩])
 (.seq (.reg [⟨(some 32), none, .mov (.t 7)⟩,
  ⟨(some 33), none, .call 0 [] (.c (.fn 10 [])) [(.t 32), (.c (.int .i64 4))]⟩,
  ⟨(some 9), none, .alloc [(.int .i64 0), (.str []), (.sl .clip [])] false⟩,
  ⟨none, none, .store 3 (.t 9) (.t 33)⟩])
 (.seq (.reg [⟨(some 34), none, .mov (.t 6)⟩,
  ⟨(some 35), none, .call 0 [] (.c (.fn 14 [])) [(.t 34)]⟩,
  ⟨(some 10), none, .alloc [(.sl .clip []), (.sl .clip []), (.int .i64 0), (.str []), (.sl .clip [])] false⟩,
  ⟨none, none, .store 5 (.t 10) (.t 35)⟩])
 (.seq (.reg [⟨(some 36), none, .mov (.t 7)⟩,
  ⟨(some 37), none, .call 0 [] (.c (.fn 14 [])) [(.t 36)]⟩,
  ⟨(some 11), none, .alloc [(.sl .clip []), (.sl .clip []), (.int .i64 0), (.str []), (.sl .clip [])] false⟩,
  ⟨none, none, .store 5 (.t 11) (.t 37)⟩])
 (.seq (.reg [⟨(some 38), none, .faddr 0 (.t 10)⟩,
  ⟨none, none, .store 1 (.t 38) (.c (.sl .clip []))⟩])
 (.seq (.reg [⟨(some 39), none, .faddr 0 (.t 11)⟩,
  ⟨none, none, .store 1 (.t 39) (.c (.sl .clip []))⟩])
 (.seq (.reg [⟨(some 40), none, .mov (.t 5)⟩,
  ⟨(some 41), none, .mov (.t 40)⟩,
  ⟨(some 42), (some (41, true)), .load (some 3) (.t 8)⟩,
  ⟨(some 43), (some (41, true)), .call 0 [] (.c (.fn 15 [])) [(.t 42)]⟩,
  ⟨(some 44), (some (41, true)), .loadL (some 3) (.t 9)⟩,
  ⟨(some 45), (some (41, true)), .call 0 [] (.c (.fn 15 [])) [(.t 44)]⟩,
  ⟨(some 46), (some (41, true)), .bin .eql (.t 43) (.t 45)⟩,
  ⟨(some 47), (some (41, true)), .loadL (some 3) (.t 8)⟩,
  ⟨(some 48), (some (41, true)), .loadL (some 3) (.t 9)⟩,
  ⟨(some 49), (some (41, true)), .call 0 [] (.c (.fn 16 [])) [(.t 47), (.t 48)]⟩,
  ⟨(some 50), (some (41, true)), .eqb false (.t 46) (.t 49)⟩,
  ⟨(some 51), none, .pick (.t 41) (.t 50) (.c (.bool false))⟩,
  ⟨(some 52), none, .mov (.t 51)⟩,
  ⟨(some 53), (some (52, true)), .load (some 5) (.t 10)⟩,
  ⟨(some 54), (some (52, true)), .call 0 [] (.c (.fn 17 [])) [(.t 53)]⟩,
  ⟨(some 55), (some (52, true)), .loadL (some 5) (.t 11)⟩,
  ⟨(some 56), (some (52, true)), .call 0 [] (.c (.fn 17 [])) [(.t 55)]⟩,
  ⟨(some 57), (some (52, true)), .bin .eql (.t 54) (.t 56)⟩,
  ⟨(some 58), (some (52, true)), .loadL (some 5) (.t 10)⟩,
  ⟨(some 59), (some (52, true)), .loadL (some 5) (.t 11)⟩,
  ⟨(some 60), (some (52, true)), .call 0 [] (.c (.fn 18 [])) [(.t 58), (.t 59)]⟩,
  ⟨(some 61), (some (52, true)), .eqb false (.t 57) (.t 60)⟩,
  ⟨(some 62), none, .pick (.t 52) (.t 61) (.c (.bool false))⟩,
  ⟨(some 4), none, .mov (.t 62)⟩])
 .ret))))))))))))),
  [.t 4], false, true, 63⟩
theorem co4 : compF Try.prog ⟨[26, 29], [], []⟩ false true Try.f4 = some ac4 := by kernel_rfl

/-- paideia/paideialaw2.PrinterTypes -/
def ac5 : AF := ⟨(.seq (.reg [⟨(some 2), none, .mov (.c (.bool false))⟩])
 (.seq (.reg [⟨(some 14), none, .call 0 [] (.c (.fn 13 [])) []⟩,
  ⟨(some 3), none, .mov (.t 14)⟩])
 (.seq (.seq (.reg [⟨(some 15), none, .mov (.t 3)⟩,
  ⟨(some 16), none, .not (.t 15)⟩])
 (.cond (.t 16) (.seq (.reg [⟨(some 2), none, .mov (.c (.bool false))⟩])
 .ret)
 .skip))
 (.seq (.reg [⟨(some 17), none, .build [(.int .i64 0), (.str []), (.sl .clip [])] [(0, 1, (.c (.int .i64 1))), (1, 1, (.c (.str [97])))]⟩,
  ⟨(some 4), none, .alloc [(.int .i64 0), (.str []), (.sl .clip [])] false⟩,
  ⟨none, none, .store 3 (.t 4) (.t 17)⟩])
 (.seq (.reg [⟨(some 18), none, .load (some 3) (.t 4)⟩,
  ⟨(some 19), none, .load (some 3) (.t 4)⟩,
  ⟨(some 20), none, .bslice [(.int .i64 0), (.str []), (.sl .clip [])] 2 [(0, (.t 18)), (1, (.t 19))]⟩,
  ⟨(some 21), none, .build [(.int .i64 0), (.str []), (.sl .clip [])] [(0, 1, (.c (.int .i64 3))), (2, 1, (.t 20))]⟩,
  ⟨(some 5), none, .alloc [(.int .i64 0), (.str []), (.sl .clip [])] false⟩,
  ⟨none, none, .store 3 (.t 5) (.t 21)⟩])
 (.seq (.reg [⟨(some 22), none, .load (some 3) (.t 4)⟩,
  ⟨(some 23), none, .bslice [(.int .i64 0), (.str []), (.sl .clip [])] 1 [(0, (.t 22))]⟩,
  ⟨(some 24), none, .build [(.int .i64 0), (.str []), (.sl .clip [])] [(0, 1, (.c (.int .i64 2))), (1, 1, (.c (.str [76, 105, 115, 116]))), (2, 1, (.t 23))]⟩,
  ⟨(some 6), none, .alloc [(.int .i64 0), (.str []), (.sl .clip [])] false⟩,
  ⟨none, none, .store 3 (.t 6) (.t 24)⟩])
 (.seq (.reg [⟨(some 25), none, .build [(.int .i64 0), (.str []), (.sl .clip [])] [(0, 1, (.c (.int .i64 2))), (1, 1, (.c (.str [73, 110, 116])))]⟩,
  ⟨(some 7), none, .alloc [(.int .i64 0), (.str []), (.sl .clip [])] false⟩,
  ⟨none, none, .store 3 (.t 7) (.t 25)⟩])
 (.seq (.reg [⟨(some 26), none, .load (some 3) (.t 5)⟩,
  ⟨(some 27), none, .bslice [(.int .i64 0), (.str []), (.sl .clip [])] 1 [(0, (.t 26))]⟩,
  ⟨(some 28), none, .build [(.int .i64 0), (.str []), (.sl .clip [])] [(0, 1, (.c (.int .i64 4))), (1, 1, (.c (.str [98]))), (2, 1, (.t 27))]⟩,
  ⟨(some 8), none, .alloc [(.int .i64 0), (.str []), (.sl .clip [])] false⟩,
  ⟨none, none, .store 3 (.t 8) (.t 28)⟩])
 (.seq (.reg [⟨(some 29), none, .load (some 3) (.t 5)⟩,
  ⟨(some 30), none, .load (some 3) (.t 5)⟩,
  ⟨(some 31), none, .load (some 3) (.t 4)⟩,
  ⟨(some 32), none, .bslice [(.int .i64 0), (.str []), (.sl .clip [])] 2 [(0, (.t 30)), (1, (.t 31))]⟩,
  ⟨(some 33), none, .build [(.int .i64 0), (.str []), (.sl .clip [])] [(0, 1, (.c (.int .i64 3))), (2, 1, (.t 32))]⟩,
  ⟨(some 34), none, .load (some 3) (.t 4)⟩,
  ⟨(some 35), none, .load (some 3) (.t 5)⟩,
  ⟨(some 36), none, .bslice [(.int .i64 0), (.str []), (.sl .clip [])] 2 [(0, (.t 34)), (1, (.t 35))]⟩,
  ⟨(some 37), none, .build [(.int .i64 0), (.str []), (.sl .clip [])] [(0, 1, (.c (.int .i64 3))), (2, 1, (.t 36))]⟩,
  ⟨(some 38), none, .load (some 3) (.t 6)⟩,
  ⟨(some 39), none, .load (some 3) (.t 7)⟩,
  ⟨(some 40), none, .bslice [(.int .i64 0), (.str []), (.sl .clip [])] 2 [(0, (.t 38)), (1, (.t 39))]⟩,
  ⟨(some 41), none, .build [(.int .i64 0), (.str []), (.sl .clip [])] [(0, 1, (.c (.int .i64 2))), (1, 1, (.c (.str [80]))), (2, 1, (.t 40))]⟩,
  ⟨(some 42), none, .load (some 3) (.t 5)⟩,
  ⟨(some 43), none, .load (some 3) (.t 4)⟩,
  ⟨(some 44), none, .bslice [(.int .i64 0), (.str []), (.sl .clip [])] 2 [(0, (.t 42)), (1, (.t 43))]⟩,
  ⟨(some 45), none, .build [(.int .i64 0), (.str []), (.sl .clip [])] [(0, 1, (.c (.int .i64 2))), (1, 1, (.c (.str [80]))), (2, 1, (.t 44))]⟩,
  ⟨(some 46), none, .load (some 3) (.t 6)⟩,
  ⟨(some 47), none, .load (some 3) (.t 7)⟩,
  ⟨(some 48), none, .bslice [(.int .i64 0), (.str []), (.sl .clip [])] 2 [(0, (.t 46)), (1, (.t 47))]⟩,
  ⟨(some 49), none, .build [(.int .i64 0), (.str []), (.sl .clip [])] [(0, 1, (.c (.int .i64 3))), (2, 1, (.t 48))]⟩,
  ⟨(some 50), none, .load (some 3) (.t 8)⟩,
  ⟨(some 51), none, .load (some 3) (.t 8)⟩,
  ⟨(some 52), none, .load (some 3) (.t 8)⟩,
  ⟨(some 53), none, .bslice [(.int .i64 0), (.str []), (.sl .clip [])] 2 [(0, (.t 51)), (1, (.t 52))]⟩,
  ⟨(some 54), none, .build [(.int .i64 0), (.str []), (.sl .clip [])] [(0, 1, (.c (.int .i64 3))), (2, 1, (.t 53))]⟩,
  ⟨(some 55), none, .load (some 3) (.t 8)⟩,
  ⟨(some 56), none, .bslice [(.int .i64 0), (.str []), (.sl .clip [])] 1 [(0, (.t 55))]⟩,
  ⟨(some 57), none, .build [(.int .i64 0), (.str []), (.sl .clip [])] [(0, 1, (.c (.int .i64 2))), (1, 1, (.c (.str [80]))), (2, 1, (.t 56))]⟩,
  ⟨(some 58), none, .bslice [(.int .i64 0), (.str []), (.sl .clip [])] 9 [(0, (.t 29)), (1, (.t 33)), (2, (.t 37)), (3, (.t 41)), (4, (.t 45)), (5, (.t 49)), (6, (.t 50)), (7, (.t 54)), (8, (.t 57))]⟩,
  ⟨(some 9), none, .mov (.t 58)⟩])
 (.seq (.reg [⟨(some 59), none, .bslice [(.str [])] 9 [(0, (.c (.str [97, 32, 45, 62, 32, 97]))), (1, (.c (.str [40, 97, 32, 45, 62, 32, 97, 41, 32, 45, 62, 32, 97]))), (2, (.c (.str [97, 32, 45, 62, 32, 97, 32, 45, 62, 32, 97]))), (3, (.c (.str [80, 32, 40, 76, 105, 115, 116, 32, 97, 41, 32, 73, 110, 116]))), (4, (.c (.str [80, 32, 40, 97, 32, 45, 62, 32, 97, 41, 32, 97]))), (5, (.c (.str [76, 105, 115, 116, 32, 97, 32, 45, 62, 32, 73, 110, 116]))), (6, (.c (.str [102, 111, 114, 97, 108, 108, 32, 98, 46, 32, 97, 32, 45, 62, 32, 97]))), (7, (.c (.str [40, 102, 111, 114, 97, 108, 108, 32, 98, 46, 32, 97, 32, 45, 62, 32, 97, 41, 32, 45, 62, 32, 102, 111, 114, 97, 108, 108, 32, 98, 46, 32, 97, 32, 45, 62, 32, 97]))), (8, (.c (.str [80, 32, 40, 102, 111, 114, 97, 108, 108, 32, 98, 46, 32, 97, 32, 45, 62, 32, 97, 41])))]⟩,
  ⟨(some 10), none, .mov (.t 59)⟩])
 (.seq (.reg [⟨(some 60), none, .mov (.t 0)⟩,
  ⟨(some 61), none, .mov (.t 9)⟩,
  ⟨(some 62), none, .len 1 (.t 61)⟩,
  ⟨(some 63), none, .bin .rem (.t 60) (.t 62)⟩,
  ⟨(some 64), none, .mov (.t 9)⟩,
  ⟨(some 65), none, .len 1 (.t 64)⟩,
  ⟨(some 66), none, .bin .add (.t 63) (.t 65)⟩,
  ⟨(some 67), none, .mov (.t 9)⟩,
  ⟨(some 68), none, .len 1 (.t 67)⟩,
  ⟨(some 69), none, .bin .rem (.t 66) (.t 68)⟩,
  ⟨(some 11), none, .mov (.t 69)⟩])
 (.seq (.reg [⟨(some 70), none, .load (some 3) (.t 6)⟩,
  ⟨(some 71), none, .build [(.str []), (.int .i64 0), (.str []), (.sl .clip [])] [(0, 1, (.c (.str [67]))), (1, 3, (.t 70))]⟩,
  ⟨(some 72), none, .load (some 3) (.t 4)⟩,
  ⟨(some 73), none, .build [(.str []), (.int .i64 0), (.str []), (.sl .clip [])] [(0, 1, (.c (.str [68]))), (1, 3, (.t 72))]⟩,
  ⟨(some 74), none, .bslice [(.str []), (.int .i64 0), (.str []), (.sl .clip [])] 2 [(0, (.t 71)), (1, (.t 73))]⟩,
  ⟨(some 75), none, .mov (.t 11)⟩,
  ⟨(some 76), none, .bin .rem (.t 75) (.c (.int .i64 3))⟩,
  ⟨(some 77), none, .slice 4 (.t 74) none (some (.t 76)) none⟩,
  ⟨(some 78), none, .mov (.t 9)⟩,
  ⟨(some 79), none, .mov (.t 11)⟩,
  ⟨(some 80), none, .iaddr 3 (.t 78) (.t 79)⟩,
  ⟨(some 81), none, .load (some 3) (.t 80)⟩,
  ⟨(some 82), none, .build [(.sl .clip []), (.sl .clip []), (.int .i64 0), (.str []), (.sl .clip [])] [(1, 1, (.t 77)), (2, 3, (.t 81))]⟩,
  ⟨(some 12), none, .alloc [(.sl .clip []), (.sl .clip []), (.int .i64 0), (.str []), (.sl .clip [])] false⟩,
  ⟨none, none, .store 5 (.t 12) (.t 82)⟩])
 (.seq (.reg [⟨(some 83), none, .bslice [(.str [])] 3 [(0, (.c (.str []))), (1, (.c (.str [67, 32, 40, 76, 105, 115, 116, 32, 97, 41, 32, 61, 62, 32]))), (2, (.c (.str [40, 67, 32, 40, 76, 105, 115, 116, 32, 97, 41, 44, 32, 68, 32, 97, 41, 32, 61, 62, 32])))]⟩,
  ⟨(some 84), none, .mov (.t 11)⟩,
  ⟨(some 85), none, .bin .rem (.t 84) (.c (.int .i64 3))⟩,
  ⟨(some 86), none, .iaddr 1 (.t 83) (.t 85)⟩,
  ⟨(some 87), none, .load none (.t 86)⟩,
  ⟨(some 13), none, .mov (.t 87)⟩])
 (.seq (.reg [⟨(some 88), none, .mov (.t 3)⟩,
  ⟨(some 89), none, .mov (.t 88)⟩,
  ⟨(some 90), (some (89, true)), .mov (.t 9)⟩,
  ⟨(some 91), (some (89, true)), .mov (.t 11)⟩,
  ⟨(some 92), (some (89, true)), .iaddr 3 (.t 90) (.t 91)⟩,
  ⟨(some 93), (some (89, true)), .load (some 3) (.t 92)⟩,
  ⟨(some 94), (some (89, true)), .call 0 [] (.c (.fn 15 [])) [(.t 93)]⟩,
  ⟨(some 95), (some (89, true)), .mov (.t 10)⟩,
  ⟨(some 96), (some (89, true)), .mov (.t 11)⟩,
  ⟨(some 97), (some (89, true)), .iaddr 1 (.t 95) (.t 96)⟩,
  ⟨(some 98), (some (89, true)), .loadL none (.t 97)⟩,
  ⟨(some 99), (some (89, true)), .bin .eql (.t 94) (.t 98)⟩,
  ⟨(some 100), none, .pick (.t 89) (.t 99) (.c (.bool false))⟩,
  ⟨(some 101), none, .mov (.t 100)⟩,
  ⟨(some 102), (some (101, true)), .load (some 5) (.t 12)⟩,
  ⟨(some 103), (some (101, true)), .call 0 [] (.c (.fn 17 [])) [(.t 102)]⟩,
  ⟨(some 104), (some (101, true)), .mov (.t 13)⟩,
  ⟨(some 105), (some (101, true)), .mov (.t 10)⟩,
  ⟨(some 106), (some (101, true)), .mov (.t 11)⟩,
  ⟨(some 107), (some (101, true)), .iaddr 1 (.t 105) (.t 106)⟩,
  ⟨(some 108), (some (101, true)), .loadL none (.t 107)⟩,
  ⟨(some 109), (some (101, true)), .bin .add (.t 104) (.t 108)⟩,
  ⟨(some 110), (some (101, true)), .bin .eql (.t 103) (.t 109)⟩,
  ⟨(some 111), none, .pick (.t 101) (.t 110) (.c (.bool false))⟩,
  ⟨(some 2), none, .mov (.t 111)⟩])
 .ret)))))))))))))),
  [.t 2], false, true, 112⟩
theorem co5 : compF Try.prog ⟨[], [], []⟩ false true Try.f5 = some ac5 := by kernel_rfl

/-- paideia/paideialaw4.first -/
def ac9 : AF := ⟨(.seq (.reg [⟨(some 0), none, .mov (.c (.bool false))⟩])
 (.seq (.reg [⟨(some 3), none, .call 0 [] (.c (.fn 27 [])) [(.c (.str [97]))]⟩,
  ⟨(some 1), none, .alloc [(.int .i64 0), (.str []), (.sl .clip [])] false⟩,
  ⟨none, none, .store 3 (.t 1) (.t 3)⟩])
 (.seq (.reg [⟨(some 4), none, .load (some 3) (.t 1)⟩,
  ⟨(some 5), none, .load (some 3) (.t 1)⟩,
  ⟨(some 6), none, .bslice [(.int .i64 0), (.str []), (.sl .clip [])] 2 [(0, (.t 4)), (1, (.t 5))]⟩,
  ⟨(some 7), none, .call 0 [] (.c (.fn 29 [])) [(.t 6)]⟩,
  ⟨(some 8), none, .bslice [(.int .i64 0), (.str []), (.sl .clip [])] 1 [(0, (.t 7))]⟩,
  ⟨(some 9), none, .call 0 [] (.c (.fn 28 [])) [(.t 8)]⟩,
  ⟨(some 2), none, .mov (.t 9)⟩])
 (.seq (.reg [⟨(some 10), none, .mov (.t 2)⟩,
  ⟨(some 11), none, .len 1 (.t 10)⟩,
  ⟨(some 12), none, .bin .eql (.t 11) (.c (.int .i64 1))⟩,
  ⟨(some 13), none, .mov (.t 12)⟩,
  ⟨(some 14), (some (13, true)), .mov (.t 2)⟩,
  ⟨(some 15), (some (13, true)), .iaddr 1 (.t 14) (.c (.int .i64 0))⟩,
  ⟨(some 16), (some (13, true)), .load none (.t 15)⟩,
  ⟨(some 17), (some (13, true)), .bin .eql (.t 16) (.c (.str [97]))⟩,
  ⟨(some 18), none, .pick (.t 13) (.t 17) (.c (.bool false))⟩,
  ⟨(some 0), none, .mov (.t 18)⟩])
 .ret)))),
  [.t 0], false, true, 19⟩
theorem co9 : compF Try.prog ⟨[], [], []⟩ false true Try.f9 = some ac9 := by kernel_rfl

/-- paideia/paideiamake.Type -/
def ac10 : AF := ⟨(.seq (.reg [⟨(some 4), none, .alloc [(.int .i64 0), (.str []), (.sl .clip [])] false⟩])
 (.seq (.reg [⟨(some 8), none, .mov (.t 0)⟩,
  ⟨(some 9), none, .call 0 [] (.c (.fn 30 [])) [(.t 8), (.c (.int .i64 9))]⟩,
  ⟨(some 5), none, .mov (.t 9)⟩])
 (.seq (.seq (.reg [⟨(some 10), none, .mov (.t 1)⟩,
  ⟨(some 11), none, .bin .lss (.t 10) (.c (.int .i64 1))⟩])
 (.cond (.t 11) (.reg [⟨(some 12), none, .mov (.t 5)⟩,
  ⟨(some 13), none, .bin .rem (.t 12) (.c (.int .i64 5))⟩,
  ⟨(some 5), none, .mov (.t 13)⟩])
 .skip))
 (.seq (.seq (.reg [⟨(some 14), none, .mov (.t 5)⟩])
 (.block 0 (.seq (.seq (.reg [⟨(some 16), none, .bin .eql (.t 14) (.c (.int .i64 0))⟩,
  ⟨(some 15), none, .mov (.t 16)⟩])
 (.cond (.t 15) .skip
 (.seq (.reg [⟨(some 17), none, .bin .eql (.t 14) (.c (.int .i64 1))⟩,
  ⟨(some 15), none, .mov (.t 17)⟩])
 (.cond (.t 15) .skip
 (.reg [⟨(some 18), none, .bin .eql (.t 14) (.c (.int .i64 2))⟩,
  ⟨(some 15), none, .mov (.t 18)⟩])))))
 (.cond (.t 15) (.seq (.reg [⟨(some 19), none, .bslice [(.str [])] 3 [(0, (.c (.str [97]))), (1, (.c (.str [98]))), (2, (.c (.str [99])))]⟩,
  ⟨(some 20), none, .mov (.t 5)⟩,
  ⟨(some 21), none, .iaddr 1 (.t 19) (.t 20)⟩,
  ⟨(some 22), none, .load none (.t 21)⟩,
  ⟨(some 23), none, .call 0 [] (.c (.fn 31 [])) [(.t 22)]⟩,
  ⟨none, none, .store 3 (.t 4) (.t 23)⟩])
 .ret)
 (.seq (.reg [⟨(some 25), none, .bin .eql (.t 14) (.c (.int .i64 3))⟩,
  ⟨(some 24), none, .mov (.t 25)⟩])
 (.cond (.t 24) (.seq (.reg [⟨(some 26), none, .call 0 [] (.c (.fn 32 [])) [(.c (.str [73, 110, 116])), (.c (.sl .clip []))]⟩,
  ⟨none, none, .store 3 (.t 4) (.t 26)⟩])
 .ret)
 (.seq (.reg [⟨(some 28), none, .bin .eql (.t 14) (.c (.int .i64 4))⟩,
  ⟨(some 27), none, .mov (.t 28)⟩])
 (.cond (.t 27) (.seq (.reg [⟨(some 29), none, .call 0 [] (.c (.fn 32 [])) [(.c (.str [66, 111, 111, 108])), (.c (.sl .clip []))]⟩,
  ⟨none, none, .store 3 (.t 4) (.t 29)⟩])
 .ret)
 (.seq (.reg [⟨(some 31), none, .bin .eql (.t 14) (.c (.int .i64 5))⟩,
  ⟨(some 30), none, .mov (.t 31)⟩])
 (.cond (.t 30) (.seq (.reg [⟨(some 32), none, .mov (.t 0)⟩,
  ⟨(some 33), none, .mov (.t 1)⟩,
  ⟨(some 34), none, .bin .sub (.t 33) (.c (.int .i64 1))⟩,
  ⟨(some 35), none, .call 0 [] (.c (.fn 10 [])) [(.t 32), (.t 34)]⟩,
  ⟨(some 36), none, .bslice [(.int .i64 0), (.str []), (.sl .clip [])] 1 [(0, (.t 35))]⟩,
  ⟨(some 37), none, .call 0 [] (.c (.fn 32 [])) [(.c (.str [76, 105, 115, 116])), (.t 36)]⟩,
  ⟨none, none, .store 3 (.t 4) (.t 37)⟩])
 .ret)
 (.seq (.reg [⟨(some 39), none, .bin .eql (.t 14) (.c (.int .i64 6))⟩,
  ⟨(some 38), none, .mov (.t 39)⟩])
 (.cond (.t 38) (.seq (.reg [⟨(some 40), none, .mov (.t 0)⟩,
  ⟨(some 41), none, .mov (.t 1)⟩,
  ⟨(some 42), none, .bin .sub (.t 41) (.c (.int .i64 1))⟩,
  ⟨(some 43), none, .call 0 [] (.c (.fn 10 [])) [(.t 40), (.t 42)]⟩,
  ⟨(some 6), none, .alloc [(.int .i64 0), (.str []), (.sl .clip [])] false⟩,
  ⟨none, none, .store 3 (.t 6) (.t 43)⟩])
 (.seq (.reg [⟨(some 44), none, .loadL (some 3) (.t 6)⟩,
  ⟨(some 45), none, .mov (.t 0)⟩,
  ⟨(some 46), none, .mov (.t 1)⟩,
  ⟨(some 47), none, .bin .sub (.t 46) (.c (.int .i64 1))⟩,
  ⟨(some 48), none, .call 0 [] (.c (.fn 10 [])) [(.t 45), (.t 47)]⟩,
  ⟨(some 49), none, .bslice [(.int .i64 0), (.str []), (.sl .clip [])] 2 [(0, (.t 44)), (1, (.t 48))]⟩,
  ⟨(some 50), none, .call 0 [] (.c (.fn 32 [])) [(.c (.str [80, 97, 105, 114])), (.t 49)]⟩,
  ⟨none, none, .store 3 (.t 4) (.t 50)⟩])
 .ret))
 .skip))))))))))))
 (.seq (.reg [⟨(some 51), none, .mov (.t 0)⟩,
  ⟨(some 52), none, .mov (.t 1)⟩,
  ⟨(some 53), none, .bin .sub (.t 52) (.c (.int .i64 1))⟩,
  ⟨(some 54), none, .call 0 [] (.c (.fn 10 [])) [(.t 51), (.t 53)]⟩,
  ⟨(some 7), none, .alloc [(.int .i64 0), (.str []), (.sl .clip [])] false⟩,
  ⟨none, none, .store 3 (.t 7) (.t 54)⟩])
 (.seq (.reg [⟨(some 55), none, .loadL (some 3) (.t 7)⟩,
  ⟨(some 56), none, .mov (.t 0)⟩,
  ⟨(some 57), none, .mov (.t 1)⟩,
  ⟨(some 58), none, .bin .sub (.t 57) (.c (.int .i64 1))⟩,
  ⟨(some 59), none, .call 0 [] (.c (.fn 10 [])) [(.t 56), (.t 58)]⟩,
  ⟨(some 60), none, .call 0 [] (.c (.fn 33 [])) [(.t 55), (.t 59)]⟩,
  ⟨none, none, .store 3 (.t 4) (.t 60)⟩])
 .ret)))))),
  [.cell 4 (some 3)], false, true, 61⟩
theorem co10 : compF Try.prog ⟨[], [], []⟩ false true Try.f10 = some ac10 := by kernel_rfl

/-- paideia/types.Compare -/
def ac11 : AF := ⟨(.seq (.reg [⟨(some 2), none, .box (.t 0) 3 false⟩,
  ⟨(some 3), none, .box (.t 1) 3 false⟩,
  ⟨(some 4), none, .mov (.c (.int .i64 0))⟩])
 (.seq (.reg [⟨(some 5), none, .faddr 0 (.t 2)⟩,
  ⟨(some 6), none, .load none (.t 5)⟩,
  ⟨(some 7), none, .faddr 0 (.t 3)⟩,
  ⟨(some 8), none, .load none (.t 7)⟩,
  ⟨(some 9), none, .call 0 [] (.c (.fn 35 [])) [(.t 6), (.t 8)]⟩,
  ⟨(some 10), none, .faddr 1 (.t 2)⟩,
  ⟨(some 11), none, .loadL none (.t 10)⟩,
  ⟨(some 12), none, .faddr 1 (.t 3)⟩,
  ⟨(some 13), none, .loadL none (.t 12)⟩,
  ⟨(some 14), none, .call 0 [] (.c (.fn 36 [])) [(.t 11), (.t 13)]⟩,
  ⟨(some 15), none, .faddr 2 (.t 2)⟩,
  ⟨(some 16), none, .loadL none (.t 15)⟩,
  ⟨(some 17), none, .len 1 (.t 16)⟩,
  ⟨(some 18), none, .faddr 2 (.t 3)⟩,
  ⟨(some 19), none, .loadL none (.t 18)⟩,
  ⟨(some 20), none, .len 1 (.t 19)⟩,
  ⟨(some 21), none, .call 0 [] (.c (.fn 35 [])) [(.t 17), (.t 20)]⟩,
  ⟨(some 22), none, .faddr 2 (.t 2)⟩,
  ⟨(some 23), none, .loadL none (.t 22)⟩,
  ⟨(some 24), none, .faddr 2 (.t 3)⟩,
  ⟨(some 25), none, .loadL none (.t 24)⟩,
  ⟨(some 26), none, .call 0 [] (.c (.fn 37 [])) [(.t 23), (.t 25), (.c (.fn 11 []))]⟩,
  ⟨(some 27), none, .bslice [(.int .i64 0)] 4 [(0, (.t 9)), (1, (.t 14)), (2, (.t 21)), (3, (.t 26))]⟩,
  ⟨(some 28), none, .call 0 [] (.c (.fn 34 [])) [(.t 27)]⟩,
  ⟨(some 4), none, .mov (.t 28)⟩])
 .ret)),
  [.t 4], false, true, 29⟩
theorem co11 : compF Try.prog ⟨[], [], []⟩ false true Try.f11 = some ac11 := by kernel_rfl

/-- paideia/types.Same -/
def ac12 : AF := ⟨(.seq (.reg [⟨(some 2), none, .box (.t 0) 3 false⟩,
  ⟨(some 3), none, .box (.t 1) 3 false⟩,
  ⟨(some 4), none, .mov (.c (.bool false))⟩])
 (.seq (.reg [⟨(some 5), none, .load (some 3) (.t 2)⟩,
  ⟨(some 6), none, .load (some 3) (.t 3)⟩,
  ⟨(some 7), none, .call 0 [] (.c (.fn 11 [])) [(.t 5), (.t 6)]⟩,
  ⟨(some 8), none, .bin .eql (.t 7) (.c (.int .i64 0))⟩,
  ⟨(some 4), none, .mov (.t 8)⟩])
 .ret)),
  [.t 4], false, true, 9⟩
theorem co12 : compF Try.prog ⟨[], [], []⟩ false true Try.f12 = some ac12 := by kernel_rfl

/-- paideia/paideialaw2.first -/
def ac13 : AF := ⟨(.seq (.reg [⟨(some 0), none, .mov (.c (.bool false))⟩])
 (.seq (.reg [⟨(some 2), none, .build [(.int .i64 0), (.str []), (.sl .clip [])] [(0, 1, (.c (.int .i64 1))), (1, 1, (.c (.str [97])))]⟩,
  ⟨(some 1), none, .alloc [(.int .i64 0), (.str []), (.sl .clip [])] false⟩,
  ⟨none, none, .store 3 (.t 1) (.t 2)⟩])
 (.seq (.reg [⟨(some 3), none, .load (some 3) (.t 1)⟩,
  ⟨(some 4), none, .load (some 3) (.t 1)⟩,
  ⟨(some 5), none, .bslice [(.int .i64 0), (.str []), (.sl .clip [])] 2 [(0, (.t 3)), (1, (.t 4))]⟩,
  ⟨(some 6), none, .build [(.int .i64 0), (.str []), (.sl .clip [])] [(0, 1, (.c (.int .i64 3))), (2, 1, (.t 5))]⟩,
  ⟨(some 7), none, .call 0 [] (.c (.fn 15 [])) [(.t 6)]⟩,
  ⟨(some 8), none, .bin .eql (.t 7) (.c (.str [97, 32, 45, 62, 32, 97]))⟩,
  ⟨(some 0), none, .mov (.t 8)⟩])
 .ret))),
  [.t 0], false, true, 9⟩
theorem co13 : compF Try.prog ⟨[], [], []⟩ false true Try.f13 = some ac13 := by kernel_rfl

/-- paideia/paideiamake.Scheme -/
def ac14 : AF := ⟨(.seq (.reg [⟨(some 2), none, .alloc [(.sl .clip []), (.sl .clip []), (.int .i64 0), (.str []), (.sl .clip [])] false⟩])
 (.seq (.reg [⟨(some 7), none, .mov (.t 0)⟩,
  ⟨(some 8), none, .call 0 [] (.c (.fn 10 [])) [(.t 7), (.c (.int .i64 3))]⟩,
  ⟨(some 9), none, .build [(.sl .clip []), (.sl .clip []), (.int .i64 0), (.str []), (.sl .clip [])] [(2, 3, (.t 8))]⟩,
  ⟨(some 3), none, .alloc [(.sl .clip []), (.sl .clip []), (.int .i64 0), (.str []), (.sl .clip [])] false⟩,
  ⟨none, none, .store 5 (.t 3) (.t 9)⟩])
 (.seq (.reg [⟨(some 10), none, .mov (.t 0)⟩,
  ⟨(some 11), none, .call 0 [] (.c (.fn 38 [])) [(.t 10), (.c (.int .i64 3)), (.c (.int .i64 0))]⟩,
  ⟨(some 4), none, .mov (.t 11)⟩])
 (.seq (.reg [⟨(some 12), none, .mov (.t 4)⟩,
  ⟨(some 13), none, .faddr 1 (.t 3)⟩,
  ⟨none, none, .store 1 (.t 13) (.t 12)⟩])
 (.seq (.reg [⟨(some 14), none, .bslice [(.str [])] 4 [(0, (.c (.str [97]))), (1, (.c (.str [98]))), (2, (.c (.str [99]))), (3, (.c (.str [100])))]⟩,
  ⟨(some 5), none, .mov (.t 14)⟩])
 (.seq (.seq (.reg [⟨(some 6), none, .mov (.c (.int .i64 0))⟩])
 (.block 0 (.loop [0, 5, 6] [2, 3] (.seq (.seq (.reg [⟨(some 15), none, .mov (.t 6)⟩,
  ⟨(some 16), none, .bin .lss (.t 15) (.c (.int .i64 4))⟩])
 (.cond (.t 16) .skip
 (.exit 0)))
 (.seq (.block 1 (.seq (.reg [⟨(some 19), none, .mov (.t 0)⟩,
  ⟨(some 20), none, .call 0 [] (.c (.fn 30 [])) [(.t 19), (.c (.int .i64 3))]⟩,
  ⟨(some 21), none, .bin .gtr (.t 20) (.c (.int .i64 0))⟩])
 (.cond (.t 21) (.reg [⟨(some 22), none, .faddr 0 (.t 3)⟩,
  ⟨(some 23), none, .load none (.t 22)⟩,
  ⟨(some 24), none, .mov (.t 5)⟩,
  ⟨(some 25), none, .mov (.t 6)⟩,
  ⟨(some 26), none, .iaddr 1 (.t 24) (.t 25)⟩,
  ⟨(some 27), none, .load none (.t 26)⟩,
  ⟨(some 28), none, .bslice [(.str [])] 1 [(0, (.t 27))]⟩,
  ⟨(some 29), none, .append 1 (.t 23) (.t 28)⟩,
  ⟨(some 30), none, .faddr 0 (.t 3)⟩,
  ⟨none, none, .store 1 (.t 30) (.t 29)⟩])
 .skip)))
 (.reg [⟨(some 17), none, .mov (.t 6)⟩,
  ⟨(some 18), none, .bin .add (.t 17) (.c (.int .i64 1))⟩,
  ⟨(some 6), none, .mov (.t 18)⟩]))))))
 (.seq (.reg [⟨(some 31), none, .load (some 5) (.t 3)⟩,
  ⟨none, none, .store 5 (.t 2) (.t 31)⟩])
 .ret))))))),
  [.cell 2 (some 5)], false, true, 32⟩
theorem co14 : compF Try.prog ⟨[], [(6, [0, 5, 6], [2, 3])], []⟩ false true Try.f14 = some ac14 := by kernel_rfl

/-- paideia/printer.Type -/
def ac15 : AF := ⟨(.seq (.reg [⟨(some 1), none, .box (.t 0) 3 false⟩,
  ⟨(some 2), none, .mov (.c (.str []))⟩])
 (.seq (.seq (.reg [⟨(some 6), none, .faddr 0 (.t 1)⟩,
  ⟨(some 7), none, .load none (.t 6)⟩])
 (.block 0 (.seq (.reg [⟨(some 9), none, .bin .eql (.t 7) (.c (.int .i64 3))⟩,
  ⟨(some 8), none, .mov (.t 9)⟩])
 (.cond (.t 8) (.seq (.reg [⟨(some 10), none, .load (some 3) (.t 1)⟩,
  ⟨(some 11), none, .call 0 [] (.c (.fn 40 [])) [(.t 10), (.c (.int .i64 0))]⟩,
  ⟨(some 12), none, .call 0 [] (.c (.fn 39 [])) [(.t 11)]⟩,
  ⟨(some 13), none, .bin .add (.t 12) (.c (.str [32, 45, 62, 32]))⟩,
  ⟨(some 14), none, .loadL (some 3) (.t 1)⟩,
  ⟨(some 15), none, .call 0 [] (.c (.fn 40 [])) [(.t 14), (.c (.int .i64 1))]⟩,
  ⟨(some 16), none, .call 0 [] (.c (.fn 15 [])) [(.t 15)]⟩,
  ⟨(some 17), none, .bin .add (.t 13) (.t 16)⟩,
  ⟨(some 2), none, .mov (.t 17)⟩])
 .ret)
 (.seq (.reg [⟨(some 19), none, .bin .eql (.t 7) (.c (.int .i64 4))⟩,
  ⟨(some 18), none, .mov (.t 19)⟩])
 (.cond (.t 18) (.seq (.reg [⟨(some 20), none, .faddr 1 (.t 1)⟩,
  ⟨(some 21), none, .loadL none (.t 20)⟩,
  ⟨(some 22), none, .bin .add (.c (.str [102, 111, 114, 97, 108, 108, 32])) (.t 21)⟩,
  ⟨(some 23), none, .bin .add (.t 22) (.c (.str [46, 32]))⟩,
  ⟨(some 24), none, .load (some 3) (.t 1)⟩,
  ⟨(some 25), none, .call 0 [] (.c (.fn 40 [])) [(.t 24), (.c (.int .i64 0))]⟩,
  ⟨(some 26), none, .call 0 [] (.c (.fn 15 [])) [(.t 25)]⟩,
  ⟨(some 27), none, .bin .add (.t 23) (.t 26)⟩,
  ⟨(some 2), none, .mov (.t 27)⟩])
 .ret)
 .skip))))))
 (.seq (.reg [⟨(some 28), none, .faddr 1 (.t 1)⟩,
  ⟨(some 29), none, .load none (.t 28)⟩,
  ⟨(some 3), none, .mov (.t 29)⟩])
 (.seq (.seq (.reg [⟨(some 30), none, .faddr 2 (.t 1)⟩,
  ⟨(some 31), none, .load none (.t 30)⟩,
  ⟨(some 32), none, .len 1 (.t 31)⟩,
  ⟨(some 33), none, .mov (.c (.int .i64 0))⟩])
 (.block 1 (.loop [3, 31, 32, 33] [] (.seq (.reg [⟨(some 34), none, .bin .lss (.t 33) (.t 32)⟩])
 (.seq (.cond (.t 34) .skip
 (.exit 1))
 (.seq (.block 2 (.seq (.reg [⟨(some 35), none, .iaddr 3 (.t 31) (.t 33)⟩,
  ⟨(some 36), none, .load (some 3) (.t 35)⟩,
  ⟨(some 5), none, .alloc [(.int .i64 0), (.str []), (.sl .clip [])] false⟩,
  ⟨none, none, .store 3 (.t 5) (.t 36)⟩])
 (.reg [⟨(some 37), none, .mov (.t 3)⟩,
  ⟨(some 38), none, .load (some 3) (.t 5)⟩,
  ⟨(some 39), none, .call 0 [] (.c (.fn 41 [])) [(.t 38)]⟩,
  ⟨(some 40), none, .bin .add (.c (.str [32])) (.t 39)⟩,
  ⟨(some 41), none, .bin .add (.t 37) (.t 40)⟩,
  ⟨(some 3), none, .mov (.t 41)⟩])))
 (.reg [⟨(some 42), none, .bin .add (.t 33) (.c (.int .i64 1))⟩,
  ⟨(some 33), none, .mov (.t 42)⟩])))))))
 (.seq (.reg [⟨(some 43), none, .mov (.t 3)⟩,
  ⟨(some 2), none, .mov (.t 43)⟩])
 .ret))))),
  [.t 2], false, true, 44⟩
theorem co15 : compF Try.prog ⟨[], [(8, [3, 31, 32, 33], [])], []⟩ false true Try.f15 = some ac15 := by kernel_rfl

/-- paideia/paideiaref.SameType -/
def ac16 : AF := ⟨(.seq (.reg [⟨(some 2), none, .box (.t 0) 3 false⟩,
  ⟨(some 3), none, .box (.t 1) 3 false⟩,
  ⟨(some 4), none, .mov (.c (.bool false))⟩])
 (.seq (.reg [⟨(some 5), none, .faddr 0 (.t 2)⟩,
  ⟨(some 6), none, .load none (.t 5)⟩,
  ⟨(some 7), none, .faddr 0 (.t 3)⟩,
  ⟨(some 8), none, .load none (.t 7)⟩,
  ⟨(some 9), none, .bin .eql (.t 6) (.t 8)⟩,
  ⟨(some 10), none, .mov (.t 9)⟩,
  ⟨(some 11), (some (10, true)), .faddr 1 (.t 2)⟩,
  ⟨(some 12), (some (10, true)), .load none (.t 11)⟩,
  ⟨(some 13), (some (10, true)), .faddr 1 (.t 3)⟩,
  ⟨(some 14), (some (10, true)), .load none (.t 13)⟩,
  ⟨(some 15), (some (10, true)), .bin .eql (.t 12) (.t 14)⟩,
  ⟨(some 16), none, .pick (.t 10) (.t 15) (.c (.bool false))⟩,
  ⟨(some 17), none, .mov (.t 16)⟩,
  ⟨(some 18), (some (17, true)), .faddr 2 (.t 2)⟩,
  ⟨(some 19), (some (17, true)), .load none (.t 18)⟩,
  ⟨(some 20), (some (17, true)), .faddr 2 (.t 3)⟩,
  ⟨(some 21), (some (17, true)), .load none (.t 20)⟩,
  ⟨(some 22), (some (17, true)), .call 0 [] (.c (.fn 42 [])) [(.t 19), (.t 21)]⟩,
  ⟨(some 23), none, .pick (.t 17) (.t 22) (.c (.bool false))⟩,
  ⟨(some 4), none, .mov (.t 23)⟩])
 .ret)),
  [.t 4], false, true, 24⟩
theorem co16 : compF Try.prog ⟨[], [], []⟩ false true Try.f16 = some ac16 := by kernel_rfl

/-- paideia/printer.Scheme -/
def ac17 : AF := ⟨(.seq (.reg [⟨(some 1), none, .box (.t 0) 5 false⟩,
  ⟨(some 2), none, .mov (.c (.str []))⟩])
 (.seq (.reg [⟨(some 3), none, .faddr 1 (.t 1)⟩,
  ⟨(some 4), none, .load none (.t 3)⟩,
  ⟨(some 5), none, .call 0 [] (.c (.fn 43 [])) [(.t 4)]⟩,
  ⟨(some 6), none, .faddr 2 (.t 1)⟩,
  ⟨(some 7), none, .loadL (some 3) (.t 6)⟩,
  ⟨(some 8), none, .call 0 [] (.c (.fn 15 [])) [(.t 7)]⟩,
  ⟨(some 9), none, .bin .add (.t 5) (.t 8)⟩,
  ⟨(some 2), none, .mov (.t 9)⟩])
 .ret)),
  [.t 2], false, true, 10⟩
theorem co17 : compF Try.prog ⟨[], [], []⟩ false true Try.f17 = some ac17 := by kernel_rfl

/-- paideia/paideiaref.SameScheme -/
def ac18 : AF := ⟨(.seq (.reg [⟨(some 2), none, .box (.t 0) 5 false⟩,
  ⟨(some 3), none, .box (.t 1) 5 false⟩,
  ⟨(some 4), none, .mov (.c (.bool false))⟩])
 (.seq (.reg [⟨(some 5), none, .faddr 0 (.t 2)⟩,
  ⟨(some 6), none, .load none (.t 5)⟩,
  ⟨(some 7), none, .faddr 0 (.t 3)⟩,
  ⟨(some 8), none, .load none (.t 7)⟩,
  ⟨(some 9), none, .call 0 [] (.c (.fn 44 [])) [(.t 6), (.t 8)]⟩,
  ⟨(some 10), none, .mov (.t 9)⟩,
  ⟨(some 11), (some (10, true)), .faddr 1 (.t 2)⟩,
  ⟨(some 12), (some (10, true)), .load none (.t 11)⟩,
  ⟨(some 13), (some (10, true)), .faddr 1 (.t 3)⟩,
  ⟨(some 14), (some (10, true)), .load none (.t 13)⟩,
  ⟨(some 15), (some (10, true)), .call 0 [] (.c (.fn 45 [])) [(.t 12), (.t 14)]⟩,
  ⟨(some 16), none, .pick (.t 10) (.t 15) (.c (.bool false))⟩,
  ⟨(some 17), none, .mov (.t 16)⟩,
  ⟨(some 18), (some (17, true)), .faddr 2 (.t 2)⟩,
  ⟨(some 19), (some (17, true)), .load (some 3) (.t 18)⟩,
  ⟨(some 20), (some (17, true)), .faddr 2 (.t 3)⟩,
  ⟨(some 21), (some (17, true)), .load (some 3) (.t 20)⟩,
  ⟨(some 22), (some (17, true)), .call 0 [] (.c (.fn 16 [])) [(.t 19), (.t 21)]⟩,
  ⟨(some 23), none, .pick (.t 17) (.t 22) (.c (.bool false))⟩,
  ⟨(some 4), none, .mov (.t 23)⟩])
 .ret)),
  [.t 4], false, true, 24⟩
theorem co18 : compF Try.prog ⟨[], [], []⟩ false true Try.f18 = some ac18 := by kernel_rfl

/-- paideia/types.Var -/
def ac27 : AF := ⟨(.seq (.reg [⟨(some 2), none, .alloc [(.int .i64 0), (.str []), (.sl .clip [])] false⟩])
 (.seq (.reg [⟨(some 3), none, .mov (.t 0)⟩,
  ⟨(some 4), none, .build [(.int .i64 0), (.str []), (.sl .clip [])] [(0, 1, (.c (.int .i64 1))), (1, 1, (.t 3))]⟩,
  ⟨none, none, .store 3 (.t 2) (.t 4)⟩])
 .ret)),
  [.cell 2 (some 3)], false, true, 5⟩
theorem co27 : compF Try.prog ⟨[], [], []⟩ false true Try.f27 = some ac27 := by kernel_rfl

/-- paideia/types.Vars -/
def ac28 : AF := ⟨(.seq (.reg [⟨(some 2), none, .mov (.c (.sl .clip []))⟩])
 (.seq (.reg [⟨(some 3), none, .mov (.c (.sl .clip []))⟩])
 (.seq (.seq (.reg [⟨(some 6), none, .mov (.t 0)⟩,
  ⟨(some 7), none, .len 1 (.t 6)⟩,
  ⟨(some 8), none, .mov (.c (.int .i64 0))⟩])
 (.block 0 (.loop [3, 6, 7, 8] [] (.seq (.reg [⟨(some 9), none, .bin .lss (.t 8) (.t 7)⟩])
 (.seq (.cond (.t 9) .skip
 (.exit 0))
 (.seq (.block 1 (.seq (.reg [⟨(some 10), none, .iaddr 3 (.t 6) (.t 8)⟩,
  ⟨(some 11), none, .load (some 3) (.t 10)⟩,
  ⟨(some 5), none, .alloc [(.int .i64 0), (.str []), (.sl .clip [])] false⟩,
  ⟨none, none, .store 3 (.t 5) (.t 11)⟩])
 (.reg [⟨(some 12), none, .load (some 3) (.t 5)⟩,
  ⟨(some 13), none, .mov (.t 3)⟩,
  ⟨(some 14), none, .call 0 [2] (.c (.fn 51 [])) [(.t 12), (.c (.sl .clip [])), (.t 13)]⟩,
  ⟨(some 3), none, .mov (.t 14)⟩])))
 (.reg [⟨(some 15), none, .bin .add (.t 8) (.c (.int .i64 1))⟩,
  ⟨(some 8), none, .mov (.t 15)⟩])))))))
 (.seq (.reg [⟨(some 16), none, .mov (.t 3)⟩,
  ⟨(some 2), none, .mov (.t 16)⟩])
 .ret)))),
  [.t 2], false, true, 17⟩
theorem co28 : compF Try.prog ⟨[], [(3, [3, 6, 7, 8], [])], [(51, 0, [2])]⟩ false true Try.f28 = some ac28 := by kernel_rfl

/-- paideia/types.Fun -/
def ac29 : AF := ⟨(.seq (.reg [⟨(some 2), none, .alloc [(.int .i64 0), (.str []), (.sl .clip [])] false⟩])
 (.seq (.seq (.reg [⟨(some 5), none, .mov (.t 0)⟩,
  ⟨(some 6), none, .len 1 (.t 5)⟩,
  ⟨(some 7), none, .bin .eql (.t 6) (.c (.int .i64 0))⟩])
 (.cond (.t 7) (.seq (.reg [⟨(some 8), none, .call 0 [] (.c (.fn 52 [])) [(.c (.str [85, 110, 105, 116])), (.c (.sl .clip []))]⟩,
  ⟨none, none, .store 3 (.t 2) (.t 8)⟩])
 .ret)
 .skip))
 (.seq (.reg [⟨(some 9), none, .mov (.t 0)⟩,
  ⟨(some 10), none, .mov (.t 0)⟩,
  ⟨(some 11), none, .len 1 (.t 10)⟩,
  ⟨(some 12), none, .bin .sub (.t 11) (.c (.int .i64 1))⟩,
  ⟨(some 13), none, .iaddr 3 (.t 9) (.t 12)⟩,
  ⟨(some 14), none, .load (some 3) (.t 13)⟩,
  ⟨(some 3), none, .alloc [(.int .i64 0), (.str []), (.sl .clip [])] false⟩,
  ⟨none, none, .store 3 (.t 3) (.t 14)⟩])
 (.seq (.seq (.reg [⟨(some 15), none, .mov (.t 0)⟩,
  ⟨(some 16), none, .len 1 (.t 15)⟩,
  ⟨(some 17), none, .bin .sub (.t 16) (.c (.int .i64 2))⟩,
  ⟨(some 4), none, .mov (.t 17)⟩])
 (.block 0 (.loop [0, 4] [2, 3] (.seq (.seq (.reg [⟨(some 18), none, .mov (.t 4)⟩,
  ⟨(some 19), none, .bin .geq (.t 18) (.c (.int .i64 0))⟩])
 (.cond (.t 19) .skip
 (.exit 0)))
 (.seq (.block 1 (.reg [⟨(some 22), none, .mov (.t 0)⟩,
  ⟨(some 23), none, .mov (.t 4)⟩,
  ⟨(some 24), none, .iaddr 3 (.t 22) (.t 23)⟩,
  ⟨(some 25), none, .load (some 3) (.t 24)⟩,
  ⟨(some 26), none, .load (some 3) (.t 3)⟩,
  ⟨(some 27), none, .bslice [(.int .i64 0), (.str []), (.sl .clip [])] 2 [(0, (.t 25)), (1, (.t 26))]⟩,
  ⟨(some 28), none, .build [(.int .i64 0), (.str []), (.sl .clip [])] [(0, 1, (.c (.int .i64 3))), (2, 1, (.t 27))]⟩,
  ⟨none, none, .store 3 (.t 3) (.t 28)⟩]))
 (.reg [⟨(some 20), none, .mov (.t 4)⟩,
  ⟨(some 21), none, .bin .sub (.t 20) (.c (.int .i64 1))⟩,
  ⟨(some 4), none, .mov (.t 21)⟩]))))))
 (.seq (.reg [⟨(some 29), none, .load (some 3) (.t 3)⟩,
  ⟨none, none, .store 3 (.t 2) (.t 29)⟩])
 .ret))))),
  [.cell 2 (some 3)], false, true, 30⟩
theorem co29 : compF Try.prog ⟨[], [(5, [0, 4], [2, 3])], []⟩ false true Try.f29 = some ac29 := by kernel_rfl

/-- (*paideia/paideiamake.Seq).Next -/
def ac30 : AF := ⟨(.seq (.reg [⟨(some 4), none, .mov (.c (.int .i64 0))⟩])
 (.seq (.reg [⟨(some 5), none, .mov (.c (.int .i64 0))⟩])
 (.seq (.seq (.reg [⟨(some 6), none, .mov (.t 0)⟩,
  ⟨(some 7), none, .nilck (.t 6)⟩,
  ⟨(some 8), none, .faddr 1 (.t 7)⟩,
  ⟨(some 9), none, .load none (.t 8)⟩,
  ⟨(some 10), none, .mov (.t 0)⟩,
  ⟨(some 11), none, .nilck (.t 10)⟩,
  ⟨(some 12), none, .faddr 0 (.t 11)⟩,
  ⟨(some 13), none, .load none (.t 12)⟩,
  ⟨(some 14), none, .len 1 (.t 13)⟩,
  ⟨(some 15), none, .bin .lss (.t 9) (.t 14)⟩])
 (.cond (.t 15) (.reg [⟨(some 16), none, .mov (.t 0)⟩,
  ⟨(some 17), none, .nilck (.t 16)⟩,
  ⟨(some 18), none, .faddr 0 (.t 17)⟩,
  ⟨(some 19), none, .load none (.t 18)⟩,
  ⟨(some 20), none, .mov (.t 0)⟩,
  ⟨(some 21), none, .nilck (.t 20)⟩,
  ⟨(some 22), none, .faddr 1 (.t 21)⟩,
  ⟨(some 23), none, .load none (.t 22)⟩,
  ⟨(some 24), none, .iaddr 1 (.t 19) (.t 23)⟩,
  ⟨(some 25), none, .load none (.t 24)⟩,
  ⟨(some 5), none, .mov (.t 25)⟩])
 .skip))
 (.seq (.reg [⟨(some 26), none, .mov (.t 0)⟩,
  ⟨(some 27), none, .mov (.t 0)⟩,
  ⟨(some 28), none, .nilck (.t 27)⟩,
  ⟨(some 29), none, .faddr 1 (.t 28)⟩,
  ⟨(some 30), none, .load none (.t 29)⟩,
  ⟨(some 31), none, .bin .add (.t 30) (.c (.int .i64 1))⟩,
  ⟨(some 32), none, .nilck (.t 26)⟩,
  ⟨(some 33), none, .faddr 1 (.t 32)⟩,
  ⟨none, none, .store 1 (.t 33) (.t 31)⟩])
 (.seq (.reg [⟨(some 34), none, .mov (.t 5)⟩,
  ⟨(some 35), none, .mov (.t 1)⟩,
  ⟨(some 36), none, .call 0 [] (.c (.fn 53 [])) [(.t 34), (.t 35)]⟩,
  ⟨(some 4), none, .mov (.t 36)⟩])
 .ret))))),
  [.t 4], false, true, 37⟩
theorem co30 : compF Try.prog ⟨[], [], []⟩ false true Try.f30 = some ac30 := by kernel_rfl

/-- paideia/paideiaref4.Var -/
def ac31 : AF := ⟨(.seq (.reg [⟨(some 2), none, .alloc [(.int .i64 0), (.str []), (.sl .clip [])] false⟩])
 (.seq (.reg [⟨(some 3), none, .mov (.t 0)⟩,
  ⟨(some 4), none, .build [(.int .i64 0), (.str []), (.sl .clip [])] [(0, 1, (.c (.int .i64 1))), (1, 1, (.t 3))]⟩,
  ⟨none, none, .store 3 (.t 2) (.t 4)⟩])
 .ret)),
  [.cell 2 (some 3)], false, true, 5⟩
theorem co31 : compF Try.prog ⟨[], [], []⟩ false true Try.f31 = some ac31 := by kernel_rfl

/-- paideia/paideiaref4.Con -/
def ac32 : AF := ⟨(.seq (.reg [⟨(some 4), none, .alloc [(.int .i64 0), (.str []), (.sl .clip [])] false⟩])
 (.seq (.reg [⟨(some 5), none, .mov (.t 0)⟩,
  ⟨(some 6), none, .mov (.t 1)⟩,
  ⟨(some 7), none, .build [(.int .i64 0), (.str []), (.sl .clip [])] [(0, 1, (.c (.int .i64 2))), (1, 1, (.t 5)), (2, 1, (.t 6))]⟩,
  ⟨none, none, .store 3 (.t 4) (.t 7)⟩])
 .ret)),
  [.cell 4 (some 3)], false, true, 8⟩
theorem co32 : compF Try.prog ⟨[], [], []⟩ false true Try.f32 = some ac32 := by kernel_rfl

/-- paideia/paideiaref4.Fun2 -/
def ac33 : AF := ⟨(.seq (.reg [⟨(some 2), none, .box (.t 0) 3 false⟩,
  ⟨(some 3), none, .box (.t 1) 3 false⟩,
  ⟨(some 4), none, .alloc [(.int .i64 0), (.str []), (.sl .clip [])] false⟩])
 (.seq (.reg [⟨(some 5), none, .load (some 3) (.t 2)⟩,
  ⟨(some 6), none, .load (some 3) (.t 3)⟩,
  ⟨(some 7), none, .bslice [(.int .i64 0), (.str []), (.sl .clip [])] 2 [(0, (.t 5)), (1, (.t 6))]⟩,
  ⟨(some 8), none, .build [(.int .i64 0), (.str []), (.sl .clip [])] [(0, 1, (.c (.int .i64 3))), (2, 1, (.t 7))]⟩,
  ⟨none, none, .store 3 (.t 4) (.t 8)⟩])
 .ret)),
  [.cell 4 (some 3)], false, true, 9⟩
theorem co33 : compF Try.prog ⟨[], [], []⟩ false true Try.f33 = some ac33 := by kernel_rfl

/-- cmp.Or[int] -/
def ac34 : AF := ⟨(.seq (.reg [⟨(some 2), none, .mov (.c (.int .i64 0))⟩])
 (.seq (.reg [⟨(some 3), none, .mov (.c (.int .i64 0))⟩])
 (.seq (.seq (.reg [⟨(some 6), none, .mov (.t 0)⟩,
  ⟨(some 7), none, .len 1 (.t 6)⟩,
  ⟨(some 8), none, .mov (.c (.int .i64 0))⟩])
 (.block 0 (.loop [3, 6, 7, 8] [] (.seq (.reg [⟨(some 9), none, .bin .lss (.t 8) (.t 7)⟩])
 (.seq (.cond (.t 9) .skip
 (.exit 0))
 (.seq (.block 1 (.seq (.reg [⟨(some 10), none, .iaddr 1 (.t 6) (.t 8)⟩,
  ⟨(some 11), none, .load none (.t 10)⟩,
  ⟨(some 5), none, .mov (.t 11)⟩])
 (.seq (.reg [⟨(some 12), none, .mov (.t 5)⟩,
  ⟨(some 13), none, .mov (.t 3)⟩,
  ⟨(some 14), none, .bin .neq (.t 12) (.t 13)⟩])
 (.cond (.t 14) (.seq (.reg [⟨(some 15), none, .mov (.t 5)⟩,
  ⟨(some 2), none, .mov (.t 15)⟩])
 .ret)
 .skip))))
 (.reg [⟨(some 16), none, .bin .add (.t 8) (.c (.int .i64 1))⟩,
  ⟨(some 8), none, .mov (.t 16)⟩])))))))
 (.seq (.reg [⟨(some 17), none, .mov (.t 3)⟩,
  ⟨(some 2), none, .mov (.t 17)⟩])
 .ret)))),
  [.t 2], false, true, 18⟩
theorem co34 : compF Try.prog ⟨[], [(3, [3, 6, 7, 8], [])], []⟩ false true Try.f34 = some ac34 := by kernel_rfl

/-- cmp.Compare[int] -/
def ac35 : AF := ⟨(.seq (.reg [⟨(some 4), none, .mov (.c (.int .i64 0))⟩])
 (.seq (.reg [⟨(some 7), none, .mov (.t 0)⟩,
  ⟨(some 8), none, .call 0 [] (.c (.fn 54 [])) [(.t 7)]⟩,
  ⟨(some 5), none, .mov (.t 8)⟩])
 (.seq (.reg [⟨(some 9), none, .mov (.t 1)⟩,
  ⟨(some 10), none, .call 0 [] (.c (.fn 54 [])) [(.t 9)]⟩,
  ⟨(some 6), none, .mov (.t 10)⟩])
 (.seq (.seq (.reg [⟨(some 11), none, .mov (.t 5)⟩])
 (.cond (.t 11) (.seq (.seq (.reg [⟨(some 12), none, .mov (.t 6)⟩])
 (.cond (.t 12) (.seq (.reg [⟨(some 4), none, .mov (.c (.int .i64 0))⟩])
 .ret)
 .skip))
 (.seq (.reg [⟨(some 4), none, .mov (.c (.int .i64 (-1)))⟩])
 .ret))
 .skip))
 (.seq (.seq (.reg [⟨(some 13), none, .mov (.t 6)⟩])
 (.cond (.t 13) (.seq (.reg [⟨(some 4), none, .mov (.c (.int .i64 1))⟩])
 .ret)
 .skip))
 (.seq (.seq (.reg [⟨(some 14), none, .mov (.t 0)⟩,
  ⟨(some 15), none, .mov (.t 1)⟩,
  ⟨(some 16), none, .bin .lss (.t 14) (.t 15)⟩])
 (.cond (.t 16) (.seq (.reg [⟨(some 4), none, .mov (.c (.int .i64 (-1)))⟩])
 .ret)
 .skip))
 (.seq (.seq (.reg [⟨(some 17), none, .mov (.t 0)⟩,
  ⟨(some 18), none, .mov (.t 1)⟩,
  ⟨(some 19), none, .bin .gtr (.t 17) (.t 18)⟩])
 (.cond (.t 19) (.seq (.reg [⟨(some 4), none, .mov (.c (.int .i64 1))⟩])
 .ret)
 .skip))
 (.seq (.reg [⟨(some 4), none, .mov (.c (.int .i64 0))⟩])
 .ret)))))))),
  [.t 4], false, true, 20⟩
theorem co35 : compF Try.prog ⟨[], [], []⟩ false true Try.f35 = some ac35 := by kernel_rfl

/-- strings.Compare -/
def ac36 : AF := ⟨(.seq (.reg [⟨(some 4), none, .mov (.c (.int .i64 0))⟩])
 (.seq (.reg [⟨(some 5), none, .mov (.t 0)⟩,
  ⟨(some 6), none, .mov (.t 1)⟩,
  ⟨(some 7), none, .call 0 [] (.c (.fn 55 [])) [(.t 5), (.t 6)]⟩,
  ⟨(some 4), none, .mov (.t 7)⟩])
 .ret)),
  [.t 4], false, true, 8⟩
theorem co36 : compF Try.prog ⟨[], [], []⟩ false true Try.f36 = some ac36 := by kernel_rfl

/-- slices.CompareFunc[[]paideia/api.Type,[]paideia/api.Type,paideia/api.Type,paideia/api.Type] -/
def ac37 : AF := ⟨(.seq (.reg [⟨(some 6), none, .mov (.c (.int .i64 0))⟩])
 (.seq (.seq (.reg [⟨(some 11), none, .mov (.t 0)⟩,
  ⟨(some 12), none, .len 1 (.t 11)⟩,
  ⟨(some 13), none, .mov (.c (.int .i64 0))⟩])
 (.block 0 (.loop [0, 1, 2, 11, 12, 13] [] (.seq (.reg [⟨(some 14), none, .bin .lss (.t 13) (.t 12)⟩])
 (.seq (.cond (.t 14) .skip
 (.exit 0))
 (.seq (.block 1 (.seq (.reg [⟨(some 15), none, .mov (.t 13)⟩,
  ⟨(some 16), none, .iaddr 3 (.t 11) (.t 13)⟩,
  ⟨(some 17), none, .load (some 3) (.t 16)⟩,
  ⟨(some 8), none, .alloc [(.int .i64 0), (.str []), (.sl .clip [])] false⟩,
  ⟨(some 7), none, .mov (.t 15)⟩,
  ⟨none, none, .store 3 (.t 8) (.t 17)⟩])
 (.seq (.seq (.reg [⟨(some 18), none, .mov (.t 7)⟩,
  ⟨(some 19), none, .mov (.t 1)⟩,
  ⟨(some 20), none, .len 1 (.t 19)⟩,
  ⟨(some 21), none, .bin .geq (.t 18) (.t 20)⟩])
 (.cond (.t 21) (.seq (.reg [⟨(some 6), none, .mov (.c (.int .i64 1))⟩])
 .ret)
 .skip))
 (.seq (.reg [⟨(some 22), none, .mov (.t 1)⟩,
  ⟨(some 23), none, .mov (.t 7)⟩,
  ⟨(some 24), none, .iaddr 3 (.t 22) (.t 23)⟩,
  ⟨(some 25), none, .load (some 3) (.t 24)⟩,
  ⟨(some 9), none, .alloc [(.int .i64 0), (.str []), (.sl .clip [])] false⟩,
  ⟨none, none, .store 3 (.t 9) (.t 25)⟩])
 (.seq (.reg [⟨(some 26), none, .mov (.t 2)⟩,
  ⟨(some 27), none, .load (some 3) (.t 8)⟩,
  ⟨(some 28), none, .load (some 3) (.t 9)⟩,
  ⟨(some 29), none, .call 0 [] (.t 26) [(.t 27), (.t 28)]⟩,
  ⟨(some 10), none, .mov (.t 29)⟩])
 (.seq (.reg [⟨(some 30), none, .mov (.t 10)⟩,
  ⟨(some 31), none, .bin .neq (.t 30) (.c (.int .i64 0))⟩])
 (.cond (.t 31) (.seq (.reg [⟨(some 32), none, .mov (.t 10)⟩,
  ⟨(some 6), none, .mov (.t 32)⟩])
 .ret)
 .skip)))))))
 (.reg [⟨(some 33), none, .bin .add (.t 13) (.c (.int .i64 1))⟩,
  ⟨(some 13), none, .mov (.t 33)⟩])))))))
 (.seq (.seq (.reg [⟨(some 34), none, .mov (.t 0)⟩,
  ⟨(some 35), none, .len 1 (.t 34)⟩,
  ⟨(some 36), none, .mov (.t 1)⟩,
  ⟨(some 37), none, .len 1 (.t 36)⟩,
  ⟨(some 38), none, .bin .lss (.t 35) (.t 37)⟩])
 (.cond (.t 38) (.seq (.reg [⟨(some 6), none, .mov (.c (.int .i64 (-1)))⟩])
 .ret)
 .skip))
 (.seq (.reg [⟨(some 6), none, .mov (.c (.int .i64 0))⟩])
 .ret)))),
  [.t 6], false, true, 39⟩
theorem co37 : compF Try.prog ⟨[], [(2, [0, 1, 2, 11, 12, 13], [])], []⟩ false true Try.f37 = some ac37 := by kernel_rfl

/-- paideia/paideiamake.Preds -/
def ac38 : AF := ⟨(.seq (.reg [⟨(some 6), none, .mov (.c (.sl .clip []))⟩])
 (.seq (.reg [⟨(some 7), none, .mov (.c (.sl .clip []))⟩])
 (.seq (.seq (.reg [⟨(some 9), none, .mov (.t 0)⟩,
  ⟨(some 10), none, .mov (.t 1)⟩,
  ⟨(some 11), none, .bin .add (.t 10) (.c (.int .i64 1))⟩,
  ⟨(some 12), none, .call 0 [] (.c (.fn 30 [])) [(.t 9), (.t 11)]⟩,
  ⟨(some 8), none, .mov (.t 12)⟩])
 (.block 0 (.loop [0, 2, 7, 8] [] (.seq (.seq (.reg [⟨(some 13), none, .mov (.t 8)⟩,
  ⟨(some 14), none, .bin .gtr (.t 13) (.c (.int .i64 0))⟩])
 (.cond (.t 14) .skip
 (.exit 0)))
 (.seq (.block 1 (.reg [⟨(some 17), none, .mov (.t 7)⟩,
  ⟨(some 18), none, .mov (.t 0)⟩,
  ⟨(some 19), none, .mov (.t 2)⟩,
  ⟨(some 20), none, .call 0 [] (.c (.fn 56 [])) [(.t 18), (.t 19)]⟩,
  ⟨(some 21), none, .bslice [(.str []), (.int .i64 0), (.str []), (.sl .clip [])] 1 [(0, (.t 20))]⟩,
  ⟨(some 22), none, .append 4 (.t 17) (.t 21)⟩,
  ⟨(some 7), none, .mov (.t 22)⟩]))
 (.reg [⟨(some 15), none, .mov (.t 8)⟩,
  ⟨(some 16), none, .bin .sub (.t 15) (.c (.int .i64 1))⟩,
  ⟨(some 8), none, .mov (.t 16)⟩]))))))
 (.seq (.reg [⟨(some 23), none, .mov (.t 7)⟩,
  ⟨(some 6), none, .mov (.t 23)⟩])
 .ret)))),
  [.t 6], false, true, 24⟩
theorem co38 : compF Try.prog ⟨[], [(3, [0, 2, 7, 8], [])], []⟩ false true Try.f38 = some ac38 := by kernel_rfl

/-- paideia/printer.left -/
def ac39 : AF := ⟨(.seq (.reg [⟨(some 1), none, .box (.t 0) 3 false⟩,
  ⟨(some 2), none, .mov (.c (.str []))⟩])
 (.seq (.seq (.reg [⟨(some 3), none, .faddr 0 (.t 1)⟩,
  ⟨(some 4), none, .load none (.t 3)⟩,
  ⟨(some 5), none, .bin .eql (.t 4) (.c (.int .i64 3))⟩,
  ⟨(some 6), none, .mov (.t 5)⟩,
  ⟨(some 7), (some (6, false)), .faddr 0 (.t 1)⟩,
  ⟨(some 8), (some (6, false)), .load none (.t 7)⟩,
  ⟨(some 9), (some (6, false)), .bin .eql (.t 8) (.c (.int .i64 4))⟩,
  ⟨(some 10), none, .pick (.t 6) (.c (.bool true)) (.t 9)⟩])
 (.cond (.t 10) (.seq (.reg [⟨(some 11), none, .load (some 3) (.t 1)⟩,
  ⟨(some 12), none, .call 0 [] (.c (.fn 15 [])) [(.t 11)]⟩,
  ⟨(some 13), none, .bin .add (.c (.str [40])) (.t 12)⟩,
  ⟨(some 14), none, .bin .add (.t 13) (.c (.str [41]))⟩,
  ⟨(some 2), none, .mov (.t 14)⟩])
 .ret)
 .skip))
 (.seq (.reg [⟨(some 15), none, .load (some 3) (.t 1)⟩,
  ⟨(some 16), none, .call 0 [] (.c (.fn 15 [])) [(.t 15)]⟩,
  ⟨(some 2), none, .mov (.t 16)⟩])
 .ret))),
  [.t 2], false, true, 17⟩
theorem co39 : compF Try.prog ⟨[], [], []⟩ false true Try.f39 = some ac39 := by kernel_rfl

/-- paideia/printer.part -/
def ac40 : AF := ⟨(.seq (.reg [⟨(some 2), none, .box (.t 0) 3 false⟩,
  ⟨(some 4), none, .alloc [(.int .i64 0), (.str []), (.sl .clip [])] false⟩])
 (.seq (.seq (.reg [⟨(some 5), none, .mov (.t 1)⟩,
  ⟨(some 6), none, .faddr 2 (.t 2)⟩,
  ⟨(some 7), none, .load none (.t 6)⟩,
  ⟨(some 8), none, .len 1 (.t 7)⟩,
  ⟨(some 9), none, .bin .lss (.t 5) (.t 8)⟩])
 (.cond (.t 9) (.seq (.reg [⟨(some 10), none, .faddr 2 (.t 2)⟩,
  ⟨(some 11), none, .load none (.t 10)⟩,
  ⟨(some 12), none, .mov (.t 1)⟩,
  ⟨(some 13), none, .iaddr 3 (.t 11) (.t 12)⟩,
  ⟨(some 14), none, .load (some 3) (.t 13)⟩,
  ⟨none, none, .store 3 (.t 4) (.t 14)⟩])
 .ret)
 .skip))
 (.seq (.reg [⟨(some 15), none, .build [(.int .i64 0), (.str []), (.sl .clip [])] []⟩,
  ⟨none, none, .store 3 (.t 4) (.t 15)⟩])
 .ret))),
  [.cell 4 (some 3)], false, true, 16⟩
theorem co40 : compF Try.prog ⟨[], [], []⟩ false true Try.f40 = some ac40 := by kernel_rfl

/-- paideia/printer.Arg -/
def ac41 : AF := ⟨(.seq (.reg [⟨(some 1), none, .box (.t 0) 3 false⟩,
  ⟨(some 2), none, .mov (.c (.str []))⟩])
 (.seq (.seq (.reg [⟨(some 3), none, .faddr 0 (.t 1)⟩,
  ⟨(some 4), none, .load none (.t 3)⟩,
  ⟨(some 5), none, .bin .eql (.t 4) (.c (.int .i64 3))⟩,
  ⟨(some 6), none, .mov (.t 5)⟩,
  ⟨(some 7), (some (6, false)), .faddr 0 (.t 1)⟩,
  ⟨(some 8), (some (6, false)), .load none (.t 7)⟩,
  ⟨(some 9), (some (6, false)), .bin .eql (.t 8) (.c (.int .i64 4))⟩,
  ⟨(some 10), none, .pick (.t 6) (.c (.bool true)) (.t 9)⟩,
  ⟨(some 11), none, .mov (.t 10)⟩,
  ⟨(some 12), (some (11, false)), .faddr 0 (.t 1)⟩,
  ⟨(some 13), (some (11, false)), .load none (.t 12)⟩,
  ⟨(some 14), (some (11, false)), .bin .eql (.t 13) (.c (.int .i64 2))⟩,
  ⟨(some 15), (some (11, false)), .mov (.t 14)⟩,
  ⟨(some 16), (some (15, true)), .faddr 2 (.t 1)⟩,
  ⟨(some 17), (some (15, true)), .load none (.t 16)⟩,
  ⟨(some 18), (some (15, true)), .len 1 (.t 17)⟩,
  ⟨(some 19), (some (15, true)), .bin .gtr (.t 18) (.c (.int .i64 0))⟩,
  ⟨(some 20), (some (11, false)), .pick (.t 15) (.t 19) (.c (.bool false))⟩,
  ⟨(some 21), none, .pick (.t 11) (.c (.bool true)) (.t 20)⟩])
 (.cond (.t 21) (.seq (.reg [⟨(some 22), none, .load (some 3) (.t 1)⟩,
  ⟨(some 23), none, .call 0 [] (.c (.fn 15 [])) [(.t 22)]⟩,
  ⟨(some 24), none, .bin .add (.c (.str [40])) (.t 23)⟩,
  ⟨(some 25), none, .bin .add (.t 24) (.c (.str [41]))⟩,
  ⟨(some 2), none, .mov (.t 25)⟩])
 .ret)
 .skip))
 (.seq (.reg [⟨(some 26), none, .load (some 3) (.t 1)⟩,
  ⟨(some 27), none, .call 0 [] (.c (.fn 15 [])) [(.t 26)]⟩,
  ⟨(some 2), none, .mov (.t 27)⟩])
 .ret))),
  [.t 2], false, true, 28⟩
theorem co41 : compF Try.prog ⟨[], [], []⟩ false true Try.f41 = some ac41 := by kernel_rfl

/-- paideia/paideiaref.SameTypes -/
def ac42 : AF := ⟨(.seq (.reg [⟨(some 4), none, .mov (.c (.bool false))⟩])
 (.seq (.seq (.reg [⟨(some 7), none, .mov (.t 0)⟩,
  ⟨(some 8), none, .len 1 (.t 7)⟩,
  ⟨(some 9), none, .mov (.t 1)⟩,
  ⟨(some 10), none, .len 1 (.t 9)⟩,
  ⟨(some 11), none, .bin .neq (.t 8) (.t 10)⟩])
 (.cond (.t 11) (.seq (.reg [⟨(some 4), none, .mov (.c (.bool false))⟩])
 .ret)
 .skip))
 (.seq (.seq (.reg [⟨(some 5), none, .mov (.c (.int .i64 0))⟩])
 (.block 0 (.loop [0, 1, 5] [] (.seq (.seq (.reg [⟨(some 12), none, .mov (.t 5)⟩,
  ⟨(some 13), none, .mov (.t 0)⟩,
  ⟨(some 14), none, .len 1 (.t 13)⟩,
  ⟨(some 15), none, .bin .lss (.t 12) (.t 14)⟩])
 (.cond (.t 15) .skip
 (.exit 0)))
 (.seq (.block 1 (.seq (.reg [⟨(some 18), none, .mov (.t 0)⟩,
  ⟨(some 19), none, .mov (.t 5)⟩,
  ⟨(some 20), none, .iaddr 3 (.t 18) (.t 19)⟩,
  ⟨(some 21), none, .load (some 3) (.t 20)⟩,
  ⟨(some 22), none, .mov (.t 1)⟩,
  ⟨(some 23), none, .mov (.t 5)⟩,
  ⟨(some 24), none, .iaddr 3 (.t 22) (.t 23)⟩,
  ⟨(some 25), none, .load (some 3) (.t 24)⟩,
  ⟨(some 26), none, .call 0 [] (.c (.fn 16 [])) [(.t 21), (.t 25)]⟩,
  ⟨(some 6), none, .mov (.t 26)⟩])
 (.seq (.reg [⟨(some 27), none, .mov (.t 6)⟩,
  ⟨(some 28), none, .not (.t 27)⟩])
 (.cond (.t 28) (.seq (.reg [⟨(some 4), none, .mov (.c (.bool false))⟩])
 .ret)
 .skip))))
 (.reg [⟨(some 16), none, .mov (.t 5)⟩,
  ⟨(some 17), none, .bin .add (.t 16) (.c (.int .i64 1))⟩,
  ⟨(some 5), none, .mov (.t 17)⟩]))))))
 (.seq (.reg [⟨(some 4), none, .mov (.c (.bool true))⟩])
 .ret)))),
  [.t 4], false, true, 29⟩
theorem co42 : compF Try.prog ⟨[], [(4, [0, 1, 5], [])], []⟩ false true Try.f42 = some ac42 := by kernel_rfl

/-- paideia/printer.context -/
def ac43 : AF := ⟨(.seq (.reg [⟨(some 2), none, .mov (.c (.str []))⟩])
 (.seq (.reg [⟨(some 4), none, .mov (.t 0)⟩,
  ⟨(some 5), none, .call 0 [] (.c (.fn 57 [])) [(.t 4), (.c (.str [44, 32])), (.c (.fn 58 []))]⟩,
  ⟨(some 3), none, .mov (.t 5)⟩])
 (.seq (.seq (.reg [⟨(some 6), none, .mov (.t 0)⟩,
  ⟨(some 7), none, .len 1 (.t 6)⟩])
 (.block 0 (.seq (.reg [⟨(some 9), none, .bin .eql (.t 7) (.c (.int .i64 0))⟩,
  ⟨(some 8), none, .mov (.t 9)⟩])
 (.cond (.t 8) (.seq (.reg [⟨(some 2), none, .mov (.c (.str []))⟩])
 .ret)
 (.seq (.reg [⟨(some 11), none, .bin .eql (.t 7) (.c (.int .i64 1))⟩,
  ⟨(some 10), none, .mov (.t 11)⟩])
 (.cond (.t 10) (.seq (.reg [⟨(some 12), none, .mov (.t 3)⟩,
  ⟨(some 13), none, .bin .add (.t 12) (.c (.str [32, 61, 62, 32]))⟩,
  ⟨(some 2), none, .mov (.t 13)⟩])
 .ret)
 .skip))))))
 (.seq (.reg [⟨(some 14), none, .mov (.t 3)⟩,
  ⟨(some 15), none, .bin .add (.c (.str [40])) (.t 14)⟩,
  ⟨(some 16), none, .bin .add (.t 15) (.c (.str [41, 32, 61, 62, 32]))⟩,
  ⟨(some 2), none, .mov (.t 16)⟩])
 .ret)))),
  [.t 2], false, true, 17⟩
theorem co43 : compF Try.prog ⟨[], [], []⟩ false true Try.f43 = some ac43 := by kernel_rfl

/-- paideia/paideiaref.SameTexts -/
def ac44 : AF := ⟨(.seq (.reg [⟨(some 4), none, .mov (.c (.bool false))⟩])
 (.seq (.seq (.reg [⟨(some 7), none, .mov (.t 0)⟩,
  ⟨(some 8), none, .len 1 (.t 7)⟩,
  ⟨(some 9), none, .mov (.t 1)⟩,
  ⟨(some 10), none, .len 1 (.t 9)⟩,
  ⟨(some 11), none, .bin .neq (.t 8) (.t 10)⟩])
 (.cond (.t 11) (.seq (.reg [⟨(some 4), none, .mov (.c (.bool false))⟩])
 .ret)
 .skip))
 (.seq (.seq (.reg [⟨(some 5), none, .mov (.c (.int .i64 0))⟩])
 (.block 0 (.loop [0, 1, 5] [] (.seq (.seq (.reg [⟨(some 12), none, .mov (.t 5)⟩,
  ⟨(some 13), none, .mov (.t 0)⟩,
  ⟨(some 14), none, .len 1 (.t 13)⟩,
  ⟨(some 15), none, .bin .lss (.t 12) (.t 14)⟩])
 (.cond (.t 15) .skip
 (.exit 0)))
 (.seq (.block 1 (.seq (.reg [⟨(some 18), none, .mov (.t 0)⟩,
  ⟨(some 19), none, .mov (.t 5)⟩,
  ⟨(some 20), none, .iaddr 1 (.t 18) (.t 19)⟩,
  ⟨(some 21), none, .load none (.t 20)⟩,
  ⟨(some 22), none, .mov (.t 1)⟩,
  ⟨(some 23), none, .mov (.t 5)⟩,
  ⟨(some 24), none, .iaddr 1 (.t 22) (.t 23)⟩,
  ⟨(some 25), none, .load none (.t 24)⟩,
  ⟨(some 26), none, .bin .eql (.t 21) (.t 25)⟩,
  ⟨(some 6), none, .mov (.t 26)⟩])
 (.seq (.reg [⟨(some 27), none, .mov (.t 6)⟩,
  ⟨(some 28), none, .not (.t 27)⟩])
 (.cond (.t 28) (.seq (.reg [⟨(some 4), none, .mov (.c (.bool false))⟩])
 .ret)
 .skip))))
 (.reg [⟨(some 16), none, .mov (.t 5)⟩,
  ⟨(some 17), none, .bin .add (.t 16) (.c (.int .i64 1))⟩,
  ⟨(some 5), none, .mov (.t 17)⟩]))))))
 (.seq (.reg [⟨(some 4), none, .mov (.c (.bool true))⟩])
 .ret)))),
  [.t 4], false, true, 29⟩
theorem co44 : compF Try.prog ⟨[], [(4, [0, 1, 5], [])], []⟩ false true Try.f44 = some ac44 := by kernel_rfl

/-- paideia/paideiaref.SamePreds -/
def ac45 : AF := ⟨(.seq (.reg [⟨(some 4), none, .mov (.c (.bool false))⟩])
 (.seq (.seq (.reg [⟨(some 7), none, .mov (.t 0)⟩,
  ⟨(some 8), none, .len 1 (.t 7)⟩,
  ⟨(some 9), none, .mov (.t 1)⟩,
  ⟨(some 10), none, .len 1 (.t 9)⟩,
  ⟨(some 11), none, .bin .neq (.t 8) (.t 10)⟩])
 (.cond (.t 11) (.seq (.reg [⟨(some 4), none, .mov (.c (.bool false))⟩])
 .ret)
 .skip))
 (.seq (.seq (.reg [⟨(some 5), none, .mov (.c (.int .i64 0))⟩])
 (.block 0 (.loop [0, 1, 5] [] (.seq (.seq (.reg [⟨(some 12), none, .mov (.t 5)⟩,
  ⟨(some 13), none, .mov (.t 0)⟩,
  ⟨(some 14), none, .len 1 (.t 13)⟩,
  ⟨(some 15), none, .bin .lss (.t 12) (.t 14)⟩])
 (.cond (.t 15) .skip
 (.exit 0)))
 (.seq (.block 1 (.seq (.reg [⟨(some 18), none, .mov (.t 0)⟩,
  ⟨(some 19), none, .mov (.t 5)⟩,
  ⟨(some 20), none, .iaddr 4 (.t 18) (.t 19)⟩,
  ⟨(some 21), none, .load (some 4) (.t 20)⟩,
  ⟨(some 22), none, .mov (.t 1)⟩,
  ⟨(some 23), none, .mov (.t 5)⟩,
  ⟨(some 24), none, .iaddr 4 (.t 22) (.t 23)⟩,
  ⟨(some 25), none, .load (some 4) (.t 24)⟩,
  ⟨(some 26), none, .call 0 [] (.c (.fn 59 [])) [(.t 21), (.t 25)]⟩,
  ⟨(some 6), none, .mov (.t 26)⟩])
 (.seq (.reg [⟨(some 27), none, .mov (.t 6)⟩,
  ⟨(some 28), none, .not (.t 27)⟩])
 (.cond (.t 28) (.seq (.reg [⟨(some 4), none, .mov (.c (.bool false))⟩])
 .ret)
 .skip))))
 (.reg [⟨(some 16), none, .mov (.t 5)⟩,
  ⟨(some 17), none, .bin .add (.t 16) (.c (.int .i64 1))⟩,
  ⟨(some 5), none, .mov (.t 17)⟩]))))))
 (.seq (.reg [⟨(some 4), none, .mov (.c (.bool true))⟩])
 .ret)))),
  [.t 4], false, true, 29⟩
theorem co45 : compF Try.prog ⟨[], [(4, [0, 1, 5], [])], []⟩ false true Try.f45 = some ac45 := by kernel_rfl

/-- paideia/types.free -/
def ac51 : AF := ⟨(.seq (.reg [⟨(some 3), none, .box (.t 0) 3 false⟩,
  ⟨(some 6), none, .mov (.c (.sl .clip []))⟩])
 (.seq (.seq (.reg [⟨(some 9), none, .faddr 0 (.t 3)⟩,
  ⟨(some 10), none, .load none (.t 9)⟩])
 (.block 0 (.seq (.reg [⟨(some 12), none, .bin .eql (.t 10) (.c (.int .i64 1))⟩,
  ⟨(some 11), none, .mov (.t 12)⟩])
 (.cond (.t 11) (.seq (.reg [⟨(some 13), none, .mov (.t 1)⟩,
  ⟨(some 14), none, .faddr 1 (.t 3)⟩,
  ⟨(some 15), none, .load none (.t 14)⟩,
  ⟨(some 16), none, .call 0 [] (.c (.fn 61 [])) [(.t 13), (.t 15)]⟩,
  ⟨(some 17), none, .not (.t 16)⟩,
  ⟨(some 18), none, .mov (.t 17)⟩,
  ⟨(some 19), (some (18, true)), .mov (.t 2)⟩,
  ⟨(some 20), (some (18, true)), .faddr 1 (.t 3)⟩,
  ⟨(some 21), (some (18, true)), .load none (.t 20)⟩,
  ⟨(some 22), (some (18, true)), .call 0 [] (.c (.fn 61 [])) [(.t 19), (.t 21)]⟩,
  ⟨(some 23), (some (18, true)), .not (.t 22)⟩,
  ⟨(some 24), none, .pick (.t 18) (.t 23) (.c (.bool false))⟩])
 (.cond (.t 24) (.reg [⟨(some 25), none, .mov (.t 2)⟩,
  ⟨(some 26), none, .faddr 1 (.t 3)⟩,
  ⟨(some 27), none, .load none (.t 26)⟩,
  ⟨(some 28), none, .bslice [(.str [])] 1 [(0, (.t 27))]⟩,
  ⟨(some 29), none, .append 1 (.t 25) (.t 28)⟩,
  ⟨(some 2), none, .mov (.t 29)⟩])
 .skip))
 (.seq (.reg [⟨(some 31), none, .bin .eql (.t 10) (.c (.int .i64 4))⟩,
  ⟨(some 30), none, .mov (.t 31)⟩])
 (.cond (.t 30) (.reg [⟨(some 32), none, .mov (.t 1)⟩,
  ⟨(some 33), none, .call 0 [] (.c (.fn 62 [])) [(.t 32)]⟩,
  ⟨(some 34), none, .faddr 1 (.t 3)⟩,
  ⟨(some 35), none, .loadL none (.t 34)⟩,
  ⟨(some 36), none, .bslice [(.str [])] 1 [(0, (.t 35))]⟩,
  ⟨(some 37), none, .append 1 (.t 33) (.t 36)⟩,
  ⟨(some 1), none, .mov (.t 37)⟩])
 .skip))))))
 (.seq (.seq (.reg [⟨(some 38), none, .faddr 2 (.t 3)⟩,
  ⟨(some 39), none, .load none (.t 38)⟩,
  ⟨(some 40), none, .len 1 (.t 39)⟩,
  ⟨(some 41), none, .mov (.c (.int .i64 0))⟩])
 (.block 1 (.loop [1, 2, 39, 40, 41] [] (.seq (.reg [⟨(some 42), none, .bin .lss (.t 41) (.t 40)⟩])
 (.seq (.cond (.t 42) .skip
 (.exit 1))
 (.seq (.block 2 (.seq (.reg [⟨(some 43), none, .iaddr 3 (.t 39) (.t 41)⟩,
  ⟨(some 44), none, .load (some 3) (.t 43)⟩,
  ⟨(some 8), none, .alloc [(.int .i64 0), (.str []), (.sl .clip [])] false⟩,
  ⟨none, none, .store 3 (.t 8) (.t 44)⟩])
 (.reg [⟨(some 45), none, .load (some 3) (.t 8)⟩,
  ⟨(some 46), none, .mov (.t 1)⟩,
  ⟨(some 47), none, .mov (.t 2)⟩,
  ⟨(some 48), none, .call 0 [2] (.c (.fn 51 [])) [(.t 45), (.t 46), (.t 47)]⟩,
  ⟨(some 2), none, .mov (.t 48)⟩])))
 (.reg [⟨(some 49), none, .bin .add (.t 41) (.c (.int .i64 1))⟩,
  ⟨(some 41), none, .mov (.t 49)⟩])))))))
 (.seq (.reg [⟨(some 50), none, .mov (.t 2)⟩,
  ⟨(some 6), none, .mov (.t 50)⟩])
 .ret)))),
  [.t 6], true, false, 51⟩
theorem co51 : compF Try.prog ⟨[], [(8, [1, 2, 39, 40, 41], [])], [(51, 0, [2])]⟩ true false Try.f51 = some ac51 := by kernel_rfl

/-- paideia/paideiaworld.Number -/
def ac53 : AF := ⟨(.seq (.reg [⟨(some 4), none, .mov (.c (.int .i64 0))⟩])
 (.seq (.reg [⟨(some 6), none, .mov (.t 0)⟩,
  ⟨(some 7), none, .mov (.t 1)⟩,
  ⟨(some 8), none, .bin .rem (.t 6) (.t 7)⟩,
  ⟨(some 5), none, .mov (.t 8)⟩])
 (.seq (.seq (.reg [⟨(some 9), none, .mov (.t 5)⟩,
  ⟨(some 10), none, .bin .lss (.t 9) (.c (.int .i64 0))⟩])
 (.cond (.t 10) (.reg [⟨(some 11), none, .mov (.t 5)⟩,
  ⟨(some 12), none, .mov (.t 1)⟩,
  ⟨(some 13), none, .bin .add (.t 11) (.t 12)⟩,
  ⟨(some 5), none, .mov (.t 13)⟩])
 .skip))
 (.seq (.reg [⟨(some 14), none, .mov (.t 5)⟩,
  ⟨(some 4), none, .mov (.t 14)⟩])
 .ret)))),
  [.t 4], false, true, 15⟩
theorem co53 : compF Try.prog ⟨[], [], []⟩ false true Try.f53 = some ac53 := by kernel_rfl

/-- cmp.isNaN[int] -/
def ac54 : AF := ⟨(.seq (.reg [⟨(some 2), none, .mov (.c (.bool false))⟩])
 (.seq (.reg [⟨(some 3), none, .mov (.t 0)⟩,
  ⟨(some 4), none, .mov (.t 0)⟩,
  ⟨(some 5), none, .bin .neq (.t 3) (.t 4)⟩,
  ⟨(some 2), none, .mov (.t 5)⟩])
 .ret)),
  [.t 2], false, true, 6⟩
theorem co54 : compF Try.prog ⟨[], [], []⟩ false true Try.f54 = some ac54 := by kernel_rfl

/-- internal/bytealg.CompareString -/
def ac55 : AF := ⟨(.seq (.reg [⟨(some 4), none, .mov (.c (.int .i64 0))⟩])
 (.seq (.reg [⟨(some 5), none, .mov (.t 0)⟩,
  ⟨(some 6), none, .mov (.t 1)⟩,
  ⟨(some 7), none, .call 0 [] (.c (.fn 64 [])) [(.t 5), (.t 6)]⟩,
  ⟨(some 4), none, .mov (.t 7)⟩])
 .ret)),
  [.t 4], false, true, 8⟩
theorem co55 : compF Try.prog ⟨[], [], []⟩ false true Try.f55 = some ac55 := by kernel_rfl

/-- paideia/paideiamake.Pred -/
def ac56 : AF := ⟨(.seq (.reg [⟨(some 4), none, .alloc [(.str []), (.int .i64 0), (.str []), (.sl .clip [])] false⟩])
 (.seq (.reg [⟨(some 6), none, .bslice [(.str [])] 4 [(0, (.c (.str [69, 113]))), (1, (.c (.str [79, 114, 100]))), (2, (.c (.str [83, 104, 111, 119]))), (3, (.c (.str [78, 117, 109])))]⟩,
  ⟨(some 7), none, .mov (.t 0)⟩,
  ⟨(some 8), none, .call 0 [] (.c (.fn 30 [])) [(.t 7), (.c (.int .i64 4))]⟩,
  ⟨(some 9), none, .iaddr 1 (.t 6) (.t 8)⟩,
  ⟨(some 10), none, .load none (.t 9)⟩,
  ⟨(some 5), none, .mov (.t 10)⟩])
 (.seq (.reg [⟨(some 11), none, .mov (.t 5)⟩,
  ⟨(some 12), none, .mov (.t 0)⟩,
  ⟨(some 13), none, .mov (.t 1)⟩,
  ⟨(some 14), none, .call 0 [] (.c (.fn 10 [])) [(.t 12), (.t 13)]⟩,
  ⟨(some 15), none, .build [(.str []), (.int .i64 0), (.str []), (.sl .clip [])] [(0, 1, (.t 11)), (1, 3, (.t 14))]⟩,
  ⟨none, none, .store 4 (.t 4) (.t 15)⟩])
 .ret))),
  [.cell 4 (some 4)], false, true, 16⟩
theorem co56 : compF Try.prog ⟨[], [], []⟩ false true Try.f56 = some ac56 := by kernel_rfl

/-- paideia/printer.joined[paideia/api.Pred] -/
def ac57 : AF := ⟨(.seq (.reg [⟨(some 6), none, .mov (.c (.str []))⟩])
 (.seq (.reg [⟨(some 7), none, .mov (.c (.sl .clip []))⟩])
 (.seq (.seq (.reg [⟨(some 10), none, .mov (.t 0)⟩,
  ⟨(some 11), none, .len 1 (.t 10)⟩,
  ⟨(some 12), none, .mov (.c (.int .i64 0))⟩])
 (.block 0 (.loop [1, 2, 7, 10, 11, 12] [] (.seq (.reg [⟨(some 13), none, .bin .lss (.t 12) (.t 11)⟩])
 (.seq (.cond (.t 13) .skip
 (.exit 0))
 (.seq (.block 1 (.seq (.reg [⟨(some 14), none, .iaddr 4 (.t 10) (.t 12)⟩,
  ⟨(some 15), none, .load (some 4) (.t 14)⟩,
  ⟨(some 9), none, .alloc [(.str []), (.int .i64 0), (.str []), (.sl .clip [])] false⟩,
  ⟨none, none, .store 4 (.t 9) (.t 15)⟩])
 (.reg [⟨(some 16), none, .mov (.t 7)⟩,
  ⟨(some 17), none, .mov (.t 2)⟩,
  ⟨(some 18), none, .load (some 4) (.t 9)⟩,
  ⟨(some 19), none, .call 0 [] (.t 17) [(.t 18)]⟩,
  ⟨(some 20), none, .bslice [(.str [])] 1 [(0, (.t 19))]⟩,
  ⟨(some 21), none, .append 1 (.t 16) (.t 20)⟩,
  ⟨(some 7), none, .mov (.t 21)⟩])))
 (.reg [⟨(some 22), none, .bin .add (.t 12) (.c (.int .i64 1))⟩,
  ⟨(some 12), none, .mov (.t 22)⟩])))))))
 (.seq (.reg [⟨(some 23), none, .mov (.t 7)⟩,
  ⟨(some 24), none, .mov (.t 1)⟩,
  ⟨(some 25), none, .call 0 [] (.c (.fn 65 [])) [(.t 23), (.t 24)]⟩,
  ⟨(some 6), none, .mov (.t 25)⟩])
 .ret)))),
  [.t 6], false, true, 26⟩
theorem co57 : compF Try.prog ⟨[], [(3, [1, 2, 7, 10, 11, 12], [])], []⟩ false true Try.f57 = some ac57 := by kernel_rfl

/-- paideia/printer.context$1 -/
def ac58 : AF := ⟨(.seq (.reg [⟨(some 1), none, .box (.t 0) 4 false⟩,
  ⟨(some 2), none, .mov (.c (.str []))⟩])
 (.seq (.reg [⟨(some 3), none, .faddr 0 (.t 1)⟩,
  ⟨(some 4), none, .loadL none (.t 3)⟩,
  ⟨(some 5), none, .bin .add (.t 4) (.c (.str [32]))⟩,
  ⟨(some 6), none, .faddr 1 (.t 1)⟩,
  ⟨(some 7), none, .load (some 3) (.t 6)⟩,
  ⟨(some 8), none, .call 0 [] (.c (.fn 41 [])) [(.t 7)]⟩,
  ⟨(some 9), none, .bin .add (.t 5) (.t 8)⟩,
  ⟨(some 2), none, .mov (.t 9)⟩])
 .ret)),
  [.t 2], false, true, 10⟩
theorem co58 : compF Try.prog ⟨[], [], []⟩ false true Try.f58 = some ac58 := by kernel_rfl

/-- paideia/paideiaref.SamePred -/
def ac59 : AF := ⟨(.seq (.reg [⟨(some 2), none, .box (.t 0) 4 false⟩,
  ⟨(some 3), none, .box (.t 1) 4 false⟩,
  ⟨(some 4), none, .mov (.c (.bool false))⟩])
 (.seq (.reg [⟨(some 5), none, .faddr 0 (.t 2)⟩,
  ⟨(some 6), none, .load none (.t 5)⟩,
  ⟨(some 7), none, .faddr 0 (.t 3)⟩,
  ⟨(some 8), none, .load none (.t 7)⟩,
  ⟨(some 9), none, .bin .eql (.t 6) (.t 8)⟩,
  ⟨(some 10), none, .mov (.t 9)⟩,
  ⟨(some 11), (some (10, true)), .faddr 1 (.t 2)⟩,
  ⟨(some 12), (some (10, true)), .load (some 3) (.t 11)⟩,
  ⟨(some 13), (some (10, true)), .faddr 1 (.t 3)⟩,
  ⟨(some 14), (some (10, true)), .load (some 3) (.t 13)⟩,
  ⟨(some 15), (some (10, true)), .call 0 [] (.c (.fn 16 [])) [(.t 12), (.t 14)]⟩,
  ⟨(some 16), none, .pick (.t 10) (.t 15) (.c (.bool false))⟩,
  ⟨(some 4), none, .mov (.t 16)⟩])
 .ret)),
  [.t 4], false, true, 17⟩
theorem co59 : compF Try.prog ⟨[], [], []⟩ false true Try.f59 = some ac59 := by kernel_rfl

/-- slices.Contains[[]string,string] -/
def ac61 : AF := ⟨(.seq (.reg [⟨(some 4), none, .mov (.c (.bool false))⟩])
 (.seq (.reg [⟨(some 5), none, .mov (.t 0)⟩,
  ⟨(some 6), none, .mov (.t 1)⟩,
  ⟨(some 7), none, .call 0 [] (.c (.fn 66 [])) [(.t 5), (.t 6)]⟩,
  ⟨(some 8), none, .bin .geq (.t 7) (.c (.int .i64 0))⟩,
  ⟨(some 4), none, .mov (.t 8)⟩])
 .ret)),
  [.t 4], false, true, 9⟩
theorem co61 : compF Try.prog ⟨[], [], []⟩ false true Try.f61 = some ac61 := by kernel_rfl

/-- slices.Index[[]string,string] -/
def ac66 : AF := ⟨(.seq (.reg [⟨(some 4), none, .mov (.c (.int .i64 0))⟩])
 (.seq (.seq (.reg [⟨(some 6), none, .mov (.t 0)⟩,
  ⟨(some 7), none, .len 1 (.t 6)⟩,
  ⟨(some 8), none, .mov (.c (.int .i64 0))⟩])
 (.block 0 (.loop [0, 1, 7, 8] [] (.seq (.reg [⟨(some 9), none, .bin .lss (.t 8) (.t 7)⟩])
 (.seq (.cond (.t 9) .skip
 (.exit 0))
 (.seq (.block 1 (.seq (.reg [⟨(some 10), none, .mov (.t 8)⟩,
  ⟨(some 5), none, .mov (.t 10)⟩])
 (.seq (.reg [⟨(some 11), none, .mov (.t 1)⟩,
  ⟨(some 12), none, .mov (.t 0)⟩,
  ⟨(some 13), none, .mov (.t 5)⟩,
  ⟨(some 14), none, .iaddr 1 (.t 12) (.t 13)⟩,
  ⟨(some 15), none, .load none (.t 14)⟩,
  ⟨(some 16), none, .bin .eql (.t 11) (.t 15)⟩])
 (.cond (.t 16) (.seq (.reg [⟨(some 17), none, .mov (.t 5)⟩,
  ⟨(some 4), none, .mov (.t 17)⟩])
 .ret)
 .skip))))
 (.reg [⟨(some 18), none, .bin .add (.t 8) (.c (.int .i64 1))⟩,
  ⟨(some 8), none, .mov (.t 18)⟩])))))))
 (.seq (.reg [⟨(some 4), none, .mov (.c (.int .i64 (-1)))⟩])
 .ret))),
  [.t 4], false, true, 19⟩
theorem co66 : compF Try.prog ⟨[], [(2, [0, 1, 7, 8], [])], []⟩ false true Try.f66 = some ac66 := by kernel_rfl

theorem cmp64 : PrimOk Try.prog 64 cmpP := cmpP_ok Try.func64 (by kernel_rfl) (by kernel_rfl) (by kernel_rfl) (by kernel_rfl)
theorem join65 : PrimOk Try.prog 65 joinP := joinP_ok Try.func65 (by kernel_rfl) (by kernel_rfl) Try.strings_Join_none Try.strings_Join

def ap : AP := fun f vr => match f, vr with
  | 3, 0 => some (.code ac3)
  | 4, 0 => some (.code ac4)
  | 5, 0 => some (.code ac5)
  | 9, 0 => some (.code ac9)
  | 10, 0 => some (.code ac10)
  | 11, 0 => some (.code ac11)
  | 12, 0 => some (.code ac12)
  | 13, 0 => some (.code ac13)
  | 14, 0 => some (.code ac14)
  | 15, 0 => some (.code ac15)
  | 16, 0 => some (.code ac16)
  | 17, 0 => some (.code ac17)
  | 18, 0 => some (.code ac18)
  | 27, 0 => some (.code ac27)
  | 28, 0 => some (.code ac28)
  | 29, 0 => some (.code ac29)
  | 30, 0 => some (.code ac30)
  | 31, 0 => some (.code ac31)
  | 32, 0 => some (.code ac32)
  | 33, 0 => some (.code ac33)
  | 34, 0 => some (.code ac34)
  | 35, 0 => some (.code ac35)
  | 36, 0 => some (.code ac36)
  | 37, 0 => some (.code ac37)
  | 38, 0 => some (.code ac38)
  | 39, 0 => some (.code ac39)
  | 40, 0 => some (.code ac40)
  | 41, 0 => some (.code ac41)
  | 42, 0 => some (.code ac42)
  | 43, 0 => some (.code ac43)
  | 44, 0 => some (.code ac44)
  | 45, 0 => some (.code ac45)
  | 51, 0 => some (.code ac51)
  | 53, 0 => some (.code ac53)
  | 54, 0 => some (.code ac54)
  | 55, 0 => some (.code ac55)
  | 56, 0 => some (.code ac56)
  | 57, 0 => some (.code ac57)
  | 58, 0 => some (.code ac58)
  | 59, 0 => some (.code ac59)
  | 61, 0 => some (.code ac61)
  | 66, 0 => some (.code ac66)
  | 64, 0 => some (.prim cmpP)
  | 65, 0 => some (.prim joinP)
  | _, _ => none

theorem tableOk : TableOk Try.prog ap := by
  intro f vr fd h
  unfold ap at h
  split at h <;> first
    | (cases h; done)
    | skip
  · cases h; exact ⟨_, _, Try.func3, co3⟩
  · cases h; exact ⟨_, _, Try.func4, co4⟩
  · cases h; exact ⟨_, _, Try.func5, co5⟩
  · cases h; exact ⟨_, _, Try.func9, co9⟩
  · cases h; exact ⟨_, _, Try.func10, co10⟩
  · cases h; exact ⟨_, _, Try.func11, co11⟩
  · cases h; exact ⟨_, _, Try.func12, co12⟩
  · cases h; exact ⟨_, _, Try.func13, co13⟩
  · cases h; exact ⟨_, _, Try.func14, co14⟩
  · cases h; exact ⟨_, _, Try.func15, co15⟩
  · cases h; exact ⟨_, _, Try.func16, co16⟩
  · cases h; exact ⟨_, _, Try.func17, co17⟩
  · cases h; exact ⟨_, _, Try.func18, co18⟩
  · cases h; exact ⟨_, _, Try.func27, co27⟩
  · cases h; exact ⟨_, _, Try.func28, co28⟩
  · cases h; exact ⟨_, _, Try.func29, co29⟩
  · cases h; exact ⟨_, _, Try.func30, co30⟩
  · cases h; exact ⟨_, _, Try.func31, co31⟩
  · cases h; exact ⟨_, _, Try.func32, co32⟩
  · cases h; exact ⟨_, _, Try.func33, co33⟩
  · cases h; exact ⟨_, _, Try.func34, co34⟩
  · cases h; exact ⟨_, _, Try.func35, co35⟩
  · cases h; exact ⟨_, _, Try.func36, co36⟩
  · cases h; exact ⟨_, _, Try.func37, co37⟩
  · cases h; exact ⟨_, _, Try.func38, co38⟩
  · cases h; exact ⟨_, _, Try.func39, co39⟩
  · cases h; exact ⟨_, _, Try.func40, co40⟩
  · cases h; exact ⟨_, _, Try.func41, co41⟩
  · cases h; exact ⟨_, _, Try.func42, co42⟩
  · cases h; exact ⟨_, _, Try.func43, co43⟩
  · cases h; exact ⟨_, _, Try.func44, co44⟩
  · cases h; exact ⟨_, _, Try.func45, co45⟩
  · cases h; exact ⟨_, _, Try.func51, co51⟩
  · cases h; exact ⟨_, _, Try.func53, co53⟩
  · cases h; exact ⟨_, _, Try.func54, co54⟩
  · cases h; exact ⟨_, _, Try.func55, co55⟩
  · cases h; exact ⟨_, _, Try.func56, co56⟩
  · cases h; exact ⟨_, _, Try.func57, co57⟩
  · cases h; exact ⟨_, _, Try.func58, co58⟩
  · cases h; exact ⟨_, _, Try.func59, co59⟩
  · cases h; exact ⟨_, _, Try.func61, co61⟩
  · cases h; exact ⟨_, _, Try.func66, co66⟩
  · cases h; exact cmp64
  · cases h; exact join65

end Go.At
