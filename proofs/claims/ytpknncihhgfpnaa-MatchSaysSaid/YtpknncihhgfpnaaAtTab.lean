/- The seat's functions on the abstract machine. -/
import Derived.Test.YtpknncihhgfpnaaAmQ
import Derived.Test.YtpknncihhgfpnaaAmJ
import Derived.Test.YtpknncihhgfpnaaShelfAb
import Derived.Test.YtpknncihhgfpnaaAmE
import Derived.Test.YtpknncihhgfpnaaAmZ
import Derived.Test.YtpknncihhgfpnaaProg
namespace Go.At
open Go.Am Go.Proofs

set_option maxRecDepth 100000
/-- paideia/paideialaw17.TermFree -/
def ac3 : AF := ⟨(.seq (.reg [⟨(some 4), none, .mov (.c (.bool false))⟩])
 (.seq (.reg [⟨(some 16), none, .call 0 [] (.c (.fn 10 [])) []⟩,
  ⟨(some 5), none, .mov (.t 16)⟩])
 (.seq (.seq (.reg [⟨(some 17), none, .mov (.t 5)⟩,
  ⟨(some 18), none, .not (.t 17)⟩])
 (.cond (.t 18) (.seq (.reg [⟨(some 4), none, .mov (.c (.bool false))⟩])
 .ret)
 .skip))
 (.seq (.seq (.reg [⟨(some 19), none, .mov (.t 0)⟩,
  ⟨(some 20), none, .len 1 (.t 19)⟩,
  ⟨(some 21), none, .bin .gtr (.t 20) (.c (.int .i64 150))⟩])
 (.cond (.t 21) (.seq (.reg [⟨(some 22), none, .mov (.t 5)⟩,
  ⟨(some 4), none, .mov (.t 22)⟩])
 .ret)
 .skip))
 (.seq (.reg [⟨(some 23), none, .mov (.t 0)⟩,
  ⟨(some 24), none, .build [(.sl .clip []), (.int .i64 0)] [(0, 1, (.t 23))]⟩,
  ⟨(some 25), none, .box (.t 24) 2 true⟩,
  ⟨(some 26), none, .bslice [(.str [])] 2 [(0, (.c (.str [120]))), (1, (.c (.str [121])))]⟩,
  ⟨(some 27), none, .call 0 [] (.c (.fn 11 [])) [(.t 25), (.t 26), (.c (.int .i64 4))]⟩,
  ⟨(some 6), none, .alloc [(.int .i64 0), (.str []), (.int .i64 0), (.int .i64 0), (.str []), (.sl .clip []), (.sl .clip []), (.sl .clip []), (.sl .clip [])] false⟩,
  ⟨none, none, .store 9 (.t 6) (.t 27)⟩])
 (.seq (.reg [⟨(some 28), none, .bslice [(.str [])] 3 [(0, (.c (.str [120]))), (1, (.c (.str [121]))), (2, (.c (.str [119])))]⟩,
  ⟨(some 29), none, .mov (.t 1)⟩,
  ⟨(some 30), none, .bin .rem (.t 29) (.c (.int .i64 3))⟩,
  ⟨(some 31), none, .bin .add (.t 30) (.c (.int .i64 3))⟩,
  ⟨(some 32), none, .bin .rem (.t 31) (.c (.int .i64 3))⟩,
  ⟨(some 33), none, .iaddr 1 (.t 28) (.t 32)⟩,
  ⟨(some 34), none, .load none (.t 33)⟩,
  ⟨(some 7), none, .mov (.t 34)⟩])
 (.seq (.reg [⟨(some 35), none, .build [(.int .i64 0), (.str []), (.sl .clip [])] [(0, 1, (.c (.int .i64 2))), (1, 1, (.c (.str [73, 110, 116])))]⟩,
  ⟨(some 8), none, .alloc [(.int .i64 0), (.str []), (.sl .clip [])] false⟩,
  ⟨none, none, .store 3 (.t 8) (.t 35)⟩])
 (.seq (.reg [⟨(some 36), none, .load (some 9) (.t 6)⟩,
  ⟨(some 37), none, .call 0 [] (.c (.fn 12 [])) [(.t 36)]⟩,
  ⟨(some 9), none, .mov (.t 37)⟩])
 (.seq (.reg [⟨(some 38), none, .mov (.t 7)⟩,
  ⟨(some 39), none, .load (some 3) (.t 8)⟩,
  ⟨(some 40), none, .load (some 9) (.t 6)⟩,
  ⟨(some 41), none, .bslice [(.int .i64 0), (.str []), (.int .i64 0), (.int .i64 0), (.str []), (.sl .clip []), (.sl .clip []), (.sl .clip []), (.sl .clip [])] 1 [(0, (.t 40))]⟩,
  ⟨(some 42), none, .build [(.int .i64 0), (.str []), (.int .i64 0), (.int .i64 0), (.str []), (.sl .clip []), (.sl .clip []), (.sl .clip []), (.sl .clip [])] [(0, 1, (.c (.int .i64 6))), (1, 1, (.t 38)), (3, 3, (.t 39)), (6, 1, (.t 41))]⟩,
  ⟨(some 43), none, .call 0 [] (.c (.fn 12 [])) [(.t 42)]⟩,
  ⟨(some 10), none, .mov (.t 43)⟩])
 (.seq (.reg [⟨(some 44), none, .mov (.t 7)⟩,
  ⟨(some 45), none, .load (some 3) (.t 8)⟩,
  ⟨(some 46), none, .load (some 9) (.t 6)⟩,
  ⟨(some 47), none, .build [(.str []), (.int .i64 0), (.str []), (.sl .clip []), (.int .i64 0), (.str []), (.int .i64 0), (.int .i64 0), (.str []), (.sl .clip []), (.sl .clip []), (.sl .clip []), (.sl .clip [])] [(0, 1, (.t 44)), (1, 3, (.t 45)), (4, 9, (.t 46))]⟩,
  ⟨(some 48), none, .bslice [(.str []), (.int .i64 0), (.str []), (.sl .clip []), (.int .i64 0), (.str []), (.int .i64 0), (.int .i64 0), (.str []), (.sl .clip []), (.sl .clip []), (.sl .clip []), (.sl .clip [])] 1 [(0, (.t 47))]⟩,
  ⟨(some 49), none, .load (some 9) (.t 6)⟩,
  ⟨(some 50), none, .bslice [(.int .i64 0), (.str []), (.int .i64 0), (.int .i64 0), (.str []), (.sl .clip []), (.sl .clip []), (.sl .clip []), (.sl .clip [])] 1 [(0, (.t 49))]⟩,
  ⟨(some 51), none, .build [(.int .i64 0), (.str []), (.int .i64 0), (.int .i64 0), (.str []), (.sl .clip []), (.sl .clip []), (.sl .clip []), (.sl .clip [])] [(0, 1, (.c (.int .i64 9))), (8, 1, (.t 48)), (6, 1, (.t 50))]⟩,
  ⟨(some 52), none, .call 0 [] (.c (.fn 12 [])) [(.t 51)]⟩,
  ⟨(some 11), none, .mov (.t 52)⟩])
 (.seq (.reg [⟨(some 53), none, .loadL (some 3) (.t 8)⟩,
  ⟨(some 54), none, .call 0 [] (.c (.fn 13 [])) [(.c (.str [113]))]⟩,
  ⟨(some 55), none, .bslice [(.int .i64 0), (.str []), (.int .i64 0), (.int .i64 0), (.str []), (.sl .clip []), (.sl .clip []), (.sl .clip []), (.sl .clip [])] 1 [(0, (.t 54))]⟩,
  ⟨(some 56), none, .mov (.t 7)⟩,
  ⟨(some 57), none, .bslice [(.str [])] 2 [(0, (.c (.str [95]))), (1, (.t 56))]⟩,
  ⟨(some 58), none, .loadL (some 9) (.t 6)⟩,
  ⟨(some 59), none, .build [(.str []), (.sl .clip []), (.int .i64 0), (.str []), (.int .i64 0), (.int .i64 0), (.str []), (.sl .clip []), (.sl .clip []), (.sl .clip []), (.sl .clip [])] [(0, 1, (.c (.str [67]))), (1, 1, (.t 57)), (2, 9, (.t 58))]⟩,
  ⟨(some 60), none, .bslice [(.str []), (.sl .clip []), (.int .i64 0), (.str []), (.int .i64 0), (.int .i64 0), (.str []), (.sl .clip []), (.sl .clip []), (.sl .clip []), (.sl .clip [])] 1 [(0, (.t 59))]⟩,
  ⟨(some 61), none, .build [(.int .i64 0), (.str []), (.int .i64 0), (.int .i64 0), (.str []), (.sl .clip []), (.sl .clip []), (.sl .clip []), (.sl .clip [])] [(0, 1, (.c (.int .i64 10))), (3, 3, (.t 53)), (6, 1, (.t 55)), (7, 1, (.t 60))]⟩,
  ⟨(some 62), none, .call 0 [] (.c (.fn 12 [])) [(.t 61)]⟩,
  ⟨(some 12), none, .mov (.t 62)⟩])
 (.seq (.reg [⟨(some 63), none, .mov (.t 7)⟩,
  ⟨(some 64), none, .load (some 9) (.t 6)⟩,
  ⟨(some 65), none, .bslice [(.int .i64 0), (.str []), (.int .i64 0), (.int .i64 0), (.str []), (.sl .clip []), (.sl .clip []), (.sl .clip []), (.sl .clip [])] 1 [(0, (.t 64))]⟩,
  ⟨(some 66), none, .build [(.int .i64 0), (.str []), (.int .i64 0), (.int .i64 0), (.str []), (.sl .clip []), (.sl .clip []), (.sl .clip []), (.sl .clip [])] [(0, 1, (.c (.int .i64 8))), (1, 1, (.t 63)), (6, 1, (.t 65))]⟩,
  ⟨(some 67), none, .call 0 [] (.c (.fn 12 [])) [(.t 66)]⟩,
  ⟨(some 13), none, .mov (.t 67)⟩])
 (.seq (.reg [⟨(some 14), none, .mov (.c (.int .i64 0))⟩])
 (.seq (.seq (.reg [⟨(some 15), none, .mov (.c (.int .i64 0))⟩])
 (.block 0 (.loop [5, 7, 9, 10, 11, 12, 13, 14, 15] [6] (.seq (.seq (.reg [⟨(some 68), none, .mov (.t 15)⟩,
  ⟨(some 69), none, .mov (.t 9)⟩,
  ⟨(some 70), none, .len 1 (.t 69)⟩,
  ⟨(some 71), none, .bin .lss (.t 68) (.t 70)⟩])
 (.cond (.t 71) .skip
 (.exit 0)))
 (.seq (.block 1 (.seq (.seq (.reg [⟨(some 74), none, .mov (.t 9)⟩,
  ⟨(some 75), none, .mov (.t 15)⟩,
  ⟨(some 76), none, .iaddr 1 (.t 74) (.t 75)⟩,
  ⟨(some 77), none, .load none (.t 76)⟩,
  ⟨(some 78), none, .mov (.t 7)⟩,
  ⟨(some 79), none, .bin .eql (.t 77) (.t 78)⟩])
 (.cond (.t 79) (.exit 1)
 .skip))
 (.seq (.reg [⟨(some 80), none, .mov (.t 14)⟩,
  ⟨(some 81), none, .bin .add (.t 80) (.c (.int .i64 1))⟩,
  ⟨(some 14), none, .mov (.t 81)⟩])
 (.seq (.reg [⟨(some 82), none, .mov (.t 10)⟩,
  ⟨(some 83), none, .mov (.t 9)⟩,
  ⟨(some 84), none, .mov (.t 15)⟩,
  ⟨(some 85), none, .iaddr 1 (.t 83) (.t 84)⟩,
  ⟨(some 86), none, .load none (.t 85)⟩,
  ⟨(some 87), none, .call 0 [] (.c (.fn 14 [])) [(.t 82), (.t 86)]⟩,
  ⟨(some 88), none, .not (.t 87)⟩,
  ⟨(some 89), none, .mov (.t 88)⟩,
  ⟨(some 90), (some (89, false)), .mov (.t 11)⟩,
  ⟨(some 91), (some (89, false)), .mov (.t 9)⟩,
  ⟨(some 92), (some (89, false)), .mov (.t 15)⟩,
  ⟨(some 93), (some (89, false)), .iaddr 1 (.t 91) (.t 92)⟩,
  ⟨(some 94), (some (89, false)), .load none (.t 93)⟩,
  ⟨(some 95), (some (89, false)), .call 0 [] (.c (.fn 14 [])) [(.t 90), (.t 94)]⟩,
  ⟨(some 96), (some (89, false)), .not (.t 95)⟩,
  ⟨(some 97), none, .pick (.t 89) (.c (.bool true)) (.t 96)⟩,
  ⟨(some 98), none, .mov (.t 97)⟩,
  ⟨(some 99), (some (98, false)), .mov (.t 12)⟩,
  ⟨(some 100), (some (98, false)), .mov (.t 9)⟩,
  ⟨(some 101), (some (98, false)), .mov (.t 15)⟩,
  ⟨(some 102), (some (98, false)), .iaddr 1 (.t 100) (.t 101)⟩,
  ⟨(some 103), (some (98, false)), .load none (.t 102)⟩,
  ⟨(some 104), (some (98, false)), .call 0 [] (.c (.fn 14 [])) [(.t 99), (.t 103)]⟩,
  ⟨(some 105), (some (98, false)), .not (.t 104)⟩,
  ⟨(some 106), none, .pick (.t 98) (.c (.bool true)) (.t 105)⟩])
 (.cond (.t 106) (.seq (.reg [⟨(some 4), none, .mov (.c (.bool false))⟩])
 .ret)
 .skip)))))
 (.reg [⟨(some 72), none, .mov (.t 15)⟩,
  ⟨(some 73), none, .bin .add (.t 72) (.c (.int .i64 1))⟩,
  ⟨(some 15), none, .mov (.t 73)⟩]))))))
 (.seq (.reg [⟨(some 107), none, .mov (.t 5)⟩,
  ⟨(some 108), none, .mov (.t 107)⟩,
  ⟨(some 109), (some (108, true)), .mov (.t 10)⟩,
  ⟨(some 110), (some (108, true)), .len 1 (.t 109)⟩,
  ⟨(some 111), (some (108, true)), .mov (.t 14)⟩,
  ⟨(some 112), (some (108, true)), .bin .eql (.t 110) (.t 111)⟩,
  ⟨(some 113), none, .pick (.t 108) (.t 112) (.c (.bool false))⟩,
  ⟨(some 114), none, .mov (.t 113)⟩,
  ⟨(some 115), (some (114, true)), .mov (.t 11)⟩,
  ⟨(some 116), (some (114, true)), .len 1 (.t 115)⟩,
  ⟨(some 117), (some (114, true)), .mov (.t 14)⟩,
  ⟨(some 118), (some (114, true)), .bin .eql (.t 116) (.t 117)⟩,
  ⟨(some 119), none, .pick (.t 114) (.t 118) (.c (.bool false))⟩,
  ⟨(some 120), none, .mov (.t 119)⟩,
  ⟨(some 121), (some (120, true)), .mov (.t 12)⟩,
  ⟨(some 122), (some (120, true)), .len 1 (.t 121)⟩,
  ⟨(some 123), (some (120, true)), .mov (.t 14)⟩,
  ⟨(some 124), (some (120, true)), .bin .add (.t 123) (.c (.int .i64 1))⟩,
  ⟨(some 125), (some (120, true)), .bin .eql (.t 122) (.t 124)⟩,
  ⟨(some 126), none, .pick (.t 120) (.t 125) (.c (.bool false))⟩,
  ⟨(some 127), none, .mov (.t 126)⟩,
  ⟨(some 128), (some (127, true)), .mov (.t 13)⟩,
  ⟨(some 129), (some (127, true)), .mov (.t 9)⟩,
  ⟨(some 130), (some (127, true)), .call 0 [] (.c (.fn 15 [])) [(.t 128), (.t 129)]⟩,
  ⟨(some 131), none, .pick (.t 127) (.t 130) (.c (.bool false))⟩,
  ⟨(some 132), none, .mov (.t 131)⟩,
  ⟨(some 133), (some (132, true)), .load (some 9) (.t 6)⟩,
  ⟨(some 134), (some (132, true)), .load (some 9) (.t 6)⟩,
  ⟨(some 135), (some (132, true)), .bslice [(.int .i64 0), (.str []), (.int .i64 0), (.int .i64 0), (.str []), (.sl .clip []), (.sl .clip []), (.sl .clip []), (.sl .clip [])] 2 [(0, (.t 133)), (1, (.t 134))]⟩,
  ⟨(some 136), (some (132, true)), .build [(.int .i64 0), (.str []), (.int .i64 0), (.int .i64 0), (.str []), (.sl .clip []), (.sl .clip []), (.sl .clip []), (.sl .clip [])] [(0, 1, (.c (.int .i64 5))), (6, 1, (.t 135))]⟩,
  ⟨(some 137), (some (132, true)), .call 0 [] (.c (.fn 16 [])) [(.t 136)]⟩,
  ⟨(some 138), (some (132, true)), .loadL (some 9) (.t 6)⟩,
  ⟨(some 139), (some (132, true)), .call 0 [] (.c (.fn 16 [])) [(.t 138)]⟩,
  ⟨(some 140), (some (132, true)), .bin .mul (.c (.int .i64 2)) (.t 139)⟩,
  ⟨(some 141), (some (132, true)), .bin .add (.t 140) (.c (.int .i64 1))⟩,
  ⟨(some 142), (some (132, true)), .bin .eql (.t 137) (.t 141)⟩,
  ⟨(some 143), none, .pick (.t 132) (.t 142) (.c (.bool false))⟩,
  ⟨(some 4), none, .mov (.t 143)⟩])
 .ret))))))))))))))),
  [.t 4], false, true, 144⟩
theorem co3 : compF Try.prog ⟨[25], [(16, [5, 7, 9, 10, 11, 12, 13, 14, 15], [6])], []⟩ false true Try.f3 = some ac3 := by kernel_rfl

/-- paideia/paideialaw2.PrinterUnlike -/
def ac5 : AF := ⟨(.seq (.reg [⟨(some 4), none, .mov (.c (.bool false))⟩])
 (.seq (.reg [⟨(some 12), none, .call 0 [] (.c (.fn 21 [])) []⟩,
  ⟨(some 5), none, .mov (.t 12)⟩])
 (.seq (.seq (.reg [⟨(some 13), none, .mov (.t 5)⟩,
  ⟨(some 14), none, .not (.t 13)⟩])
 (.cond (.t 14) (.seq (.reg [⟨(some 4), none, .mov (.c (.bool false))⟩])
 .ret)
 .skip))
 (.seq (.seq (.reg [⟨(some 15), none, .mov (.t 0)⟩,
  ⟨(some 16), none, .len 1 (.t 15)⟩,
  ⟨(some 17), none, .bin .gtr (.t 16) (.c (.int .i64 80))⟩,
  ⟨(some 18), none, .mov (.t 17)⟩,
  ⟨(some 19), (some (18, false)), .mov (.t 1)⟩,
  ⟨(some 20), (some (18, false)), .len 1 (.t 19)⟩,
  ⟨(some 21), (some (18, false)), .bin .gtr (.t 20) (.c (.int .i64 80))⟩,
  ⟨(some 22), none, .pick (.t 18) (.c (.bool true)) (.t 21)⟩])
 (.cond (.t 22) (.seq (.reg [⟨(some 23), none, .mov (.t 5)⟩,
  ⟨(some 4), none, .mov (.t 23)⟩])
 .ret)
 .skip))
 (.seq (.reg [⟨(some 24), none, .mov (.t 0)⟩,
  ⟨(some 25), none, .build [(.sl .clip []), (.int .i64 0)] [(0, 1, (.t 24))]⟩,
  ⟨(some 26), none, .box (.t 25) 2 true⟩,
  ⟨(some 6), none, .mov (.t 26)⟩])
 (.seq (.reg [⟨(some 27), none, .mov (.t 1)⟩,
  ⟨(some 28), none, .build [(.sl .clip []), (.int .i64 0)] [(0, 1, (.t 27))]⟩,
  ⟨(some 29), none, .box (.t 28) 2 true⟩,
  ⟨(some 7), none, .mov (.t 29)⟩])
 (.seq (.reg [⟨(some 30), none, .mov (.t 6)⟩,
  ⟨(some 31), none, .call 0 [] (.c (.fn 18 [])) [(.t 30), (.c (.int .i64 4))]⟩,
  ⟨(some 8), none, .alloc [(.int .i64 0), (.str []), (.sl .clip [])] false⟩,
  ⟨none, none, .store 3 (.t 8) (.t 31)⟩])
 (.seq (.reg [⟨(some 32), none, .mov (.t 7)⟩,
  ⟨(some 33), none, .call 0 [] (.c (.fn 18 [])) [(.t 32), (.c (.int .i64 4))]⟩,
  ⟨(some 9), none, .alloc [(.int .i64 0), (.str []), (.sl .clip [])] false⟩,
  ⟨none, none, .store 3 (.t 9) (.t 33)⟩])
 (.seq (.reg [⟨(some 34), none, .mov (.t 6)⟩,
  ⟨(some 35), none, .call 0 [] (.c (.fn 22 [])) [(.t 34)]⟩,
  ⟨(some 10), none, .alloc [(.sl .clip []), (.sl .clip []), (.int .i64 0), (.str []), (.sl .clip [])] false⟩,
  ⟨none, none, .store 5 (.t 10) (.t 35)⟩])
 (.seq (.reg [⟨(some 36), none, .mov (.t 7)⟩,
  ⟨(some 37), none, .call 0 [] (.c (.fn 22 [])) [(.t 36)]⟩,
  ⟨(some 11), none, .alloc [(.sl .clip []), (.sl .clip []), (.int .i64 0), (.str []), (.sl .clip [])] false⟩,
  ⟨none, none, .store 5 (.t 11) (.t 37)⟩])
 (.seq (.reg [⟨(some 38), none, .faddr 0 (.t 10)⟩,
  ⟨none, none, .store 1 (.t 38) (.c (.sl .clip []))⟩])
 (.seq (.reg [⟨(some 39), none, .faddr 0 (.t 11)⟩,
  ⟨none, none, .store 1 (.t 39) (.c (.sl .clip []))⟩])
 (.seq (.reg [⟨(some 40), none, .mov (.t 5)⟩,
  ⟨(some 41), none, .mov (.t 40)⟩,
  ⟨(some 42), (some (41, true)), .load (some 3) (.t 8)⟩,
  ⟨(some 43), (some (41, true)), .call 0 [] (.c (.fn 23 [])) [(.t 42)]⟩,
  ⟨(some 44), (some (41, true)), .loadL (some 3) (.t 9)⟩,
  ⟨(some 45), (some (41, true)), .call 0 [] (.c (.fn 23 [])) [(.t 44)]⟩,
  ⟨(some 46), (some (41, true)), .bin .eql (.t 43) (.t 45)⟩,
  ⟨(some 47), (some (41, true)), .loadL (some 3) (.t 8)⟩,
  ⟨(some 48), (some (41, true)), .loadL (some 3) (.t 9)⟩,
  ⟨(some 49), (some (41, true)), .call 0 [] (.c (.fn 24 [])) [(.t 47), (.t 48)]⟩,
  ⟨(some 50), (some (41, true)), .eqb false (.t 46) (.t 49)⟩,
  ⟨(some 51), none, .pick (.t 41) (.t 50) (.c (.bool false))⟩,
  ⟨(some 52), none, .mov (.t 51)⟩,
  ⟨(some 53), (some (52, true)), .load (some 5) (.t 10)⟩,
  ⟨(some 54), (some (52, true)), .call 0 [] (.c (.fn 25 [])) [(.t 53)]⟩,
  ⟨(some 55), (some (52, true)), .loadL (some 5) (.t 11)⟩,
  ⟨(some 56), (some (52, true)), .call 0 [] (.c (.fn 25 [])) [(.t 55)]⟩,
  ⟨(some 57), (some (52, true)), .bin .eql (.t 54) (.t 56)⟩,
  ⟨(some 58), (some (52, true)), .loadL (some 5) (.t 10)⟩,
  ⟨(some 59), (some (52, true)), .loadL (some 5) (.t 11)⟩,
  ⟨(some 60), (some (52, true)), .call 0 [] (.c (.fn 26 [])) [(.t 58), (.t 59)]⟩,
  ⟨(some 61), (some (52, true)), .eqb false (.t 57) (.t 60)⟩,
  ⟨(some 62), none, .pick (.t 52) (.t 61) (.c (.bool false))⟩,
  ⟨(some 4), none, .mov (.t 62)⟩])
 .ret))))))))))))),
  [.t 4], false, true, 63⟩
theorem co5 : compF Try.prog ⟨[26, 29], [], []⟩ false true Try.f5 = some ac5 := by kernel_rfl

/-- paideia/paideialaw7.MatchCases -/
def ac7 : AF := ⟨(.seq (.reg [⟨(some 6), none, .mov (.c (.bool false))⟩])
 (.seq (.reg [⟨(some 19), none, .call 0 [] (.c (.fn 27 [])) []⟩,
  ⟨(some 7), none, .mov (.t 19)⟩])
 (.seq (.seq (.reg [⟨(some 20), none, .mov (.t 7)⟩,
  ⟨(some 21), none, .not (.t 20)⟩])
 (.cond (.t 21) (.seq (.reg [⟨(some 6), none, .mov (.c (.bool false))⟩])
 .ret)
 .skip))
 (.seq (.seq (.reg [⟨(some 22), none, .mov (.t 0)⟩,
  ⟨(some 23), none, .len 1 (.t 22)⟩,
  ⟨(some 24), none, .bin .gtr (.t 23) (.c (.int .i64 60))⟩,
  ⟨(some 25), none, .mov (.t 24)⟩,
  ⟨(some 26), (some (25, false)), .mov (.t 1)⟩,
  ⟨(some 27), (some (25, false)), .len 1 (.t 26)⟩,
  ⟨(some 28), (some (25, false)), .bin .gtr (.t 27) (.c (.int .i64 60))⟩,
  ⟨(some 29), none, .pick (.t 25) (.c (.bool true)) (.t 28)⟩,
  ⟨(some 30), none, .mov (.t 29)⟩,
  ⟨(some 31), (some (30, false)), .mov (.t 2)⟩,
  ⟨(some 32), (some (30, false)), .len 1 (.t 31)⟩,
  ⟨(some 33), (some (30, false)), .bin .gtr (.t 32) (.c (.int .i64 60))⟩,
  ⟨(some 34), none, .pick (.t 30) (.c (.bool true)) (.t 33)⟩])
 (.cond (.t 34) (.seq (.reg [⟨(some 35), none, .mov (.t 7)⟩,
  ⟨(some 6), none, .mov (.t 35)⟩])
 .ret)
 .skip))
 (.seq (.reg [⟨(some 36), none, .mov (.t 0)⟩,
  ⟨(some 37), none, .build [(.sl .clip []), (.int .i64 0)] [(0, 1, (.t 36))]⟩,
  ⟨(some 38), none, .box (.t 37) 2 true⟩,
  ⟨(some 39), none, .call 0 [] (.c (.fn 18 [])) [(.t 38), (.c (.int .i64 3))]⟩,
  ⟨(some 8), none, .alloc [(.int .i64 0), (.str []), (.sl .clip [])] false⟩,
  ⟨none, none, .store 3 (.t 8) (.t 39)⟩])
 (.seq (.reg [⟨(some 40), none, .mov (.t 1)⟩,
  ⟨(some 41), none, .call 0 [] (.c (.fn 29 [])) [(.t 40)]⟩,
  ⟨(some 42), none, .loadL (some 3) (.t 8)⟩,
  ⟨(some 43), none, .call 0 [] (.c (.fn 28 [])) [(.t 41), (.t 42)]⟩,
  ⟨(some 9), none, .alloc [(.int .i64 0), (.str []), (.sl .clip [])] false⟩,
  ⟨none, none, .store 3 (.t 9) (.t 43)⟩])
 (.seq (.reg [⟨(some 44), none, .mov (.t 2)⟩,
  ⟨(some 45), none, .call 0 [] (.c (.fn 29 [])) [(.t 44)]⟩,
  ⟨(some 46), none, .loadL (some 3) (.t 9)⟩,
  ⟨(some 47), none, .call 0 [] (.c (.fn 28 [])) [(.t 45), (.t 46)]⟩,
  ⟨(some 10), none, .alloc [(.int .i64 0), (.str []), (.sl .clip [])] false⟩,
  ⟨none, none, .store 3 (.t 10) (.t 47)⟩])
 (.seq (.reg [⟨(some 49), none, .load (some 3) (.t 8)⟩,
  ⟨(some 50), none, .load (some 3) (.t 9)⟩,
  ⟨(some 51), none, .call 0 [] (.c (.fn 30 [])) [(.t 49), (.t 50)]⟩,
  ⟨(some 48), none, .mov (.t 51)⟩,
  ⟨(some 52), none, .extract (.t 48) 0⟩,
  ⟨(some 53), none, .extract (.t 48) 1⟩,
  ⟨(some 11), none, .alloc [(.map none)] false⟩,
  ⟨none, none, .store 1 (.t 11) (.t 52)⟩,
  ⟨(some 12), none, .mov (.t 53)⟩])
 (.seq (.reg [⟨(some 55), none, .load (some 3) (.t 9)⟩,
  ⟨(some 56), none, .load (some 3) (.t 10)⟩,
  ⟨(some 57), none, .call 0 [] (.c (.fn 30 [])) [(.t 55), (.t 56)]⟩,
  ⟨(some 54), none, .mov (.t 57)⟩,
  ⟨(some 58), none, .extract (.t 54) 0⟩,
  ⟨(some 59), none, .extract (.t 54) 1⟩,
  ⟨(some 13), none, .alloc [(.map none)] false⟩,
  ⟨none, none, .store 1 (.t 13) (.t 58)⟩,
  ⟨(some 14), none, .mov (.t 59)⟩])
 (.seq (.reg [⟨(some 61), none, .load (some 3) (.t 8)⟩,
  ⟨(some 62), none, .load (some 3) (.t 10)⟩,
  ⟨(some 63), none, .call 0 [] (.c (.fn 30 [])) [(.t 61), (.t 62)]⟩,
  ⟨(some 60), none, .mov (.t 63)⟩,
  ⟨(some 64), none, .extract (.t 60) 0⟩,
  ⟨(some 65), none, .extract (.t 60) 1⟩,
  ⟨(some 15), none, .alloc [(.map none)] false⟩,
  ⟨none, none, .store 1 (.t 15) (.t 64)⟩,
  ⟨(some 16), none, .mov (.t 65)⟩])
 (.seq (.reg [⟨(some 67), none, .load (some 3) (.t 10)⟩,
  ⟨(some 68), none, .load (some 3) (.t 8)⟩,
  ⟨(some 69), none, .call 0 [] (.c (.fn 30 [])) [(.t 67), (.t 68)]⟩,
  ⟨(some 66), none, .mov (.t 69)⟩,
  ⟨(some 70), none, .extract (.t 66) 0⟩,
  ⟨(some 71), none, .extract (.t 66) 1⟩,
  ⟨(some 17), none, .alloc [(.map none)] false⟩,
  ⟨none, none, .store 1 (.t 17) (.t 70)⟩,
  ⟨(some 18), none, .mov (.t 71)⟩])
 (.seq (.reg [⟨(some 72), none, .mov (.t 7)⟩,
  ⟨(some 73), none, .mov (.t 72)⟩,
  ⟨(some 74), (some (73, true)), .mov (.t 12)⟩,
  ⟨(some 75), none, .pick (.t 73) (.t 74) (.c (.bool false))⟩,
  ⟨(some 76), none, .mov (.t 75)⟩,
  ⟨(some 77), (some (76, true)), .mov (.t 14)⟩,
  ⟨(some 78), none, .pick (.t 76) (.t 77) (.c (.bool false))⟩,
  ⟨(some 79), none, .mov (.t 78)⟩,
  ⟨(some 80), (some (79, true)), .mov (.t 16)⟩,
  ⟨(some 81), none, .pick (.t 79) (.t 80) (.c (.bool false))⟩,
  ⟨(some 82), none, .mov (.t 81)⟩,
  ⟨(some 83), (some (82, true)), .load (some 3) (.t 8)⟩,
  ⟨(some 84), (some (82, true)), .load (some 3) (.t 8)⟩,
  ⟨(some 85), (some (82, true)), .call 0 [] (.c (.fn 31 [])) [(.t 83), (.t 84)]⟩,
  ⟨(some 86), none, .pick (.t 82) (.t 85) (.c (.bool false))⟩,
  ⟨(some 87), none, .mov (.t 86)⟩,
  ⟨(some 88), (some (87, true)), .load (some 3) (.t 8)⟩,
  ⟨(some 89), (some (87, true)), .load (some 3) (.t 10)⟩,
  ⟨(some 90), (some (87, true)), .call 0 [] (.c (.fn 31 [])) [(.t 88), (.t 89)]⟩,
  ⟨(some 91), (some (87, true)), .mov (.t 18)⟩,
  ⟨(some 92), (some (87, true)), .eqb false (.t 90) (.t 91)⟩,
  ⟨(some 93), none, .pick (.t 87) (.t 92) (.c (.bool false))⟩,
  ⟨(some 94), none, .mov (.t 93)⟩,
  ⟨(some 95), (some (94, true)), .load (some 3) (.t 10)⟩,
  ⟨(some 96), (some (94, true)), .load (some 3) (.t 8)⟩,
  ⟨(some 97), (some (94, true)), .call 0 [] (.c (.fn 31 [])) [(.t 95), (.t 96)]⟩,
  ⟨(some 98), (some (94, true)), .mov (.t 18)⟩,
  ⟨(some 99), (some (94, true)), .eqb false (.t 97) (.t 98)⟩,
  ⟨(some 100), none, .pick (.t 94) (.t 99) (.c (.bool false))⟩,
  ⟨(some 6), none, .mov (.t 100)⟩])
 .ret)))))))))))),
  [.t 6], false, true, 101⟩
theorem co7 : compF Try.prog ⟨[38], [], []⟩ false true Try.f7 = some ac7 := by kernel_rfl

/-- paideia/paideialaw7.MatchOnce -/
def ac8 : AF := ⟨(.seq (.reg [⟨(some 4), none, .mov (.c (.bool false))⟩])
 (.seq (.reg [⟨(some 17), none, .call 0 [] (.c (.fn 27 [])) []⟩,
  ⟨(some 5), none, .mov (.t 17)⟩])
 (.seq (.seq (.reg [⟨(some 18), none, .mov (.t 5)⟩,
  ⟨(some 19), none, .not (.t 18)⟩])
 (.cond (.t 19) (.seq (.reg [⟨(some 4), none, .mov (.c (.bool false))⟩])
 .ret)
 .skip))
 (.seq (.seq (.reg [⟨(some 20), none, .mov (.t 0)⟩,
  ⟨(some 21), none, .len 1 (.t 20)⟩,
  ⟨(some 22), none, .bin .gtr (.t 21) (.c (.int .i64 60))⟩,
  ⟨(some 23), none, .mov (.t 22)⟩,
  ⟨(some 24), (some (23, false)), .mov (.t 1)⟩,
  ⟨(some 25), (some (23, false)), .len 1 (.t 24)⟩,
  ⟨(some 26), (some (23, false)), .bin .gtr (.t 25) (.c (.int .i64 60))⟩,
  ⟨(some 27), none, .pick (.t 23) (.c (.bool true)) (.t 26)⟩])
 (.cond (.t 27) (.seq (.reg [⟨(some 28), none, .mov (.t 5)⟩,
  ⟨(some 4), none, .mov (.t 28)⟩])
 .ret)
 .skip))
 (.seq (.reg [⟨(some 29), none, .build [(.int .i64 0), (.str []), (.sl .clip [])] [(0, 1, (.c (.int .i64 1))), (1, 1, (.c (.str [97])))]⟩,
  ⟨(some 6), none, .alloc [(.int .i64 0), (.str []), (.sl .clip [])] false⟩,
  ⟨none, none, .store 3 (.t 6) (.t 29)⟩])
 (.seq (.reg [⟨(some 30), none, .mov (.t 0)⟩,
  ⟨(some 31), none, .build [(.sl .clip []), (.int .i64 0)] [(0, 1, (.t 30))]⟩,
  ⟨(some 32), none, .box (.t 31) 2 true⟩,
  ⟨(some 33), none, .call 0 [] (.c (.fn 18 [])) [(.t 32), (.c (.int .i64 3))]⟩,
  ⟨(some 7), none, .alloc [(.int .i64 0), (.str []), (.sl .clip [])] false⟩,
  ⟨none, none, .store 3 (.t 7) (.t 33)⟩])
 (.seq (.reg [⟨(some 34), none, .mov (.t 1)⟩,
  ⟨(some 35), none, .build [(.sl .clip []), (.int .i64 0)] [(0, 1, (.t 34))]⟩,
  ⟨(some 36), none, .box (.t 35) 2 true⟩,
  ⟨(some 37), none, .call 0 [] (.c (.fn 18 [])) [(.t 36), (.c (.int .i64 3))]⟩,
  ⟨(some 8), none, .alloc [(.int .i64 0), (.str []), (.sl .clip [])] false⟩,
  ⟨none, none, .store 3 (.t 8) (.t 37)⟩])
 (.seq (.reg [⟨(some 38), none, .load (some 3) (.t 6)⟩,
  ⟨(some 39), none, .load (some 3) (.t 6)⟩,
  ⟨(some 40), none, .bslice [(.int .i64 0), (.str []), (.sl .clip [])] 2 [(0, (.t 38)), (1, (.t 39))]⟩,
  ⟨(some 41), none, .build [(.int .i64 0), (.str []), (.sl .clip [])] [(0, 1, (.c (.int .i64 2))), (1, 1, (.c (.str [80, 97, 105, 114]))), (2, 1, (.t 40))]⟩,
  ⟨(some 9), none, .alloc [(.int .i64 0), (.str []), (.sl .clip [])] false⟩,
  ⟨none, none, .store 3 (.t 9) (.t 41)⟩])
 (.seq (.reg [⟨(some 42), none, .load (some 3) (.t 7)⟩,
  ⟨(some 43), none, .load (some 3) (.t 8)⟩,
  ⟨(some 44), none, .bslice [(.int .i64 0), (.str []), (.sl .clip [])] 2 [(0, (.t 42)), (1, (.t 43))]⟩,
  ⟨(some 45), none, .build [(.int .i64 0), (.str []), (.sl .clip [])] [(0, 1, (.c (.int .i64 2))), (1, 1, (.c (.str [80, 97, 105, 114]))), (2, 1, (.t 44))]⟩,
  ⟨(some 10), none, .alloc [(.int .i64 0), (.str []), (.sl .clip [])] false⟩,
  ⟨none, none, .store 3 (.t 10) (.t 45)⟩])
 (.seq (.reg [⟨(some 47), none, .load (some 3) (.t 9)⟩,
  ⟨(some 48), none, .load (some 3) (.t 10)⟩,
  ⟨(some 49), none, .call 0 [] (.c (.fn 30 [])) [(.t 47), (.t 48)]⟩,
  ⟨(some 46), none, .mov (.t 49)⟩,
  ⟨(some 50), none, .extract (.t 46) 0⟩,
  ⟨(some 51), none, .extract (.t 46) 1⟩,
  ⟨(some 11), none, .alloc [(.map none)] false⟩,
  ⟨none, none, .store 1 (.t 11) (.t 50)⟩,
  ⟨(some 12), none, .mov (.t 51)⟩])
 (.seq (.reg [⟨(some 53), none, .load (some 3) (.t 6)⟩,
  ⟨(some 54), none, .load (some 3) (.t 7)⟩,
  ⟨(some 55), none, .call 0 [] (.c (.fn 30 [])) [(.t 53), (.t 54)]⟩,
  ⟨(some 52), none, .mov (.t 55)⟩,
  ⟨(some 56), none, .extract (.t 52) 0⟩,
  ⟨(some 57), none, .extract (.t 52) 1⟩,
  ⟨(some 13), none, .alloc [(.map none)] false⟩,
  ⟨none, none, .store 1 (.t 13) (.t 56)⟩,
  ⟨(some 14), none, .mov (.t 57)⟩])
 (.seq (.reg [⟨(some 59), none, .load (some 3) (.t 10)⟩,
  ⟨(some 60), none, .load (some 3) (.t 6)⟩,
  ⟨(some 61), none, .call 0 [] (.c (.fn 30 [])) [(.t 59), (.t 60)]⟩,
  ⟨(some 58), none, .mov (.t 61)⟩,
  ⟨(some 62), none, .extract (.t 58) 0⟩,
  ⟨(some 63), none, .extract (.t 58) 1⟩,
  ⟨(some 15), none, .alloc [(.map none)] false⟩,
  ⟨none, none, .store 1 (.t 15) (.t 62)⟩,
  ⟨(some 16), none, .mov (.t 63)⟩])
 (.seq (.reg [⟨(some 64), none, .mov (.t 5)⟩,
  ⟨(some 65), none, .mov (.t 64)⟩,
  ⟨(some 66), (some (65, true)), .mov (.t 12)⟩,
  ⟨(some 67), (some (65, true)), .load (some 3) (.t 7)⟩,
  ⟨(some 68), (some (65, true)), .load (some 3) (.t 8)⟩,
  ⟨(some 69), (some (65, true)), .call 0 [] (.c (.fn 24 [])) [(.t 67), (.t 68)]⟩,
  ⟨(some 70), (some (65, true)), .eqb false (.t 66) (.t 69)⟩,
  ⟨(some 71), none, .pick (.t 65) (.t 70) (.c (.bool false))⟩,
  ⟨(some 72), none, .mov (.t 71)⟩,
  ⟨(some 73), (some (72, true)), .mov (.t 12)⟩,
  ⟨(some 74), (some (72, true)), .not (.t 73)⟩,
  ⟨(some 75), (some (72, true)), .mov (.t 74)⟩,
  ⟨(some 76), (some (75, false)), .load (some 1) (.t 11)⟩,
  ⟨(some 77), (some (75, false)), .load (some 3) (.t 6)⟩,
  ⟨(some 78), (some (75, false)), .call 0 [] (.c (.fn 32 [])) [(.t 76), (.t 77)]⟩,
  ⟨(some 79), (some (75, false)), .loadL (some 3) (.t 7)⟩,
  ⟨(some 80), (some (75, false)), .call 0 [] (.c (.fn 24 [])) [(.t 78), (.t 79)]⟩,
  ⟨(some 81), (some (72, true)), .pick (.t 75) (.c (.bool true)) (.t 80)⟩,
  ⟨(some 82), none, .pick (.t 72) (.t 81) (.c (.bool false))⟩,
  ⟨(some 83), none, .mov (.t 82)⟩,
  ⟨(some 84), (some (83, true)), .mov (.t 14)⟩,
  ⟨(some 85), none, .pick (.t 83) (.t 84) (.c (.bool false))⟩,
  ⟨(some 86), none, .mov (.t 85)⟩,
  ⟨(some 87), (some (86, true)), .load (some 1) (.t 13)⟩,
  ⟨(some 88), (some (86, true)), .load (some 3) (.t 6)⟩,
  ⟨(some 89), (some (86, true)), .call 0 [] (.c (.fn 32 [])) [(.t 87), (.t 88)]⟩,
  ⟨(some 90), (some (86, true)), .loadL (some 3) (.t 7)⟩,
  ⟨(some 91), (some (86, true)), .call 0 [] (.c (.fn 24 [])) [(.t 89), (.t 90)]⟩,
  ⟨(some 92), none, .pick (.t 86) (.t 91) (.c (.bool false))⟩,
  ⟨(some 93), none, .mov (.t 92)⟩,
  ⟨(some 94), (some (93, true)), .mov (.t 16)⟩,
  ⟨(some 95), (some (93, true)), .not (.t 94)⟩,
  ⟨(some 96), none, .pick (.t 93) (.t 95) (.c (.bool false))⟩,
  ⟨(some 97), none, .mov (.t 96)⟩,
  ⟨(some 98), (some (97, true)), .load (some 3) (.t 9)⟩,
  ⟨(some 99), (some (97, true)), .call 0 [] (.c (.fn 33 [])) [(.t 98)]⟩,
  ⟨(some 100), (some (97, true)), .bin .eql (.t 99) (.c (.int .i64 3))⟩,
  ⟨(some 101), none, .pick (.t 97) (.t 100) (.c (.bool false))⟩,
  ⟨(some 4), none, .mov (.t 101)⟩])
 .ret))))))))))))),
  [.t 4], false, true, 102⟩
theorem co8 : compF Try.prog ⟨[32, 36], [], []⟩ false true Try.f8 = some ac8 := by kernel_rfl

/-- paideia/paideialaw7.MatchSays -/
def ac9 : AF := ⟨(.seq (.reg [⟨(some 4), none, .mov (.c (.bool false))⟩])
 (.seq (.reg [⟨(some 14), none, .call 0 [] (.c (.fn 27 [])) []⟩,
  ⟨(some 5), none, .mov (.t 14)⟩])
 (.seq (.seq (.reg [⟨(some 15), none, .mov (.t 5)⟩,
  ⟨(some 16), none, .not (.t 15)⟩])
 (.cond (.t 16) (.seq (.reg [⟨(some 4), none, .mov (.c (.bool false))⟩])
 .ret)
 .skip))
 (.seq (.seq (.reg [⟨(some 17), none, .mov (.t 0)⟩,
  ⟨(some 18), none, .len 1 (.t 17)⟩,
  ⟨(some 19), none, .bin .gtr (.t 18) (.c (.int .i64 100))⟩,
  ⟨(some 20), none, .mov (.t 19)⟩,
  ⟨(some 21), (some (20, false)), .mov (.t 1)⟩,
  ⟨(some 22), (some (20, false)), .len 1 (.t 21)⟩,
  ⟨(some 23), (some (20, false)), .bin .gtr (.t 22) (.c (.int .i64 100))⟩,
  ⟨(some 24), none, .pick (.t 20) (.c (.bool true)) (.t 23)⟩])
 (.cond (.t 24) (.seq (.reg [⟨(some 25), none, .mov (.t 5)⟩,
  ⟨(some 4), none, .mov (.t 25)⟩])
 .ret)
 .skip))
 (.seq (.reg [⟨(some 26), none, .mov (.t 0)⟩,
  ⟨(some 27), none, .build [(.sl .clip []), (.int .i64 0)] [(0, 1, (.t 26))]⟩,
  ⟨(some 28), none, .box (.t 27) 2 true⟩,
  ⟨(some 29), none, .call 0 [] (.c (.fn 18 [])) [(.t 28), (.c (.int .i64 3))]⟩,
  ⟨(some 6), none, .alloc [(.int .i64 0), (.str []), (.sl .clip [])] false⟩,
  ⟨none, none, .store 3 (.t 6) (.t 29)⟩])
 (.seq (.reg [⟨(some 30), none, .mov (.t 1)⟩,
  ⟨(some 31), none, .build [(.sl .clip []), (.int .i64 0)] [(0, 1, (.t 30))]⟩,
  ⟨(some 32), none, .box (.t 31) 2 true⟩,
  ⟨(some 33), none, .call 0 [] (.c (.fn 18 [])) [(.t 32), (.c (.int .i64 4))]⟩,
  ⟨(some 7), none, .alloc [(.int .i64 0), (.str []), (.sl .clip [])] false⟩,
  ⟨none, none, .store 3 (.t 7) (.t 33)⟩])
 (.seq (.reg [⟨(some 35), none, .load (some 3) (.t 6)⟩,
  ⟨(some 36), none, .load (some 3) (.t 7)⟩,
  ⟨(some 37), none, .call 0 [] (.c (.fn 30 [])) [(.t 35), (.t 36)]⟩,
  ⟨(some 34), none, .mov (.t 37)⟩,
  ⟨(some 38), none, .extract (.t 34) 0⟩,
  ⟨(some 39), none, .extract (.t 34) 1⟩,
  ⟨(some 8), none, .alloc [(.map none)] false⟩,
  ⟨none, none, .store 1 (.t 8) (.t 38)⟩,
  ⟨(some 9), none, .mov (.t 39)⟩])
 (.seq (.reg [⟨(some 41), none, .load (some 3) (.t 6)⟩,
  ⟨(some 42), none, .load (some 3) (.t 7)⟩,
  ⟨(some 43), none, .call 0 [] (.c (.fn 34 [])) [(.t 41), (.t 42)]⟩,
  ⟨(some 40), none, .mov (.t 43)⟩,
  ⟨(some 44), none, .extract (.t 40) 0⟩,
  ⟨(some 45), none, .extract (.t 40) 1⟩,
  ⟨(some 10), none, .mov (.t 44)⟩,
  ⟨(some 11), none, .mov (.t 45)⟩])
 (.seq (.reg [⟨(some 47), none, .load (some 3) (.t 7)⟩,
  ⟨(some 48), none, .load (some 3) (.t 6)⟩,
  ⟨(some 49), none, .call 0 [] (.c (.fn 34 [])) [(.t 47), (.t 48)]⟩,
  ⟨(some 46), none, .mov (.t 49)⟩,
  ⟨(some 50), none, .extract (.t 46) 0⟩,
  ⟨(some 51), none, .extract (.t 46) 1⟩,
  ⟨(some 12), none, .mov (.t 50)⟩,
  ⟨(some 13), none, .mov (.t 51)⟩])
 (.seq (.seq (.reg [⟨(some 52), none, .mov (.t 9)⟩,
  ⟨(some 53), none, .mov (.t 11)⟩,
  ⟨(some 54), none, .eqb true (.t 52) (.t 53)⟩,
  ⟨(some 55), none, .mov (.t 54)⟩,
  ⟨(some 56), (some (55, false)), .load (some 3) (.t 6)⟩,
  ⟨(some 57), (some (55, false)), .load (some 3) (.t 7)⟩,
  ⟨(some 58), (some (55, false)), .call 0 [] (.c (.fn 31 [])) [(.t 56), (.t 57)]⟩,
  ⟨(some 59), (some (55, false)), .mov (.t 11)⟩,
  ⟨(some 60), (some (55, false)), .mov (.t 59)⟩,
  ⟨(some 61), (some (60, true)), .mov (.t 13)⟩,
  ⟨(some 62), (some (55, false)), .pick (.t 60) (.t 61) (.c (.bool false))⟩,
  ⟨(some 63), (some (55, false)), .eqb true (.t 58) (.t 62)⟩,
  ⟨(some 64), none, .pick (.t 55) (.c (.bool true)) (.t 63)⟩])
 (.cond (.t 64) (.seq (.reg [⟨(some 4), none, .mov (.c (.bool false))⟩])
 .ret)
 .skip))
 (.seq (.reg [⟨(some 65), none, .mov (.t 5)⟩,
  ⟨(some 66), none, .mov (.t 65)⟩,
  ⟨(some 67), (some (66, true)), .mov (.t 9)⟩,
  ⟨(some 68), (some (66, true)), .not (.t 67)⟩,
  ⟨(some 69), (some (66, true)), .mov (.t 68)⟩,
  ⟨(some 70), (some (69, false)), .load (some 1) (.t 8)⟩,
  ⟨(some 71), (some (69, false)), .load (some 3) (.t 6)⟩,
  ⟨(some 72), (some (69, false)), .call 0 [] (.c (.fn 32 [])) [(.t 70), (.t 71)]⟩,
  ⟨(some 73), (some (69, false)), .loadL (some 3) (.t 7)⟩,
  ⟨(some 74), (some (69, false)), .call 0 [] (.c (.fn 24 [])) [(.t 72), (.t 73)]⟩,
  ⟨(some 75), (some (69, false)), .mov (.t 74)⟩,
  ⟨(some 76), (some (75, true)), .mov (.t 10)⟩,
  ⟨(some 77), (some (75, true)), .load (some 3) (.t 6)⟩,
  ⟨(some 78), (some (75, true)), .call 0 [] (.c (.fn 28 [])) [(.t 76), (.t 77)]⟩,
  ⟨(some 79), (some (75, true)), .loadL (some 3) (.t 7)⟩,
  ⟨(some 80), (some (75, true)), .call 0 [] (.c (.fn 24 [])) [(.t 78), (.t 79)]⟩,
  ⟨(some 81), (some (69, false)), .pick (.t 75) (.t 80) (.c (.bool false))⟩,
  ⟨(some 82), (some (66, true)), .pick (.t 69) (.c (.bool true)) (.t 81)⟩,
  ⟨(some 83), none, .pick (.t 66) (.t 82) (.c (.bool false))⟩,
  ⟨(some 4), none, .mov (.t 83)⟩])
 .ret))))))))))),
  [.t 4], false, true, 84⟩
theorem co9 : compF Try.prog ⟨[28, 32], [], []⟩ false true Try.f9 = some ac9 := by kernel_rfl

/-- paideia/paideialaw17.first -/
def ac10 : AF := ⟨(.seq (.reg [⟨(some 0), none, .mov (.c (.bool false))⟩])
 (.seq (.reg [⟨(some 3), none, .call 0 [] (.c (.fn 13 [])) [(.c (.str [120]))]⟩,
  ⟨(some 1), none, .alloc [(.int .i64 0), (.str []), (.int .i64 0), (.int .i64 0), (.str []), (.sl .clip []), (.sl .clip []), (.sl .clip []), (.sl .clip [])] false⟩,
  ⟨none, none, .store 9 (.t 1) (.t 3)⟩])
 (.seq (.reg [⟨(some 4), none, .load (some 9) (.t 1)⟩,
  ⟨(some 5), none, .load (some 9) (.t 1)⟩,
  ⟨(some 6), none, .bslice [(.int .i64 0), (.str []), (.int .i64 0), (.int .i64 0), (.str []), (.sl .clip []), (.sl .clip []), (.sl .clip []), (.sl .clip [])] 1 [(0, (.t 5))]⟩,
  ⟨(some 7), none, .call 0 [] (.c (.fn 35 [])) [(.t 4), (.t 6)]⟩,
  ⟨(some 8), none, .call 0 [] (.c (.fn 12 [])) [(.t 7)]⟩,
  ⟨(some 2), none, .mov (.t 8)⟩])
 (.seq (.reg [⟨(some 9), none, .load (some 9) (.t 1)⟩,
  ⟨(some 10), none, .call 0 [] (.c (.fn 16 [])) [(.t 9)]⟩,
  ⟨(some 11), none, .bin .eql (.t 10) (.c (.int .i64 1))⟩,
  ⟨(some 12), none, .mov (.t 11)⟩,
  ⟨(some 13), (some (12, true)), .mov (.t 2)⟩,
  ⟨(some 14), (some (12, true)), .len 1 (.t 13)⟩,
  ⟨(some 15), (some (12, true)), .bin .eql (.t 14) (.c (.int .i64 1))⟩,
  ⟨(some 16), none, .pick (.t 12) (.t 15) (.c (.bool false))⟩,
  ⟨(some 17), none, .mov (.t 16)⟩,
  ⟨(some 18), (some (17, true)), .call 0 [] (.c (.fn 36 [])) []⟩,
  ⟨(some 19), (some (17, true)), .len 1 (.t 18)⟩,
  ⟨(some 20), (some (17, true)), .bin .eql (.t 19) (.c (.int .i64 9))⟩,
  ⟨(some 21), none, .pick (.t 17) (.t 20) (.c (.bool false))⟩,
  ⟨(some 0), none, .mov (.t 21)⟩])
 .ret)))),
  [.t 0], false, true, 22⟩
theorem co10 : compF Try.prog ⟨[], [], []⟩ false true Try.f10 = some ac10 := by kernel_rfl

/-- paideia/paideiamake.Term -/
def ac11 : AF := ⟨(.seq (.reg [⟨(some 6), none, .alloc [(.int .i64 0), (.str []), (.int .i64 0), (.int .i64 0), (.str []), (.sl .clip []), (.sl .clip []), (.sl .clip []), (.sl .clip [])] false⟩])
 (.seq (.reg [⟨(some 25), none, .mov (.t 0)⟩,
  ⟨(some 26), none, .call 0 [] (.c (.fn 37 [])) [(.t 25), (.c (.int .i64 16))]⟩,
  ⟨(some 7), none, .mov (.t 26)⟩])
 (.seq (.seq (.reg [⟨(some 27), none, .mov (.t 2)⟩,
  ⟨(some 28), none, .bin .lss (.t 27) (.c (.int .i64 1))⟩])
 (.cond (.t 28) (.reg [⟨(some 29), none, .mov (.t 7)⟩,
  ⟨(some 30), none, .bin .rem (.t 29) (.c (.int .i64 6))⟩,
  ⟨(some 7), none, .mov (.t 30)⟩])
 .skip))
 (.seq (.reg [⟨(some 31), none, .mov (.t 2)⟩,
  ⟨(some 32), none, .bin .sub (.t 31) (.c (.int .i64 1))⟩,
  ⟨(some 8), none, .mov (.t 32)⟩])
 (.seq (.seq (.reg [⟨(some 33), none, .mov (.t 7)⟩])
 (.block 0 (.seq (.seq (.reg [⟨(some 35), none, .bin .eql (.t 33) (.c (.int .i64 0))⟩,
  ⟨(some 34), none, .mov (.t 35)⟩])
 (.cond (.t 34) .skip
 (.seq (.reg [⟨(some 36), none, .bin .eql (.t 33) (.c (.int .i64 1))⟩,
  ⟨(some 34), none, .mov (.t 36)⟩])
 (.cond (.t 34) .skip
 (.reg [⟨(some 37), none, .bin .eql (.t 33) (.c (.int .i64 2))⟩,
  ⟨(some 34), none, .mov (.t 37)⟩])))))
 (.cond (.t 34) (.seq (.reg [⟨(some 38), none, .mov (.t 0)⟩,
  ⟨(some 39), none, .mov (.t 1)⟩,
  ⟨(some 40), none, .call 0 [] (.c (.fn 39 [])) [(.t 39)]⟩,
  ⟨(some 41), none, .bslice [(.str [])] 1 [(0, (.c (.str [117])))]⟩,
  ⟨(some 42), none, .append 1 (.t 40) (.t 41)⟩,
  ⟨(some 43), none, .call 0 [] (.c (.fn 38 [])) [(.t 38), (.t 42)]⟩,
  ⟨(some 44), none, .build [(.int .i64 0), (.str []), (.int .i64 0), (.int .i64 0), (.str []), (.sl .clip []), (.sl .clip []), (.sl .clip []), (.sl .clip [])] [(0, 1, (.c (.int .i64 1))), (1, 1, (.t 43))]⟩,
  ⟨none, none, .store 9 (.t 6) (.t 44)⟩])
 .ret)
 (.seq (.reg [⟨(some 46), none, .bin .eql (.t 33) (.c (.int .i64 3))⟩,
  ⟨(some 45), none, .mov (.t 46)⟩])
 (.cond (.t 45) (.seq (.reg [⟨(some 47), none, .mov (.t 0)⟩,
  ⟨(some 48), none, .call 0 [] (.c (.fn 37 [])) [(.t 47), (.c (.int .i64 9))]⟩,
  ⟨(some 49), none, .bin .sub (.t 48) (.c (.int .i64 3))⟩,
  ⟨(some 50), none, .build [(.int .i64 0), (.str []), (.int .i64 0), (.int .i64 0), (.str []), (.sl .clip []), (.sl .clip []), (.sl .clip []), (.sl .clip [])] [(0, 1, (.c (.int .i64 3))), (2, 1, (.t 49))]⟩,
  ⟨none, none, .store 9 (.t 6) (.t 50)⟩])
 .ret)
 (.seq (.reg [⟨(some 52), none, .bin .eql (.t 33) (.c (.int .i64 4))⟩,
  ⟨(some 51), none, .mov (.t 52)⟩])
 (.cond (.t 51) (.seq (.reg [⟨(some 53), none, .mov (.t 0)⟩,
  ⟨(some 54), none, .bslice [(.str [])] 5 [(0, (.c (.str [84, 114, 117, 101]))), (1, (.c (.str [78, 105, 108]))), (2, (.c (.str [67, 111, 110, 115]))), (3, (.c (.str [80, 97, 105, 114]))), (4, (.c (.str [122, 122])))]⟩,
  ⟨(some 55), none, .call 0 [] (.c (.fn 38 [])) [(.t 53), (.t 54)]⟩,
  ⟨(some 56), none, .build [(.int .i64 0), (.str []), (.int .i64 0), (.int .i64 0), (.str []), (.sl .clip []), (.sl .clip []), (.sl .clip []), (.sl .clip [])] [(0, 1, (.c (.int .i64 2))), (1, 1, (.t 55))]⟩,
  ⟨none, none, .store 9 (.t 6) (.t 56)⟩])
 .ret)
 (.seq (.reg [⟨(some 58), none, .bin .eql (.t 33) (.c (.int .i64 5))⟩,
  ⟨(some 57), none, .mov (.t 58)⟩])
 (.cond (.t 57) (.seq (.reg [⟨(some 59), none, .mov (.t 0)⟩,
  ⟨(some 60), none, .bslice [(.str [])] 4 [(0, (.c (.str [112, 114, 105, 109, 73, 110, 116, 65, 100, 100]))), (1, (.c (.str [112, 114, 105, 109, 73, 110, 116, 69, 113]))), (2, (.c (.str [112, 114, 105, 109, 73, 110, 116, 83, 104, 111, 119]))), (3, (.c (.str [112, 114, 105, 109])))]⟩,
  ⟨(some 61), none, .call 0 [] (.c (.fn 38 [])) [(.t 59), (.t 60)]⟩,
  ⟨(some 62), none, .build [(.int .i64 0), (.str []), (.int .i64 0), (.int .i64 0), (.str []), (.sl .clip []), (.sl .clip []), (.sl .clip []), (.sl .clip [])] [(0, 1, (.c (.int .i64 11))), (1, 1, (.t 61))]⟩,
  ⟨none, none, .store 9 (.t 6) (.t 62)⟩])
 .ret)
 (.seq (.seq (.reg [⟨(some 64), none, .bin .eql (.t 33) (.c (.int .i64 6))⟩,
  ⟨(some 63), none, .mov (.t 64)⟩])
 (.cond (.t 63) .skip
 (.seq (.reg [⟨(some 65), none, .bin .eql (.t 33) (.c (.int .i64 7))⟩,
  ⟨(some 63), none, .mov (.t 65)⟩])
 (.cond (.t 63) .skip
 (.reg [⟨(some 66), none, .bin .eql (.t 33) (.c (.int .i64 8))⟩,
  ⟨(some 63), none, .mov (.t 66)⟩])))))
 (.cond (.t 63) (.seq (.reg [⟨(some 67), none, .mov (.t 0)⟩,
  ⟨(some 68), none, .mov (.t 1)⟩,
  ⟨(some 69), none, .mov (.t 8)⟩,
  ⟨(some 70), none, .call 0 [] (.c (.fn 11 [])) [(.t 67), (.t 68), (.t 69)]⟩,
  ⟨(some 9), none, .alloc [(.int .i64 0), (.str []), (.int .i64 0), (.int .i64 0), (.str []), (.sl .clip []), (.sl .clip []), (.sl .clip []), (.sl .clip [])] false⟩,
  ⟨none, none, .store 9 (.t 9) (.t 70)⟩])
 (.seq (.reg [⟨(some 71), none, .loadL (some 9) (.t 9)⟩,
  ⟨(some 72), none, .mov (.t 0)⟩,
  ⟨(some 73), none, .mov (.t 1)⟩,
  ⟨(some 74), none, .mov (.t 8)⟩,
  ⟨(some 75), none, .call 0 [] (.c (.fn 11 [])) [(.t 72), (.t 73), (.t 74)]⟩,
  ⟨(some 76), none, .bslice [(.int .i64 0), (.str []), (.int .i64 0), (.int .i64 0), (.str []), (.sl .clip []), (.sl .clip []), (.sl .clip []), (.sl .clip [])] 2 [(0, (.t 71)), (1, (.t 75))]⟩,
  ⟨(some 77), none, .build [(.int .i64 0), (.str []), (.int .i64 0), (.int .i64 0), (.str []), (.sl .clip []), (.sl .clip []), (.sl .clip []), (.sl .clip [])] [(0, 1, (.c (.int .i64 5))), (6, 1, (.t 76))]⟩,
  ⟨none, none, .store 9 (.t 6) (.t 77)⟩])
 .ret))
 (.seq (.seq (.reg [⟨(some 79), none, .bin .eql (.t 33) (.c (.int .i64 9))⟩,
  ⟨(some 78), none, .mov (.t 79)⟩])
 (.cond (.t 78) .skip
 (.reg [⟨(some 80), none, .bin .eql (.t 33) (.c (.int .i64 10))⟩,
  ⟨(some 78), none, .mov (.t 80)⟩])))
 (.cond (.t 78) (.seq (.reg [⟨(some 81), none, .mov (.t 0)⟩,
  ⟨(some 82), none, .bslice [(.str [])] 3 [(0, (.c (.str [120]))), (1, (.c (.str [121]))), (2, (.c (.str [122])))]⟩,
  ⟨(some 83), none, .call 0 [] (.c (.fn 38 [])) [(.t 81), (.t 82)]⟩,
  ⟨(some 10), none, .mov (.t 83)⟩])
 (.seq (.reg [⟨(some 84), none, .mov (.t 0)⟩,
  ⟨(some 85), none, .call 0 [] (.c (.fn 18 [])) [(.t 84), (.c (.int .i64 2))]⟩,
  ⟨(some 11), none, .alloc [(.int .i64 0), (.str []), (.sl .clip [])] false⟩,
  ⟨none, none, .store 3 (.t 11) (.t 85)⟩])
 (.seq (.reg [⟨(some 86), none, .mov (.t 10)⟩,
  ⟨(some 87), none, .loadL (some 3) (.t 11)⟩,
  ⟨(some 88), none, .mov (.t 0)⟩,
  ⟨(some 89), none, .mov (.t 1)⟩,
  ⟨(some 90), none, .call 0 [] (.c (.fn 39 [])) [(.t 89)]⟩,
  ⟨(some 91), none, .mov (.t 10)⟩,
  ⟨(some 92), none, .bslice [(.str [])] 1 [(0, (.t 91))]⟩,
  ⟨(some 93), none, .append 1 (.t 90) (.t 92)⟩,
  ⟨(some 94), none, .mov (.t 8)⟩,
  ⟨(some 95), none, .call 0 [] (.c (.fn 11 [])) [(.t 88), (.t 93), (.t 94)]⟩,
  ⟨(some 96), none, .bslice [(.int .i64 0), (.str []), (.int .i64 0), (.int .i64 0), (.str []), (.sl .clip []), (.sl .clip []), (.sl .clip []), (.sl .clip [])] 1 [(0, (.t 95))]⟩,
  ⟨(some 97), none, .build [(.int .i64 0), (.str []), (.int .i64 0), (.int .i64 0), (.str []), (.sl .clip []), (.sl .clip []), (.sl .clip []), (.sl .clip [])] [(0, 1, (.c (.int .i64 6))), (1, 1, (.t 86)), (3, 3, (.t 87)), (6, 1, (.t 96))]⟩,
  ⟨none, none, .store 9 (.t 6) (.t 97)⟩])
 .ret)))
 (.seq (.reg [⟨(some 99), none, .bin .eql (.t 33) (.c (.int .i64 11))⟩,
  ⟨(some 98), none, .mov (.t 99)⟩])
 (.cond (.t 98) (.seq (.reg [⟨(some 100), none, .mov (.t 0)⟩,
  ⟨(some 101), none, .call 0 [] (.c (.fn 18 [])) [(.t 100), (.c (.int .i64 1))]⟩,
  ⟨(some 12), none, .alloc [(.int .i64 0), (.str []), (.sl .clip [])] false⟩,
  ⟨none, none, .store 3 (.t 12) (.t 101)⟩])
 (.seq (.reg [⟨(some 102), none, .loadL (some 3) (.t 12)⟩,
  ⟨(some 103), none, .mov (.t 0)⟩,
  ⟨(some 104), none, .mov (.t 1)⟩,
  ⟨(some 105), none, .mov (.t 8)⟩,
  ⟨(some 106), none, .call 0 [] (.c (.fn 11 [])) [(.t 103), (.t 104), (.t 105)]⟩,
  ⟨(some 107), none, .bslice [(.int .i64 0), (.str []), (.int .i64 0), (.int .i64 0), (.str []), (.sl .clip []), (.sl .clip []), (.sl .clip []), (.sl .clip [])] 1 [(0, (.t 106))]⟩,
  ⟨(some 108), none, .build [(.int .i64 0), (.str []), (.int .i64 0), (.int .i64 0), (.str []), (.sl .clip []), (.sl .clip []), (.sl .clip []), (.sl .clip [])] [(0, 1, (.c (.int .i64 7))), (3, 3, (.t 102)), (6, 1, (.t 107))]⟩,
  ⟨none, none, .store 9 (.t 6) (.t 108)⟩])
 .ret))
 (.seq (.reg [⟨(some 110), none, .bin .eql (.t 33) (.c (.int .i64 12))⟩,
  ⟨(some 109), none, .mov (.t 110)⟩])
 (.cond (.t 109) (.seq (.reg [⟨(some 111), none, .mov (.t 0)⟩,
  ⟨(some 112), none, .bslice [(.str [])] 3 [(0, (.c (.str [97]))), (1, (.c (.str [98]))), (2, (.c (.str [99])))]⟩,
  ⟨(some 113), none, .call 0 [] (.c (.fn 38 [])) [(.t 111), (.t 112)]⟩,
  ⟨(some 114), none, .mov (.t 0)⟩,
  ⟨(some 115), none, .mov (.t 1)⟩,
  ⟨(some 116), none, .mov (.t 8)⟩,
  ⟨(some 117), none, .call 0 [] (.c (.fn 11 [])) [(.t 114), (.t 115), (.t 116)]⟩,
  ⟨(some 118), none, .bslice [(.int .i64 0), (.str []), (.int .i64 0), (.int .i64 0), (.str []), (.sl .clip []), (.sl .clip []), (.sl .clip []), (.sl .clip [])] 1 [(0, (.t 117))]⟩,
  ⟨(some 119), none, .build [(.int .i64 0), (.str []), (.int .i64 0), (.int .i64 0), (.str []), (.sl .clip []), (.sl .clip []), (.sl .clip []), (.sl .clip [])] [(0, 1, (.c (.int .i64 8))), (1, 1, (.t 113)), (6, 1, (.t 118))]⟩,
  ⟨none, none, .store 9 (.t 6) (.t 119)⟩])
 .ret)
 (.seq (.reg [⟨(some 121), none, .bin .eql (.t 33) (.c (.int .i64 13))⟩,
  ⟨(some 120), none, .mov (.t 121)⟩])
 (.cond (.t 120) (.seq (.reg [⟨(some 122), none, .mov (.t 0)⟩,
  ⟨(some 123), none, .bslice [(.str [])] 3 [(0, (.c (.str [120]))), (1, (.c (.str [121]))), (2, (.c (.str [103])))]⟩,
  ⟨(some 124), none, .call 0 [] (.c (.fn 38 [])) [(.t 122), (.t 123)]⟩,
  ⟨(some 13), none, .mov (.t 124)⟩])
 (.seq (.reg [⟨(some 125), none, .mov (.t 1)⟩,
  ⟨(some 126), none, .call 0 [] (.c (.fn 39 [])) [(.t 125)]⟩,
  ⟨(some 127), none, .mov (.t 13)⟩,
  ⟨(some 128), none, .bslice [(.str [])] 1 [(0, (.t 127))]⟩,
  ⟨(some 129), none, .append 1 (.t 126) (.t 128)⟩,
  ⟨(some 14), none, .mov (.t 129)⟩])
 (.seq (.reg [⟨(some 130), none, .mov (.t 0)⟩,
  ⟨(some 131), none, .call 0 [] (.c (.fn 18 [])) [(.t 130), (.c (.int .i64 2))]⟩,
  ⟨(some 15), none, .alloc [(.int .i64 0), (.str []), (.sl .clip [])] false⟩,
  ⟨none, none, .store 3 (.t 15) (.t 131)⟩])
 (.seq (.reg [⟨(some 132), none, .mov (.t 0)⟩,
  ⟨(some 133), none, .mov (.t 14)⟩,
  ⟨(some 134), none, .mov (.t 8)⟩,
  ⟨(some 135), none, .call 0 [] (.c (.fn 11 [])) [(.t 132), (.t 133), (.t 134)]⟩,
  ⟨(some 16), none, .alloc [(.int .i64 0), (.str []), (.int .i64 0), (.int .i64 0), (.str []), (.sl .clip []), (.sl .clip []), (.sl .clip []), (.sl .clip [])] false⟩,
  ⟨none, none, .store 9 (.t 16) (.t 135)⟩])
 (.seq (.reg [⟨(some 136), none, .mov (.t 13)⟩,
  ⟨(some 137), none, .loadL (some 3) (.t 15)⟩,
  ⟨(some 138), none, .loadL (some 9) (.t 16)⟩,
  ⟨(some 139), none, .build [(.str []), (.int .i64 0), (.str []), (.sl .clip []), (.int .i64 0), (.str []), (.int .i64 0), (.int .i64 0), (.str []), (.sl .clip []), (.sl .clip []), (.sl .clip []), (.sl .clip [])] [(0, 1, (.t 136)), (1, 3, (.t 137)), (4, 9, (.t 138))]⟩,
  ⟨(some 140), none, .bslice [(.str []), (.int .i64 0), (.str []), (.sl .clip []), (.int .i64 0), (.str []), (.int .i64 0), (.int .i64 0), (.str []), (.sl .clip []), (.sl .clip []), (.sl .clip []), (.sl .clip [])] 1 [(0, (.t 139))]⟩,
  ⟨(some 141), none, .mov (.t 0)⟩,
  ⟨(some 142), none, .mov (.t 14)⟩,
  ⟨(some 143), none, .mov (.t 8)⟩,
  ⟨(some 144), none, .call 0 [] (.c (.fn 11 [])) [(.t 141), (.t 142), (.t 143)]⟩,
  ⟨(some 145), none, .bslice [(.int .i64 0), (.str []), (.int .i64 0), (.int .i64 0), (.str []), (.sl .clip []), (.sl .clip []), (.sl .clip []), (.sl .clip [])] 1 [(0, (.t 144))]⟩,
  ⟨(some 146), none, .build [(.int .i64 0), (.str []), (.int .i64 0), (.int .i64 0), (.str []), (.sl .clip []), (.sl .clip []), (.sl .clip []), (.sl .clip [])] [(0, 1, (.c (.int .i64 9))), (8, 1, (.t 140)), (6, 1, (.t 145))]⟩,
  ⟨(some 17), none, .alloc [(.int .i64 0), (.str []), (.int .i64 0), (.int .i64 0), (.str []), (.sl .clip []), (.sl .clip []), (.sl .clip []), (.sl .clip [])] false⟩,
  ⟨none, none, .store 9 (.t 17) (.t 146)⟩])
 (.seq (.seq (.reg [⟨(some 147), none, .mov (.t 0)⟩,
  ⟨(some 148), none, .call 0 [] (.c (.fn 37 [])) [(.t 147), (.c (.int .i64 6))]⟩,
  ⟨(some 149), none, .bin .eql (.t 148) (.c (.int .i64 0))⟩])
 (.cond (.t 149) (.reg [⟨(some 150), none, .faddr 8 (.t 17)⟩,
  ⟨(some 151), none, .load none (.t 150)⟩,
  ⟨(some 152), none, .faddr 8 (.t 17)⟩,
  ⟨(some 153), none, .load none (.t 152)⟩,
  ⟨(some 154), none, .iaddr 13 (.t 153) (.c (.int .i64 0))⟩,
  ⟨(some 155), none, .load (some 13) (.t 154)⟩,
  ⟨(some 156), none, .bslice [(.str []), (.int .i64 0), (.str []), (.sl .clip []), (.int .i64 0), (.str []), (.int .i64 0), (.int .i64 0), (.str []), (.sl .clip []), (.sl .clip []), (.sl .clip []), (.sl .clip [])] 1 [(0, (.t 155))]⟩,
  ⟨(some 157), none, .append 13 (.t 151) (.t 156)⟩,
  ⟨(some 158), none, .faddr 8 (.t 17)⟩,
  ⟨none, none, .store 1 (.t 158) (.t 157)⟩])
 .skip))
 (.seq (.reg [⟨(some 159), none, .load (some 9) (.t 17)⟩,
  ⟨none, none, .store 9 (.t 6) (.t 159)⟩])
 .ret)))))))
 .skip))))))))))))))))))))
 (.seq (.reg [⟨(some 160), none, .mov (.t 0)⟩,
  ⟨(some 161), none, .mov (.t 1)⟩,
  ⟨(some 162), none, .mov (.t 8)⟩,
  ⟨(some 163), none, .call 0 [] (.c (.fn 11 [])) [(.t 160), (.t 161), (.t 162)]⟩,
  ⟨(some 164), none, .bslice [(.int .i64 0), (.str []), (.int .i64 0), (.int .i64 0), (.str []), (.sl .clip []), (.sl .clip []), (.sl .clip []), (.sl .clip [])] 1 [(0, (.t 163))]⟩,
  ⟨(some 165), none, .mov (.t 0)⟩,
  ⟨(some 166), none, .call 0 [] (.c (.fn 18 [])) [(.t 165), (.c (.int .i64 1))]⟩,
  ⟨(some 167), none, .build [(.int .i64 0), (.str []), (.int .i64 0), (.int .i64 0), (.str []), (.sl .clip []), (.sl .clip []), (.sl .clip []), (.sl .clip [])] [(0, 1, (.c (.int .i64 10))), (6, 1, (.t 164)), (3, 3, (.t 166))]⟩,
  ⟨(some 18), none, .alloc [(.int .i64 0), (.str []), (.int .i64 0), (.int .i64 0), (.str []), (.sl .clip []), (.sl .clip []), (.sl .clip []), (.sl .clip [])] false⟩,
  ⟨none, none, .store 9 (.t 18) (.t 167)⟩])
 (.seq (.seq (.reg [⟨(some 168), none, .mov (.t 0)⟩,
  ⟨(some 169), none, .call 0 [] (.c (.fn 37 [])) [(.t 168), (.c (.int .i64 4))]⟩,
  ⟨(some 19), none, .mov (.t 169)⟩])
 (.block 1 (.loop [0, 1, 8, 19] [6, 18] (.seq (.seq (.reg [⟨(some 170), none, .mov (.t 19)⟩,
  ⟨(some 171), none, .bin .gtr (.t 170) (.c (.int .i64 0))⟩])
 (.cond (.t 171) .skip
 (.exit 1)))
 (.seq (.block 2 (.seq (.reg [⟨(some 174), none, .mov (.t 0)⟩,
  ⟨(some 175), none, .bslice [(.str [])] 6 [(0, (.c (.str [84, 114, 117, 101]))), (1, (.c (.str [70, 97, 108, 115, 101]))), (2, (.c (.str [78, 105, 108]))), (3, (.c (.str [67, 111, 110, 115]))), (4, (.c (.str [80, 97, 105, 114]))), (5, (.c (.str [])))]⟩,
  ⟨(some 176), none, .call 0 [] (.c (.fn 38 [])) [(.t 174), (.t 175)]⟩,
  ⟨(some 177), none, .build [(.str []), (.sl .clip []), (.int .i64 0), (.str []), (.int .i64 0), (.int .i64 0), (.str []), (.sl .clip []), (.sl .clip []), (.sl .clip []), (.sl .clip [])] [(0, 1, (.t 176))]⟩,
  ⟨(some 20), none, .alloc [(.str []), (.sl .clip []), (.int .i64 0), (.str []), (.int .i64 0), (.int .i64 0), (.str []), (.sl .clip []), (.sl .clip []), (.sl .clip []), (.sl .clip [])] false⟩,
  ⟨none, none, .store 11 (.t 20) (.t 177)⟩])
 (.seq (.reg [⟨(some 178), none, .mov (.t 1)⟩,
  ⟨(some 179), none, .call 0 [] (.c (.fn 39 [])) [(.t 178)]⟩,
  ⟨(some 21), none, .mov (.t 179)⟩])
 (.seq (.reg [⟨(some 180), none, .bslice [(.int .i64 0)] 6 [(0, (.c (.int .i64 0))), (1, (.c (.int .i64 0))), (2, (.c (.int .i64 0))), (3, (.c (.int .i64 2))), (4, (.c (.int .i64 2))), (5, (.c (.int .i64 1)))]⟩,
  ⟨(some 181), none, .bslice [(.str [])] 6 [(0, (.c (.str [84, 114, 117, 101]))), (1, (.c (.str [70, 97, 108, 115, 101]))), (2, (.c (.str [78, 105, 108]))), (3, (.c (.str [67, 111, 110, 115]))), (4, (.c (.str [80, 97, 105, 114]))), (5, (.c (.str [])))]⟩,
  ⟨(some 182), none, .faddr 0 (.t 20)⟩,
  ⟨(some 183), none, .load none (.t 182)⟩,
  ⟨(some 184), none, .call 0 [] (.c (.fn 40 [])) [(.t 181), (.t 183)]⟩,
  ⟨(some 185), none, .iaddr 1 (.t 180) (.t 184)⟩,
  ⟨(some 186), none, .load none (.t 185)⟩,
  ⟨(some 22), none, .mov (.t 186)⟩])
 (.seq (.seq (.reg [⟨(some 187), none, .mov (.t 0)⟩,
  ⟨(some 188), none, .call 0 [] (.c (.fn 37 [])) [(.t 187), (.c (.int .i64 8))]⟩,
  ⟨(some 189), none, .bin .eql (.t 188) (.c (.int .i64 0))⟩])
 (.cond (.t 189) (.reg [⟨(some 190), none, .mov (.t 0)⟩,
  ⟨(some 191), none, .call 0 [] (.c (.fn 37 [])) [(.t 190), (.c (.int .i64 3))]⟩,
  ⟨(some 22), none, .mov (.t 191)⟩])
 .skip))
 (.seq (.seq (.reg [⟨(some 23), none, .mov (.c (.int .i64 0))⟩])
 (.block 3 (.loop [0, 1, 8, 19, 21, 22, 23] [6, 18, 20] (.seq (.seq (.reg [⟨(some 192), none, .mov (.t 23)⟩,
  ⟨(some 193), none, .mov (.t 22)⟩,
  ⟨(some 194), none, .bin .lss (.t 192) (.t 193)⟩])
 (.cond (.t 194) .skip
 (.exit 3)))
 (.seq (.block 4 (.seq (.reg [⟨(some 197), none, .bslice [(.str [])] 3 [(0, (.c (.str [104]))), (1, (.c (.str [116]))), (2, (.c (.str [95])))]⟩,
  ⟨(some 198), none, .mov (.t 0)⟩,
  ⟨(some 199), none, .call 0 [] (.c (.fn 37 [])) [(.t 198), (.c (.int .i64 5))]⟩,
  ⟨(some 200), none, .bin .rem (.t 199) (.c (.int .i64 3))⟩,
  ⟨(some 201), none, .iaddr 1 (.t 197) (.t 200)⟩,
  ⟨(some 202), none, .load none (.t 201)⟩,
  ⟨(some 24), none, .mov (.t 202)⟩])
 (.seq (.reg [⟨(some 203), none, .faddr 1 (.t 20)⟩,
  ⟨(some 204), none, .load none (.t 203)⟩,
  ⟨(some 205), none, .mov (.t 24)⟩,
  ⟨(some 206), none, .bslice [(.str [])] 1 [(0, (.t 205))]⟩,
  ⟨(some 207), none, .append 1 (.t 204) (.t 206)⟩,
  ⟨(some 208), none, .faddr 1 (.t 20)⟩,
  ⟨none, none, .store 1 (.t 208) (.t 207)⟩])
 (.reg [⟨(some 209), none, .mov (.t 21)⟩,
  ⟨(some 210), none, .mov (.t 24)⟩,
  ⟨(some 211), none, .bslice [(.str [])] 1 [(0, (.t 210))]⟩,
  ⟨(some 212), none, .append 1 (.t 209) (.t 211)⟩,
  ⟨(some 21), none, .mov (.t 212)⟩]))))
 (.reg [⟨(some 195), none, .mov (.t 23)⟩,
  ⟨(some 196), none, .bin .add (.t 195) (.c (.int .i64 1))⟩,
  ⟨(some 23), none, .mov (.t 196)⟩]))))))
 (.seq (.reg [⟨(some 213), none, .mov (.t 0)⟩,
  ⟨(some 214), none, .mov (.t 21)⟩,
  ⟨(some 215), none, .mov (.t 8)⟩,
  ⟨(some 216), none, .call 0 [] (.c (.fn 11 [])) [(.t 213), (.t 214), (.t 215)]⟩,
  ⟨(some 217), none, .faddr 2 (.t 20)⟩,
  ⟨none, none, .store 9 (.t 217) (.t 216)⟩])
 (.reg [⟨(some 218), none, .faddr 7 (.t 18)⟩,
  ⟨(some 219), none, .load none (.t 218)⟩,
  ⟨(some 220), none, .load (some 11) (.t 20)⟩,
  ⟨(some 221), none, .bslice [(.str []), (.sl .clip []), (.int .i64 0), (.str []), (.int .i64 0), (.int .i64 0), (.str []), (.sl .clip []), (.sl .clip []), (.sl .clip []), (.sl .clip [])] 1 [(0, (.t 220))]⟩,
  ⟨(some 222), none, .append 11 (.t 219) (.t 221)⟩,
  ⟨(some 223), none, .faddr 7 (.t 18)⟩,
  ⟨none, none, .store 1 (.t 223) (.t 222)⟩]))))))))
 (.reg [⟨(some 172), none, .mov (.t 19)⟩,
  ⟨(some 173), none, .bin .sub (.t 172) (.c (.int .i64 1))⟩,
  ⟨(some 19), none, .mov (.t 173)⟩]))))))
 (.seq (.reg [⟨(some 224), none, .load (some 9) (.t 18)⟩,
  ⟨none, none, .store 9 (.t 6) (.t 224)⟩])
 .ret)))))))),
  [.cell 6 (some 9)], false, true, 225⟩
theorem co11 : compF Try.prog ⟨[], [(42, [0, 1, 8, 19], [6, 18]), (50, [0, 1, 8, 19, 21, 22, 23], [6, 18, 20])], []⟩ false true Try.f11 = some ac11 := by kernel_rfl

/-- paideia/term.Free -/
def ac12 : AF := ⟨(.seq (.reg [⟨(some 1), none, .box (.t 0) 9 false⟩,
  ⟨(some 2), none, .mov (.c (.sl .clip []))⟩])
 (.seq (.reg [⟨(some 4), none, .mkmap⟩,
  ⟨(some 5), none, .mkmap⟩,
  ⟨(some 6), none, .build [(.map none), (.map none), (.sl .clip [])] [(0, 1, (.t 4)), (1, 1, (.t 5))]⟩,
  ⟨(some 7), none, .box (.t 6) 3 true⟩,
  ⟨(some 3), none, .mov (.t 7)⟩])
 (.seq (.reg [⟨(some 8), none, .mov (.t 3)⟩,
  ⟨(some 9), none, .load (some 9) (.t 1)⟩,
  ⟨(some 10), none, .call 0 [] (.c (.fn 41 [])) [(.t 8), (.t 9)]⟩])
 (.seq (.reg [⟨(some 11), none, .mov (.t 3)⟩,
  ⟨(some 12), none, .nilck (.t 11)⟩,
  ⟨(some 13), none, .faddr 2 (.t 12)⟩,
  ⟨(some 14), none, .load none (.t 13)⟩,
  ⟨(some 2), none, .mov (.t 14)⟩])
 .ret)))),
  [.t 2], false, true, 15⟩
theorem co12 : compF Try.prog ⟨[7], [], []⟩ false true Try.f12 = some ac12 := by kernel_rfl

/-- paideia/term.Var -/
def ac13 : AF := ⟨(.seq (.reg [⟨(some 2), none, .alloc [(.int .i64 0), (.str []), (.int .i64 0), (.int .i64 0), (.str []), (.sl .clip []), (.sl .clip []), (.sl .clip []), (.sl .clip [])] false⟩])
 (.seq (.reg [⟨(some 3), none, .mov (.t 0)⟩,
  ⟨(some 4), none, .build [(.int .i64 0), (.str []), (.int .i64 0), (.int .i64 0), (.str []), (.sl .clip []), (.sl .clip []), (.sl .clip []), (.sl .clip [])] [(0, 1, (.c (.int .i64 1))), (1, 1, (.t 3))]⟩,
  ⟨none, none, .store 9 (.t 2) (.t 4)⟩])
 .ret)),
  [.cell 2 (some 9)], false, true, 5⟩
theorem co13 : compF Try.prog ⟨[], [], []⟩ false true Try.f13 = some ac13 := by kernel_rfl

/-- paideia/paideiaref.Has -/
def ac14 : AF := ⟨(.seq (.reg [⟨(some 4), none, .mov (.c (.bool false))⟩])
 (.seq (.reg [⟨(some 5), none, .mov (.t 0)⟩,
  ⟨(some 6), none, .mov (.t 1)⟩,
  ⟨(some 7), none, .call 0 [] (.c (.fn 40 [])) [(.t 5), (.t 6)]⟩,
  ⟨(some 8), none, .bin .geq (.t 7) (.c (.int .i64 0))⟩,
  ⟨(some 4), none, .mov (.t 8)⟩])
 .ret)),
  [.t 4], false, true, 9⟩
theorem co14 : compF Try.prog ⟨[], [], []⟩ false true Try.f14 = some ac14 := by kernel_rfl

/-- paideia/paideiaref.SameTexts -/
def ac15 : AF := ⟨(.seq (.reg [⟨(some 4), none, .mov (.c (.bool false))⟩])
 (.seq (.seq (.reg [⟨(some 7), none, .mov (.t 0)⟩,
  ⟨(some 8), none, .len 1 (.t 7)⟩,
  ⟨(some 9), none, .mov (.t 1)⟩,
  ⟨(some 10), none, .len 1 (.t 9)⟩,
  ⟨(some 11), none, .bin .neq (.t 8) (.t 10)⟩])
 (.cond (.t 11) (.seq (.reg [⟨(some 4), none, .mov (.c (.bool false))⟩])
 .ret)
 .skip))
 (.seq (.seq (.reg [⟨(some 5), none, .mov (.c (.int .i64 0))⟩])
 (.block 0 (.loop [0, 1, 5] [] (.seq (.seq (.reg [⟨(some 12), none, .mov (.t 5)⟩,
  ⟨(some 13), none, .mov (.t 0)⟩,
  ⟨(some 14), none, .len 1 (.t 13)⟩,
  ⟨(some 15), none, .bin .lss (.t 12) (.t 14)⟩])
 (.cond (.t 15) .skip
 (.exit 0)))
 (.seq (.block 1 (.seq (.reg [⟨(some 18), none, .mov (.t 0)⟩,
  ⟨(some 19), none, .mov (.t 5)⟩,
  ⟨(some 20), none, .iaddr 1 (.t 18) (.t 19)⟩,
  ⟨(some 21), none, .load none (.t 20)⟩,
  ⟨(some 22), none, .mov (.t 1)⟩,
  ⟨(some 23), none, .mov (.t 5)⟩,
  ⟨(some 24), none, .iaddr 1 (.t 22) (.t 23)⟩,
  ⟨(some 25), none, .load none (.t 24)⟩,
  ⟨(some 26), none, .bin .eql (.t 21) (.t 25)⟩,
  ⟨(some 6), none, .mov (.t 26)⟩])
 (.seq (.reg [⟨(some 27), none, .mov (.t 6)⟩,
  ⟨(some 28), none, .not (.t 27)⟩])
 (.cond (.t 28) (.seq (.reg [⟨(some 4), none, .mov (.c (.bool false))⟩])
 .ret)
 .skip))))
 (.reg [⟨(some 16), none, .mov (.t 5)⟩,
  ⟨(some 17), none, .bin .add (.t 16) (.c (.int .i64 1))⟩,
  ⟨(some 5), none, .mov (.t 17)⟩]))))))
 (.seq (.reg [⟨(some 4), none, .mov (.c (.bool true))⟩])
 .ret)))),
  [.t 4], false, true, 29⟩
theorem co15 : compF Try.prog ⟨[], [(4, [0, 1, 5], [])], []⟩ false true Try.f15 = some ac15 := by kernel_rfl

/-- paideia/term.Size -/
def ac16 : AF := ⟨(.seq (.reg [⟨(some 1), none, .box (.t 0) 9 false⟩,
  ⟨(some 2), none, .mov (.c (.int .i64 0))⟩])
 (.seq (.reg [⟨(some 3), none, .mov (.c (.int .i64 1))⟩])
 (.seq (.seq (.reg [⟨(some 10), none, .faddr 6 (.t 1)⟩,
  ⟨(some 11), none, .load none (.t 10)⟩,
  ⟨(some 12), none, .len 1 (.t 11)⟩,
  ⟨(some 13), none, .mov (.c (.int .i64 0))⟩])
 (.block 0 (.loop [3, 11, 12, 13] [1] (.seq (.reg [⟨(some 14), none, .bin .lss (.t 13) (.t 12)⟩])
 (.seq (.cond (.t 14) .skip
 (.exit 0))
 (.seq (.block 1 (.seq (.reg [⟨(some 15), none, .iaddr 9 (.t 11) (.t 13)⟩,
  ⟨(some 16), none, .load (some 9) (.t 15)⟩,
  ⟨(some 5), none, .alloc [(.int .i64 0), (.str []), (.int .i64 0), (.int .i64 0), (.str []), (.sl .clip []), (.sl .clip []), (.sl .clip []), (.sl .clip [])] false⟩,
  ⟨none, none, .store 9 (.t 5) (.t 16)⟩])
 (.reg [⟨(some 17), none, .mov (.t 3)⟩,
  ⟨(some 18), none, .load (some 9) (.t 5)⟩,
  ⟨(some 19), none, .call 0 [] (.c (.fn 16 [])) [(.t 18)]⟩,
  ⟨(some 20), none, .bin .add (.t 17) (.t 19)⟩,
  ⟨(some 3), none, .mov (.t 20)⟩])))
 (.reg [⟨(some 21), none, .bin .add (.t 13) (.c (.int .i64 1))⟩,
  ⟨(some 13), none, .mov (.t 21)⟩])))))))
 (.seq (.seq (.reg [⟨(some 22), none, .faddr 7 (.t 1)⟩,
  ⟨(some 23), none, .load none (.t 22)⟩,
  ⟨(some 24), none, .len 1 (.t 23)⟩,
  ⟨(some 25), none, .mov (.c (.int .i64 0))⟩])
 (.block 2 (.loop [3, 23, 24, 25] [1] (.seq (.reg [⟨(some 26), none, .bin .lss (.t 25) (.t 24)⟩])
 (.seq (.cond (.t 26) .skip
 (.exit 2))
 (.seq (.block 3 (.seq (.reg [⟨(some 27), none, .iaddr 11 (.t 23) (.t 25)⟩,
  ⟨(some 28), none, .load (some 11) (.t 27)⟩,
  ⟨(some 7), none, .alloc [(.str []), (.sl .clip []), (.int .i64 0), (.str []), (.int .i64 0), (.int .i64 0), (.str []), (.sl .clip []), (.sl .clip []), (.sl .clip []), (.sl .clip [])] false⟩,
  ⟨none, none, .store 11 (.t 7) (.t 28)⟩])
 (.reg [⟨(some 29), none, .mov (.t 3)⟩,
  ⟨(some 30), none, .faddr 2 (.t 7)⟩,
  ⟨(some 31), none, .load (some 9) (.t 30)⟩,
  ⟨(some 32), none, .call 0 [] (.c (.fn 16 [])) [(.t 31)]⟩,
  ⟨(some 33), none, .bin .add (.t 29) (.t 32)⟩,
  ⟨(some 3), none, .mov (.t 33)⟩])))
 (.reg [⟨(some 34), none, .bin .add (.t 25) (.c (.int .i64 1))⟩,
  ⟨(some 25), none, .mov (.t 34)⟩])))))))
 (.seq (.seq (.reg [⟨(some 35), none, .faddr 8 (.t 1)⟩,
  ⟨(some 36), none, .load none (.t 35)⟩,
  ⟨(some 37), none, .len 1 (.t 36)⟩,
  ⟨(some 38), none, .mov (.c (.int .i64 0))⟩])
 (.block 4 (.loop [3, 36, 37, 38] [] (.seq (.reg [⟨(some 39), none, .bin .lss (.t 38) (.t 37)⟩])
 (.seq (.cond (.t 39) .skip
 (.exit 4))
 (.seq (.block 5 (.seq (.reg [⟨(some 40), none, .iaddr 13 (.t 36) (.t 38)⟩,
  ⟨(some 41), none, .load (some 13) (.t 40)⟩,
  ⟨(some 9), none, .alloc [(.str []), (.int .i64 0), (.str []), (.sl .clip []), (.int .i64 0), (.str []), (.int .i64 0), (.int .i64 0), (.str []), (.sl .clip []), (.sl .clip []), (.sl .clip []), (.sl .clip [])] false⟩,
  ⟨none, none, .store 13 (.t 9) (.t 41)⟩])
 (.reg [⟨(some 42), none, .mov (.t 3)⟩,
  ⟨(some 43), none, .faddr 4 (.t 9)⟩,
  ⟨(some 44), none, .load (some 9) (.t 43)⟩,
  ⟨(some 45), none, .call 0 [] (.c (.fn 16 [])) [(.t 44)]⟩,
  ⟨(some 46), none, .bin .add (.t 42) (.t 45)⟩,
  ⟨(some 3), none, .mov (.t 46)⟩])))
 (.reg [⟨(some 47), none, .bin .add (.t 38) (.c (.int .i64 1))⟩,
  ⟨(some 38), none, .mov (.t 47)⟩])))))))
 (.seq (.reg [⟨(some 48), none, .mov (.t 3)⟩,
  ⟨(some 2), none, .mov (.t 48)⟩])
 .ret)))))),
  [.t 2], false, true, 49⟩
theorem co16 : compF Try.prog ⟨[], [(3, [3, 11, 12, 13], [1]), (8, [3, 23, 24, 25], [1]), (13, [3, 36, 37, 38], [])], []⟩ false true Try.f16 = some ac16 := by kernel_rfl

/-- paideia/paideiamake.Type -/
def ac18 : AF := ⟨(.seq (.reg [⟨(some 4), none, .alloc [(.int .i64 0), (.str []), (.sl .clip [])] false⟩])
 (.seq (.reg [⟨(some 8), none, .mov (.t 0)⟩,
  ⟨(some 9), none, .call 0 [] (.c (.fn 37 [])) [(.t 8), (.c (.int .i64 9))]⟩,
  ⟨(some 5), none, .mov (.t 9)⟩])
 (.seq (.seq (.reg [⟨(some 10), none, .mov (.t 1)⟩,
  ⟨(some 11), none, .bin .lss (.t 10) (.c (.int .i64 1))⟩])
 (.cond (.t 11) (.reg [⟨(some 12), none, .mov (.t 5)⟩,
  ⟨(some 13), none, .bin .rem (.t 12) (.c (.int .i64 5))⟩,
  ⟨(some 5), none, .mov (.t 13)⟩])
 .skip))
 (.seq (.seq (.reg [⟨(some 14), none, .mov (.t 5)⟩])
 (.block 0 (.seq (.seq (.reg [⟨(some 16), none, .bin .eql (.t 14) (.c (.int .i64 0))⟩,
  ⟨(some 15), none, .mov (.t 16)⟩])
 (.cond (.t 15) .skip
 (.seq (.reg [⟨(some 17), none, .bin .eql (.t 14) (.c (.int .i64 1))⟩,
  ⟨(some 15), none, .mov (.t 17)⟩])
 (.cond (.t 15) .skip
 (.reg [⟨(some 18), none, .bin .eql (.t 14) (.c (.int .i64 2))⟩,
  ⟨(some 15), none, .mov (.t 18)⟩])))))
 (.cond (.t 15) (.seq (.reg [⟨(some 19), none, .bslice [(.str [])] 3 [(0, (.c (.str [97]))), (1, (.c (.str [98]))), (2, (.c (.str [99])))]⟩,
  ⟨(some 20), none, .mov (.t 5)⟩,
  ⟨(some 21), none, .iaddr 1 (.t 19) (.t 20)⟩,
  ⟨(some 22), none, .load none (.t 21)⟩,
  ⟨(some 23), none, .call 0 [] (.c (.fn 45 [])) [(.t 22)]⟩,
  ⟨none, none, .store 3 (.t 4) (.t 23)⟩])
 .ret)
 (.seq (.reg [⟨(some 25), none, .bin .eql (.t 14) (.c (.int .i64 3))⟩,
  ⟨(some 24), none, .mov (.t 25)⟩])
 (.cond (.t 24) (.seq (.reg [⟨(some 26), none, .call 0 [] (.c (.fn 46 [])) [(.c (.str [73, 110, 116])), (.c (.sl .clip []))]⟩,
  ⟨none, none, .store 3 (.t 4) (.t 26)⟩])
 .ret)
 (.seq (.reg [⟨(some 28), none, .bin .eql (.t 14) (.c (.int .i64 4))⟩,
  ⟨(some 27), none, .mov (.t 28)⟩])
 (.cond (.t 27) (.seq (.reg [⟨(some 29), none, .call 0 [] (.c (.fn 46 [])) [(.c (.str [66, 111, 111, 108])), (.c (.sl .clip []))]⟩,
  ⟨none, none, .store 3 (.t 4) (.t 29)⟩])
 .ret)
 (.seq (.reg [⟨(some 31), none, .bin .eql (.t 14) (.c (.int .i64 5))⟩,
  ⟨(some 30), none, .mov (.t 31)⟩])
 (.cond (.t 30) (.seq (.reg [⟨(some 32), none, .mov (.t 0)⟩,
  ⟨(some 33), none, .mov (.t 1)⟩,
  ⟨(some 34), none, .bin .sub (.t 33) (.c (.int .i64 1))⟩,
  ⟨(some 35), none, .call 0 [] (.c (.fn 18 [])) [(.t 32), (.t 34)]⟩,
  ⟨(some 36), none, .bslice [(.int .i64 0), (.str []), (.sl .clip [])] 1 [(0, (.t 35))]⟩,
  ⟨(some 37), none, .call 0 [] (.c (.fn 46 [])) [(.c (.str [76, 105, 115, 116])), (.t 36)]⟩,
  ⟨none, none, .store 3 (.t 4) (.t 37)⟩])
 .ret)
 (.seq (.reg [⟨(some 39), none, .bin .eql (.t 14) (.c (.int .i64 6))⟩,
  ⟨(some 38), none, .mov (.t 39)⟩])
 (.cond (.t 38) (.seq (.reg [⟨(some 40), none, .mov (.t 0)⟩,
  ⟨(some 41), none, .mov (.t 1)⟩,
  ⟨(some 42), none, .bin .sub (.t 41) (.c (.int .i64 1))⟩,
  ⟨(some 43), none, .call 0 [] (.c (.fn 18 [])) [(.t 40), (.t 42)]⟩,
  ⟨(some 6), none, .alloc [(.int .i64 0), (.str []), (.sl .clip [])] false⟩,
  ⟨none, none, .store 3 (.t 6) (.t 43)⟩])
 (.seq (.reg [⟨(some 44), none, .loadL (some 3) (.t 6)⟩,
  ⟨(some 45), none, .mov (.t 0)⟩,
  ⟨(some 46), none, .mov (.t 1)⟩,
  ⟨(some 47), none, .bin .sub (.t 46) (.c (.int .i64 1))⟩,
  ⟨(some 48), none, .call 0 [] (.c (.fn 18 [])) [(.t 45), (.t 47)]⟩,
  ⟨(some 49), none, .bslice [(.int .i64 0), (.str []), (.sl .clip [])] 2 [(0, (.t 44)), (1, (.t 48))]⟩,
  ⟨(some 50), none, .call 0 [] (.c (.fn 46 [])) [(.c (.str [80, 97, 105, 114])), (.t 49)]⟩,
  ⟨none, none, .store 3 (.t 4) (.t 50)⟩])
 .ret))
 .skip))))))))))))
 (.seq (.reg [⟨(some 51), none, .mov (.t 0)⟩,
  ⟨(some 52), none, .mov (.t 1)⟩,
  ⟨(some 53), none, .bin .sub (.t 52) (.c (.int .i64 1))⟩,
  ⟨(some 54), none, .call 0 [] (.c (.fn 18 [])) [(.t 51), (.t 53)]⟩,
  ⟨(some 7), none, .alloc [(.int .i64 0), (.str []), (.sl .clip [])] false⟩,
  ⟨none, none, .store 3 (.t 7) (.t 54)⟩])
 (.seq (.reg [⟨(some 55), none, .loadL (some 3) (.t 7)⟩,
  ⟨(some 56), none, .mov (.t 0)⟩,
  ⟨(some 57), none, .mov (.t 1)⟩,
  ⟨(some 58), none, .bin .sub (.t 57) (.c (.int .i64 1))⟩,
  ⟨(some 59), none, .call 0 [] (.c (.fn 18 [])) [(.t 56), (.t 58)]⟩,
  ⟨(some 60), none, .call 0 [] (.c (.fn 47 [])) [(.t 55), (.t 59)]⟩,
  ⟨none, none, .store 3 (.t 4) (.t 60)⟩])
 .ret)))))),
  [.cell 4 (some 3)], false, true, 61⟩
theorem co18 : compF Try.prog ⟨[], [], []⟩ false true Try.f18 = some ac18 := by kernel_rfl

/-- paideia/types.Compare -/
def ac19 : AF := ⟨(.seq (.reg [⟨(some 2), none, .box (.t 0) 3 false⟩,
  ⟨(some 3), none, .box (.t 1) 3 false⟩,
  ⟨(some 4), none, .mov (.c (.int .i64 0))⟩])
 (.seq (.reg [⟨(some 5), none, .faddr 0 (.t 2)⟩,
  ⟨(some 6), none, .load none (.t 5)⟩,
  ⟨(some 7), none, .faddr 0 (.t 3)⟩,
  ⟨(some 8), none, .load none (.t 7)⟩,
  ⟨(some 9), none, .call 0 [] (.c (.fn 49 [])) [(.t 6), (.t 8)]⟩,
  ⟨(some 10), none, .faddr 1 (.t 2)⟩,
  ⟨(some 11), none, .loadL none (.t 10)⟩,
  ⟨(some 12), none, .faddr 1 (.t 3)⟩,
  ⟨(some 13), none, .loadL none (.t 12)⟩,
  ⟨(some 14), none, .call 0 [] (.c (.fn 50 [])) [(.t 11), (.t 13)]⟩,
  ⟨(some 15), none, .faddr 2 (.t 2)⟩,
  ⟨(some 16), none, .loadL none (.t 15)⟩,
  ⟨(some 17), none, .len 1 (.t 16)⟩,
  ⟨(some 18), none, .faddr 2 (.t 3)⟩,
  ⟨(some 19), none, .loadL none (.t 18)⟩,
  ⟨(some 20), none, .len 1 (.t 19)⟩,
  ⟨(some 21), none, .call 0 [] (.c (.fn 49 [])) [(.t 17), (.t 20)]⟩,
  ⟨(some 22), none, .faddr 2 (.t 2)⟩,
  ⟨(some 23), none, .loadL none (.t 22)⟩,
  ⟨(some 24), none, .faddr 2 (.t 3)⟩,
  ⟨(some 25), none, .loadL none (.t 24)⟩,
  ⟨(some 26), none, .call 0 [] (.c (.fn 51 [])) [(.t 23), (.t 25), (.c (.fn 19 []))]⟩,
  ⟨(some 27), none, .bslice [(.int .i64 0)] 4 [(0, (.t 9)), (1, (.t 14)), (2, (.t 21)), (3, (.t 26))]⟩,
  ⟨(some 28), none, .call 0 [] (.c (.fn 48 [])) [(.t 27)]⟩,
  ⟨(some 4), none, .mov (.t 28)⟩])
 .ret)),
  [.t 4], false, true, 29⟩
theorem co19 : compF Try.prog ⟨[], [], []⟩ false true Try.f19 = some ac19 := by kernel_rfl

/-- paideia/types.Same -/
def ac20 : AF := ⟨(.seq (.reg [⟨(some 2), none, .box (.t 0) 3 false⟩,
  ⟨(some 3), none, .box (.t 1) 3 false⟩,
  ⟨(some 4), none, .mov (.c (.bool false))⟩])
 (.seq (.reg [⟨(some 5), none, .load (some 3) (.t 2)⟩,
  ⟨(some 6), none, .load (some 3) (.t 3)⟩,
  ⟨(some 7), none, .call 0 [] (.c (.fn 19 [])) [(.t 5), (.t 6)]⟩,
  ⟨(some 8), none, .bin .eql (.t 7) (.c (.int .i64 0))⟩,
  ⟨(some 4), none, .mov (.t 8)⟩])
 .ret)),
  [.t 4], false, true, 9⟩
theorem co20 : compF Try.prog ⟨[], [], []⟩ false true Try.f20 = some ac20 := by kernel_rfl

/-- paideia/paideialaw2.first -/
def ac21 : AF := ⟨(.seq (.reg [⟨(some 0), none, .mov (.c (.bool false))⟩])
 (.seq (.reg [⟨(some 2), none, .build [(.int .i64 0), (.str []), (.sl .clip [])] [(0, 1, (.c (.int .i64 1))), (1, 1, (.c (.str [97])))]⟩,
  ⟨(some 1), none, .alloc [(.int .i64 0), (.str []), (.sl .clip [])] false⟩,
  ⟨none, none, .store 3 (.t 1) (.t 2)⟩])
 (.seq (.reg [⟨(some 3), none, .load (some 3) (.t 1)⟩,
  ⟨(some 4), none, .load (some 3) (.t 1)⟩,
  ⟨(some 5), none, .bslice [(.int .i64 0), (.str []), (.sl .clip [])] 2 [(0, (.t 3)), (1, (.t 4))]⟩,
  ⟨(some 6), none, .build [(.int .i64 0), (.str []), (.sl .clip [])] [(0, 1, (.c (.int .i64 3))), (2, 1, (.t 5))]⟩,
  ⟨(some 7), none, .call 0 [] (.c (.fn 23 [])) [(.t 6)]⟩,
  ⟨(some 8), none, .bin .eql (.t 7) (.c (.str [97, 32, 45, 62, 32, 97]))⟩,
  ⟨(some 0), none, .mov (.t 8)⟩])
 .ret))),
  [.t 0], false, true, 9⟩
theorem co21 : compF Try.prog ⟨[], [], []⟩ false true Try.f21 = some ac21 := by kernel_rfl

/-- paideia/paideiamake.Scheme -/
def ac22 : AF := ⟨(.seq (.reg [⟨(some 2), none, .alloc [(.sl .clip []), (.sl .clip []), (.int .i64 0), (.str []), (.sl .clip [])] false⟩])
 (.seq (.reg [⟨(some 7), none, .mov (.t 0)⟩,
  ⟨(some 8), none, .call 0 [] (.c (.fn 18 [])) [(.t 7), (.c (.int .i64 3))]⟩,
  ⟨(some 9), none, .build [(.sl .clip []), (.sl .clip []), (.int .i64 0), (.str []), (.sl .clip [])] [(2, 3, (.t 8))]⟩,
  ⟨(some 3), none, .alloc [(.sl .clip []), (.sl .clip []), (.int .i64 0), (.str []), (.sl .clip [])] false⟩,
  ⟨none, none, .store 5 (.t 3) (.t 9)⟩])
 (.seq (.reg [⟨(some 10), none, .mov (.t 0)⟩,
  ⟨(some 11), none, .call 0 [] (.c (.fn 52 [])) [(.t 10), (.c (.int .i64 3)), (.c (.int .i64 0))]⟩,
  ⟨(some 4), none, .mov (.t 11)⟩])
 (.seq (.reg [⟨(some 12), none, .mov (.t 4)⟩,
  ⟨(some 13), none, .faddr 1 (.t 3)⟩,
  ⟨none, none, .store 1 (.t 13) (.t 12)⟩])
 (.seq (.reg [⟨(some 14), none, .bslice [(.str [])] 4 [(0, (.c (.str [97]))), (1, (.c (.str [98]))), (2, (.c (.str [99]))), (3, (.c (.str [100])))]⟩,
  ⟨(some 5), none, .mov (.t 14)⟩])
 (.seq (.seq (.reg [⟨(some 6), none, .mov (.c (.int .i64 0))⟩])
 (.block 0 (.loop [0, 5, 6] [2, 3] (.seq (.seq (.reg [⟨(some 15), none, .mov (.t 6)⟩,
  ⟨(some 16), none, .bin .lss (.t 15) (.c (.int .i64 4))⟩])
 (.cond (.t 16) .skip
 (.exit 0)))
 (.seq (.block 1 (.seq (.reg [⟨(some 19), none, .mov (.t 0)⟩,
  ⟨(some 20), none, .call 0 [] (.c (.fn 37 [])) [(.t 19), (.c (.int .i64 3))]⟩,
  ⟨(some 21), none, .bin .gtr (.t 20) (.c (.int .i64 0))⟩])
 (.cond (.t 21) (.reg [⟨(some 22), none, .faddr 0 (.t 3)⟩,
  ⟨(some 23), none, .load none (.t 22)⟩,
  ⟨(some 24), none, .mov (.t 5)⟩,
  ⟨(some 25), none, .mov (.t 6)⟩,
  ⟨(some 26), none, .iaddr 1 (.t 24) (.t 25)⟩,
  ⟨(some 27), none, .load none (.t 26)⟩,
  ⟨(some 28), none, .bslice [(.str [])] 1 [(0, (.t 27))]⟩,
  ⟨(some 29), none, .append 1 (.t 23) (.t 28)⟩,
  ⟨(some 30), none, .faddr 0 (.t 3)⟩,
  ⟨none, none, .store 1 (.t 30) (.t 29)⟩])
 .skip)))
 (.reg [⟨(some 17), none, .mov (.t 6)⟩,
  ⟨(some 18), none, .bin .add (.t 17) (.c (.int .i64 1))⟩,
  ⟨(some 6), none, .mov (.t 18)⟩]))))))
 (.seq (.reg [⟨(some 31), none, .load (some 5) (.t 3)⟩,
  ⟨none, none, .store 5 (.t 2) (.t 31)⟩])
 .ret))))))),
  [.cell 2 (some 5)], false, true, 32⟩
theorem co22 : compF Try.prog ⟨[], [(6, [0, 5, 6], [2, 3])], []⟩ false true Try.f22 = some ac22 := by kernel_rfl

/-- paideia/printer.Type -/
def ac23 : AF := ⟨(.seq (.reg [⟨(some 1), none, .box (.t 0) 3 false⟩,
  ⟨(some 2), none, .mov (.c (.str []))⟩])
 (.seq (.seq (.reg [⟨(some 6), none, .faddr 0 (.t 1)⟩,
  ⟨(some 7), none, .load none (.t 6)⟩])
 (.block 0 (.seq (.reg [⟨(some 9), none, .bin .eql (.t 7) (.c (.int .i64 3))⟩,
  ⟨(some 8), none, .mov (.t 9)⟩])
 (.cond (.t 8) (.seq (.reg [⟨(some 10), none, .load (some 3) (.t 1)⟩,
  ⟨(some 11), none, .call 0 [] (.c (.fn 54 [])) [(.t 10), (.c (.int .i64 0))]⟩,
  ⟨(some 12), none, .call 0 [] (.c (.fn 53 [])) [(.t 11)]⟩,
  ⟨(some 13), none, .bin .add (.t 12) (.c (.str [32, 45, 62, 32]))⟩,
  ⟨(some 14), none, .loadL (some 3) (.t 1)⟩,
  ⟨(some 15), none, .call 0 [] (.c (.fn 54 [])) [(.t 14), (.c (.int .i64 1))]⟩,
  ⟨(some 16), none, .call 0 [] (.c (.fn 23 [])) [(.t 15)]⟩,
  ⟨(some 17), none, .bin .add (.t 13) (.t 16)⟩,
  ⟨(some 2), none, .mov (.t 17)⟩])
 .ret)
 (.seq (.reg [⟨(some 19), none, .bin .eql (.t 7) (.c (.int .i64 4))⟩,
  ⟨(some 18), none, .mov (.t 19)⟩])
 (.cond (.t 18) (.seq (.reg [⟨(some 20), none, .faddr 1 (.t 1)⟩,
  ⟨(some 21), none, .loadL none (.t 20)⟩,
  ⟨(some 22), none, .bin .add (.c (.str [102, 111, 114, 97, 108, 108, 32])) (.t 21)⟩,
  ⟨(some 23), none, .bin .add (.t 22) (.c (.str [46, 32]))⟩,
  ⟨(some 24), none, .load (some 3) (.t 1)⟩,
  ⟨(some 25), none, .call 0 [] (.c (.fn 54 [])) [(.t 24), (.c (.int .i64 0))]⟩,
  ⟨(some 26), none, .call 0 [] (.c (.fn 23 [])) [(.t 25)]⟩,
  ⟨(some 27), none, .bin .add (.t 23) (.t 26)⟩,
  ⟨(some 2), none, .mov (.t 27)⟩])
 .ret)
 .skip))))))
 (.seq (.reg [⟨(some 28), none, .faddr 1 (.t 1)⟩,
  ⟨(some 29), none, .load none (.t 28)⟩,
  ⟨(some 3), none, .mov (.t 29)⟩])
 (.seq (.seq (.reg [⟨(some 30), none, .faddr 2 (.t 1)⟩,
  ⟨(some 31), none, .load none (.t 30)⟩,
  ⟨(some 32), none, .len 1 (.t 31)⟩,
  ⟨(some 33), none, .mov (.c (.int .i64 0))⟩])
 (.block 1 (.loop [3, 31, 32, 33] [] (.seq (.reg [⟨(some 34), none, .bin .lss (.t 33) (.t 32)⟩])
 (.seq (.cond (.t 34) .skip
 (.exit 1))
 (.seq (.block 2 (.seq (.reg [⟨(some 35), none, .iaddr 3 (.t 31) (.t 33)⟩,
  ⟨(some 36), none, .load (some 3) (.t 35)⟩,
  ⟨(some 5), none, .alloc [(.int .i64 0), (.str []), (.sl .clip [])] false⟩,
  ⟨none, none, .store 3 (.t 5) (.t 36)⟩])
 (.reg [⟨(some 37), none, .mov (.t 3)⟩,
  ⟨(some 38), none, .load (some 3) (.t 5)⟩,
  ⟨(some 39), none, .call 0 [] (.c (.fn 55 [])) [(.t 38)]⟩,
  ⟨(some 40), none, .bin .add (.c (.str [32])) (.t 39)⟩,
  ⟨(some 41), none, .bin .add (.t 37) (.t 40)⟩,
  ⟨(some 3), none, .mov (.t 41)⟩])))
 (.reg [⟨(some 42), none, .bin .add (.t 33) (.c (.int .i64 1))⟩,
  ⟨(some 33), none, .mov (.t 42)⟩])))))))
 (.seq (.reg [⟨(some 43), none, .mov (.t 3)⟩,
  ⟨(some 2), none, .mov (.t 43)⟩])
 .ret))))),
  [.t 2], false, true, 44⟩
theorem co23 : compF Try.prog ⟨[], [(8, [3, 31, 32, 33], [])], []⟩ false true Try.f23 = some ac23 := by kernel_rfl

/-- paideia/paideiaref.SameType -/
def ac24 : AF := ⟨(.seq (.reg [⟨(some 2), none, .box (.t 0) 3 false⟩,
  ⟨(some 3), none, .box (.t 1) 3 false⟩,
  ⟨(some 4), none, .mov (.c (.bool false))⟩])
 (.seq (.reg [⟨(some 5), none, .faddr 0 (.t 2)⟩,
  ⟨(some 6), none, .load none (.t 5)⟩,
  ⟨(some 7), none, .faddr 0 (.t 3)⟩,
  ⟨(some 8), none, .load none (.t 7)⟩,
  ⟨(some 9), none, .bin .eql (.t 6) (.t 8)⟩,
  ⟨(some 10), none, .mov (.t 9)⟩,
  ⟨(some 11), (some (10, true)), .faddr 1 (.t 2)⟩,
  ⟨(some 12), (some (10, true)), .load none (.t 11)⟩,
  ⟨(some 13), (some (10, true)), .faddr 1 (.t 3)⟩,
  ⟨(some 14), (some (10, true)), .load none (.t 13)⟩,
  ⟨(some 15), (some (10, true)), .bin .eql (.t 12) (.t 14)⟩,
  ⟨(some 16), none, .pick (.t 10) (.t 15) (.c (.bool false))⟩,
  ⟨(some 17), none, .mov (.t 16)⟩,
  ⟨(some 18), (some (17, true)), .faddr 2 (.t 2)⟩,
  ⟨(some 19), (some (17, true)), .load none (.t 18)⟩,
  ⟨(some 20), (some (17, true)), .faddr 2 (.t 3)⟩,
  ⟨(some 21), (some (17, true)), .load none (.t 20)⟩,
  ⟨(some 22), (some (17, true)), .call 0 [] (.c (.fn 56 [])) [(.t 19), (.t 21)]⟩,
  ⟨(some 23), none, .pick (.t 17) (.t 22) (.c (.bool false))⟩,
  ⟨(some 4), none, .mov (.t 23)⟩])
 .ret)),
  [.t 4], false, true, 24⟩
theorem co24 : compF Try.prog ⟨[], [], []⟩ false true Try.f24 = some ac24 := by kernel_rfl

/-- paideia/printer.Scheme -/
def ac25 : AF := ⟨(.seq (.reg [⟨(some 1), none, .box (.t 0) 5 false⟩,
  ⟨(some 2), none, .mov (.c (.str []))⟩])
 (.seq (.reg [⟨(some 3), none, .faddr 1 (.t 1)⟩,
  ⟨(some 4), none, .load none (.t 3)⟩,
  ⟨(some 5), none, .call 0 [] (.c (.fn 57 [])) [(.t 4)]⟩,
  ⟨(some 6), none, .faddr 2 (.t 1)⟩,
  ⟨(some 7), none, .loadL (some 3) (.t 6)⟩,
  ⟨(some 8), none, .call 0 [] (.c (.fn 23 [])) [(.t 7)]⟩,
  ⟨(some 9), none, .bin .add (.t 5) (.t 8)⟩,
  ⟨(some 2), none, .mov (.t 9)⟩])
 .ret)),
  [.t 2], false, true, 10⟩
theorem co25 : compF Try.prog ⟨[], [], []⟩ false true Try.f25 = some ac25 := by kernel_rfl

/-- paideia/paideiaref.SameScheme -/
def ac26 : AF := ⟨(.seq (.reg [⟨(some 2), none, .box (.t 0) 5 false⟩,
  ⟨(some 3), none, .box (.t 1) 5 false⟩,
  ⟨(some 4), none, .mov (.c (.bool false))⟩])
 (.seq (.reg [⟨(some 5), none, .faddr 0 (.t 2)⟩,
  ⟨(some 6), none, .load none (.t 5)⟩,
  ⟨(some 7), none, .faddr 0 (.t 3)⟩,
  ⟨(some 8), none, .load none (.t 7)⟩,
  ⟨(some 9), none, .call 0 [] (.c (.fn 15 [])) [(.t 6), (.t 8)]⟩,
  ⟨(some 10), none, .mov (.t 9)⟩,
  ⟨(some 11), (some (10, true)), .faddr 1 (.t 2)⟩,
  ⟨(some 12), (some (10, true)), .load none (.t 11)⟩,
  ⟨(some 13), (some (10, true)), .faddr 1 (.t 3)⟩,
  ⟨(some 14), (some (10, true)), .load none (.t 13)⟩,
  ⟨(some 15), (some (10, true)), .call 0 [] (.c (.fn 58 [])) [(.t 12), (.t 14)]⟩,
  ⟨(some 16), none, .pick (.t 10) (.t 15) (.c (.bool false))⟩,
  ⟨(some 17), none, .mov (.t 16)⟩,
  ⟨(some 18), (some (17, true)), .faddr 2 (.t 2)⟩,
  ⟨(some 19), (some (17, true)), .load (some 3) (.t 18)⟩,
  ⟨(some 20), (some (17, true)), .faddr 2 (.t 3)⟩,
  ⟨(some 21), (some (17, true)), .load (some 3) (.t 20)⟩,
  ⟨(some 22), (some (17, true)), .call 0 [] (.c (.fn 24 [])) [(.t 19), (.t 21)]⟩,
  ⟨(some 23), none, .pick (.t 17) (.t 22) (.c (.bool false))⟩,
  ⟨(some 4), none, .mov (.t 23)⟩])
 .ret)),
  [.t 4], false, true, 24⟩
theorem co26 : compF Try.prog ⟨[], [], []⟩ false true Try.f26 = some ac26 := by kernel_rfl

/-- paideia/paideialaw7.first -/
def ac27 : AF := ⟨(.seq (.reg [⟨(some 0), none, .mov (.c (.bool false))⟩])
 (.seq (.reg [⟨(some 6), none, .build [(.int .i64 0), (.str []), (.sl .clip [])] [(0, 1, (.c (.int .i64 1))), (1, 1, (.c (.str [97])))]⟩,
  ⟨(some 7), none, .build [(.int .i64 0), (.str []), (.sl .clip [])] [(0, 1, (.c (.int .i64 2))), (1, 1, (.c (.str [73, 110, 116])))]⟩,
  ⟨(some 8), none, .call 0 [] (.c (.fn 30 [])) [(.t 6), (.t 7)]⟩,
  ⟨(some 5), none, .mov (.t 8)⟩,
  ⟨(some 9), none, .extract (.t 5) 0⟩,
  ⟨(some 10), none, .extract (.t 5) 1⟩,
  ⟨(some 1), none, .alloc [(.map none)] false⟩,
  ⟨none, none, .store 1 (.t 1) (.t 9)⟩,
  ⟨(some 2), none, .mov (.t 10)⟩])
 (.seq (.reg [⟨(some 12), none, .build [(.int .i64 0), (.str []), (.sl .clip [])] [(0, 1, (.c (.int .i64 2))), (1, 1, (.c (.str [73, 110, 116])))]⟩,
  ⟨(some 13), none, .build [(.int .i64 0), (.str []), (.sl .clip [])] [(0, 1, (.c (.int .i64 1))), (1, 1, (.c (.str [97])))]⟩,
  ⟨(some 14), none, .call 0 [] (.c (.fn 30 [])) [(.t 12), (.t 13)]⟩,
  ⟨(some 11), none, .mov (.t 14)⟩,
  ⟨(some 15), none, .extract (.t 11) 0⟩,
  ⟨(some 16), none, .extract (.t 11) 1⟩,
  ⟨(some 3), none, .alloc [(.map none)] false⟩,
  ⟨none, none, .store 1 (.t 3) (.t 15)⟩,
  ⟨(some 4), none, .mov (.t 16)⟩])
 (.seq (.reg [⟨(some 17), none, .mov (.t 2)⟩,
  ⟨(some 18), none, .mov (.t 17)⟩,
  ⟨(some 19), (some (18, true)), .mov (.t 4)⟩,
  ⟨(some 20), (some (18, true)), .not (.t 19)⟩,
  ⟨(some 21), none, .pick (.t 18) (.t 20) (.c (.bool false))⟩,
  ⟨(some 0), none, .mov (.t 21)⟩])
 .ret)))),
  [.t 0], false, true, 22⟩
theorem co27 : compF Try.prog ⟨[], [], []⟩ false true Try.f27 = some ac27 := by kernel_rfl

/-- paideia/paideiaref4.Apply -/
def ac28 : AF := ⟨(.seq (.reg [⟨(some 3), none, .box (.t 1) 3 false⟩,
  ⟨(some 4), none, .alloc [(.int .i64 0), (.str []), (.sl .clip [])] false⟩])
 (.seq (.seq (.reg [⟨(some 9), none, .faddr 0 (.t 3)⟩,
  ⟨(some 10), none, .load none (.t 9)⟩,
  ⟨(some 11), none, .bin .eql (.t 10) (.c (.int .i64 1))⟩])
 (.cond (.t 11) (.seq (.reg [⟨(some 13), none, .mov (.t 0)⟩,
  ⟨(some 14), none, .faddr 1 (.t 3)⟩,
  ⟨(some 15), none, .load none (.t 14)⟩,
  ⟨(some 16), none, .call 0 [] (.c (.fn 59 [])) [(.t 13), (.t 15)]⟩,
  ⟨(some 12), none, .mov (.t 16)⟩,
  ⟨(some 17), none, .extract (.t 12) 0⟩,
  ⟨(some 18), none, .extract (.t 12) 1⟩,
  ⟨(some 5), none, .alloc [(.int .i64 0), (.str []), (.sl .clip [])] false⟩,
  ⟨none, none, .store 3 (.t 5) (.t 17)⟩,
  ⟨(some 6), none, .mov (.t 18)⟩])
 (.seq (.seq (.reg [⟨(some 19), none, .mov (.t 6)⟩])
 (.cond (.t 19) (.seq (.reg [⟨(some 20), none, .load (some 3) (.t 5)⟩,
  ⟨none, none, .store 3 (.t 4) (.t 20)⟩])
 .ret)
 .skip))
 (.seq (.reg [⟨(some 21), none, .load (some 3) (.t 3)⟩,
  ⟨none, none, .store 3 (.t 4) (.t 21)⟩])
 .ret)))
 .skip))
 (.seq (.reg [⟨(some 7), none, .mov (.c (.sl .clip []))⟩])
 (.seq (.seq (.reg [⟨(some 8), none, .mov (.c (.int .i64 0))⟩])
 (.block 0 (.loop [0, 7, 8] [3, 4] (.seq (.seq (.reg [⟨(some 22), none, .mov (.t 8)⟩,
  ⟨(some 23), none, .faddr 2 (.t 3)⟩,
  ⟨(some 24), none, .load none (.t 23)⟩,
  ⟨(some 25), none, .len 1 (.t 24)⟩,
  ⟨(some 26), none, .bin .lss (.t 22) (.t 25)⟩])
 (.cond (.t 26) .skip
 (.exit 0)))
 (.seq (.block 1 (.reg [⟨(some 29), none, .mov (.t 7)⟩,
  ⟨(some 30), none, .mov (.t 0)⟩,
  ⟨(some 31), none, .faddr 2 (.t 3)⟩,
  ⟨(some 32), none, .load none (.t 31)⟩,
  ⟨(some 33), none, .mov (.t 8)⟩,
  ⟨(some 34), none, .iaddr 3 (.t 32) (.t 33)⟩,
  ⟨(some 35), none, .load (some 3) (.t 34)⟩,
  ⟨(some 36), none, .call 0 [] (.c (.fn 28 [])) [(.t 30), (.t 35)]⟩,
  ⟨(some 37), none, .bslice [(.int .i64 0), (.str []), (.sl .clip [])] 1 [(0, (.t 36))]⟩,
  ⟨(some 38), none, .append 3 (.t 29) (.t 37)⟩,
  ⟨(some 7), none, .mov (.t 38)⟩]))
 (.reg [⟨(some 27), none, .mov (.t 8)⟩,
  ⟨(some 28), none, .bin .add (.t 27) (.c (.int .i64 1))⟩,
  ⟨(some 8), none, .mov (.t 28)⟩]))))))
 (.seq (.reg [⟨(some 39), none, .mov (.t 7)⟩,
  ⟨(some 40), none, .faddr 2 (.t 3)⟩,
  ⟨none, none, .store 1 (.t 40) (.t 39)⟩])
 (.seq (.reg [⟨(some 41), none, .load (some 3) (.t 3)⟩,
  ⟨none, none, .store 3 (.t 4) (.t 41)⟩])
 .ret)))))),
  [.cell 4 (some 3)], false, true, 42⟩
theorem co28 : compF Try.prog ⟨[], [(8, [0, 7, 8], [3, 4])], []⟩ false true Try.f28 = some ac28 := by kernel_rfl

/-- paideia/paideialaw7.by -/
def ac29 : AF := ⟨(.seq (.reg [⟨(some 2), none, .mov (.c (.sl .clip []))⟩])
 (.seq (.reg [⟨(some 6), none, .mov (.t 0)⟩,
  ⟨(some 7), none, .build [(.sl .clip []), (.int .i64 0)] [(0, 1, (.t 6))]⟩,
  ⟨(some 8), none, .box (.t 7) 2 true⟩,
  ⟨(some 3), none, .mov (.t 8)⟩])
 (.seq (.reg [⟨(some 4), none, .mov (.c (.sl .clip []))⟩])
 (.seq (.seq (.reg [⟨(some 5), none, .mov (.c (.int .i64 0))⟩])
 (.block 0 (.loop [3, 4, 5] [] (.seq (.seq (.reg [⟨(some 9), none, .mov (.t 5)⟩,
  ⟨(some 10), none, .bin .lss (.t 9) (.c (.int .i64 3))⟩])
 (.cond (.t 10) .skip
 (.exit 0)))
 (.seq (.block 1 (.reg [⟨(some 13), none, .mov (.t 4)⟩,
  ⟨(some 14), none, .bslice [(.str [])] 3 [(0, (.c (.str [97]))), (1, (.c (.str [98]))), (2, (.c (.str [99])))]⟩,
  ⟨(some 15), none, .mov (.t 5)⟩,
  ⟨(some 16), none, .iaddr 1 (.t 14) (.t 15)⟩,
  ⟨(some 17), none, .loadL none (.t 16)⟩,
  ⟨(some 18), none, .mov (.t 3)⟩,
  ⟨(some 19), none, .call 0 [] (.c (.fn 18 [])) [(.t 18), (.c (.int .i64 2))]⟩,
  ⟨(some 20), none, .build [(.str []), (.int .i64 0), (.str []), (.sl .clip [])] [(0, 1, (.t 17)), (1, 3, (.t 19))]⟩,
  ⟨(some 21), none, .bslice [(.str []), (.int .i64 0), (.str []), (.sl .clip [])] 1 [(0, (.t 20))]⟩,
  ⟨(some 22), none, .append 4 (.t 13) (.t 21)⟩,
  ⟨(some 4), none, .mov (.t 22)⟩]))
 (.reg [⟨(some 11), none, .mov (.t 5)⟩,
  ⟨(some 12), none, .bin .add (.t 11) (.c (.int .i64 1))⟩,
  ⟨(some 5), none, .mov (.t 12)⟩]))))))
 (.seq (.reg [⟨(some 23), none, .mov (.t 4)⟩,
  ⟨(some 2), none, .mov (.t 23)⟩])
 .ret))))),
  [.t 2], false, true, 24⟩
theorem co29 : compF Try.prog ⟨[8], [(4, [3, 4, 5], [])], []⟩ false true Try.f29 = some ac29 := by kernel_rfl

/-- paideia/match.Match -/
def ac30 : AF := ⟨(.seq (.reg [⟨(some 2), none, .box (.t 0) 3 false⟩,
  ⟨(some 3), none, .box (.t 1) 3 false⟩,
  ⟨(some 4), none, .alloc [(.map none)] false⟩,
  ⟨(some 5), none, .mov (.c (.bool false))⟩])
 (.seq (.reg [⟨(some 10), none, .mkmap⟩,
  ⟨(some 6), none, .mov (.t 10)⟩])
 (.seq (.seq (.reg [⟨(some 11), none, .load (some 3) (.t 2)⟩,
  ⟨(some 12), none, .load (some 3) (.t 3)⟩,
  ⟨(some 13), none, .mov (.t 6)⟩,
  ⟨(some 14), none, .call 0 [] (.c (.fn 60 [])) [(.t 11), (.t 12), (.t 13)]⟩,
  ⟨(some 15), none, .not (.t 14)⟩])
 (.cond (.t 15) (.seq (.reg [⟨(some 16), none, .build [(.map none)] []⟩,
  ⟨none, none, .store 1 (.t 4) (.t 16)⟩,
  ⟨(some 5), none, .mov (.c (.bool false))⟩])
 .ret)
 .skip))
 (.seq (.reg [⟨(some 7), none, .mov (.c (.sl .clip []))⟩])
 (.seq (.seq (.reg [⟨(some 17), none, .mov (.t 6)⟩,
  ⟨(some 18), none, .range (.t 17)⟩])
 (.block 0 (.loop [7, 18] [4] (.seq (.reg [⟨(some 19), none, .next (.t 18)⟩,
  ⟨(some 20), none, .extract (.t 19) 0⟩])
 (.seq (.cond (.t 20) .skip
 (.exit 0))
 (.block 1 (.seq (.reg [⟨(some 21), none, .entry (.t 18)⟩,
  ⟨(some 22), none, .extract (.t 21) 0⟩,
  ⟨(some 23), none, .extract (.t 21) 1⟩,
  ⟨(some 9), none, .alloc [(.int .i64 0), (.str []), (.sl .clip [])] false⟩,
  ⟨(some 8), none, .mov (.t 22)⟩,
  ⟨none, none, .store 3 (.t 9) (.t 23)⟩])
 (.reg [⟨(some 24), none, .mov (.t 7)⟩,
  ⟨(some 25), none, .mov (.t 8)⟩,
  ⟨(some 26), none, .load (some 3) (.t 9)⟩,
  ⟨(some 27), none, .build [(.str []), (.int .i64 0), (.str []), (.sl .clip [])] [(0, 1, (.t 25)), (1, 3, (.t 26))]⟩,
  ⟨(some 28), none, .bslice [(.str []), (.int .i64 0), (.str []), (.sl .clip [])] 1 [(0, (.t 27))]⟩,
  ⟨(some 29), none, .append 4 (.t 24) (.t 28)⟩,
  ⟨(some 7), none, .mov (.t 29)⟩]))))))))
 (.seq (.reg [⟨(some 30), none, .mov (.t 7)⟩,
  ⟨(some 31), none, .call 0 [] (.c (.fn 61 [])) [(.t 30)]⟩,
  ⟨none, none, .store 1 (.t 4) (.t 31)⟩,
  ⟨(some 5), none, .mov (.c (.bool true))⟩])
 .ret)))))),
  [.cell 4 (some 1), .t 5], false, false, 32⟩
theorem co30 : compF Try.prog ⟨[], [(6, [7, 18], [4])], []⟩ false false Try.f30 = some ac30 := by kernel_rfl

/-- paideia/match.Both -/
def ac31 : AF := ⟨(.seq (.reg [⟨(some 2), none, .box (.t 0) 3 false⟩,
  ⟨(some 3), none, .box (.t 1) 3 false⟩,
  ⟨(some 4), none, .mov (.c (.bool false))⟩])
 (.seq (.reg [⟨(some 10), none, .load (some 3) (.t 2)⟩,
  ⟨(some 11), none, .load (some 3) (.t 3)⟩,
  ⟨(some 12), none, .call 0 [] (.c (.fn 30 [])) [(.t 10), (.t 11)]⟩,
  ⟨(some 9), none, .mov (.t 12)⟩,
  ⟨(some 13), none, .extract (.t 9) 0⟩,
  ⟨(some 14), none, .extract (.t 9) 1⟩,
  ⟨(some 5), none, .alloc [(.map none)] false⟩,
  ⟨none, none, .store 1 (.t 5) (.t 13)⟩,
  ⟨(some 6), none, .mov (.t 14)⟩])
 (.seq (.reg [⟨(some 16), none, .load (some 3) (.t 3)⟩,
  ⟨(some 17), none, .load (some 3) (.t 2)⟩,
  ⟨(some 18), none, .call 0 [] (.c (.fn 30 [])) [(.t 16), (.t 17)]⟩,
  ⟨(some 15), none, .mov (.t 18)⟩,
  ⟨(some 19), none, .extract (.t 15) 0⟩,
  ⟨(some 20), none, .extract (.t 15) 1⟩,
  ⟨(some 7), none, .alloc [(.map none)] false⟩,
  ⟨none, none, .store 1 (.t 7) (.t 19)⟩,
  ⟨(some 8), none, .mov (.t 20)⟩])
 (.seq (.reg [⟨(some 21), none, .mov (.t 6)⟩,
  ⟨(some 22), none, .mov (.t 21)⟩,
  ⟨(some 23), (some (22, true)), .mov (.t 8)⟩,
  ⟨(some 24), none, .pick (.t 22) (.t 23) (.c (.bool false))⟩,
  ⟨(some 4), none, .mov (.t 24)⟩])
 .ret)))),
  [.t 4], false, true, 25⟩
theorem co31 : compF Try.prog ⟨[], [], []⟩ false true Try.f31 = some ac31 := by kernel_rfl

/-- (paideia/subst.Subst).Apply -/
def ac32 : AF := ⟨(.seq (.reg [⟨(some 2), none, .box (.t 0) 1 false⟩,
  ⟨(some 3), none, .box (.t 1) 3 false⟩,
  ⟨(some 4), none, .alloc [(.int .i64 0), (.str []), (.sl .clip [])] false⟩])
 (.seq (.seq (.reg [⟨(some 10), none, .faddr 0 (.t 3)⟩,
  ⟨(some 11), none, .load none (.t 10)⟩,
  ⟨(some 12), none, .bin .eql (.t 11) (.c (.int .i64 1))⟩])
 (.cond (.t 12) (.seq (.reg [⟨(some 14), none, .faddr 0 (.t 2)⟩,
  ⟨(some 15), none, .load none (.t 14)⟩,
  ⟨(some 16), none, .faddr 1 (.t 3)⟩,
  ⟨(some 17), none, .load none (.t 16)⟩,
  ⟨(some 18), none, .lookup .str (.agg [(.int .i64 0), (.str []), (.sl .clip [])]) (.t 15) (.t 17) true⟩,
  ⟨(some 13), none, .mov (.t 18)⟩,
  ⟨(some 19), none, .extract (.t 13) 0⟩,
  ⟨(some 20), none, .extract (.t 13) 1⟩,
  ⟨(some 5), none, .alloc [(.int .i64 0), (.str []), (.sl .clip [])] false⟩,
  ⟨none, none, .store 3 (.t 5) (.t 19)⟩,
  ⟨(some 6), none, .mov (.t 20)⟩])
 (.seq (.reg [⟨(some 21), none, .mov (.t 6)⟩])
 (.cond (.t 21) (.seq (.reg [⟨(some 22), none, .load (some 3) (.t 5)⟩,
  ⟨(some 23), none, .call 0 [] (.c (.fn 62 [])) [(.t 22)]⟩,
  ⟨none, none, .store 3 (.t 4) (.t 23)⟩])
 .ret)
 .skip)))
 .skip))
 (.seq (.reg [⟨(some 24), none, .faddr 0 (.t 3)⟩,
  ⟨(some 25), none, .load none (.t 24)⟩,
  ⟨(some 26), none, .faddr 1 (.t 3)⟩,
  ⟨(some 27), none, .load none (.t 26)⟩,
  ⟨(some 28), none, .build [(.int .i64 0), (.str []), (.sl .clip [])] [(0, 1, (.t 25)), (1, 1, (.t 27))]⟩,
  ⟨(some 7), none, .alloc [(.int .i64 0), (.str []), (.sl .clip [])] false⟩,
  ⟨none, none, .store 3 (.t 7) (.t 28)⟩])
 (.seq (.seq (.reg [⟨(some 29), none, .faddr 2 (.t 3)⟩,
  ⟨(some 30), none, .load none (.t 29)⟩,
  ⟨(some 31), none, .len 1 (.t 30)⟩,
  ⟨(some 32), none, .mov (.c (.int .i64 0))⟩])
 (.block 0 (.loop [30, 31, 32] [2, 4, 7] (.seq (.reg [⟨(some 33), none, .bin .lss (.t 32) (.t 31)⟩])
 (.seq (.cond (.t 33) .skip
 (.exit 0))
 (.seq (.block 1 (.seq (.reg [⟨(some 34), none, .iaddr 3 (.t 30) (.t 32)⟩,
  ⟨(some 35), none, .load (some 3) (.t 34)⟩,
  ⟨(some 9), none, .alloc [(.int .i64 0), (.str []), (.sl .clip [])] false⟩,
  ⟨none, none, .store 3 (.t 9) (.t 35)⟩])
 (.reg [⟨(some 36), none, .faddr 2 (.t 7)⟩,
  ⟨(some 37), none, .loadL none (.t 36)⟩,
  ⟨(some 38), none, .load (some 1) (.t 2)⟩,
  ⟨(some 39), none, .load (some 3) (.t 9)⟩,
  ⟨(some 40), none, .call 0 [] (.c (.fn 32 [])) [(.t 38), (.t 39)]⟩,
  ⟨(some 41), none, .bslice [(.int .i64 0), (.str []), (.sl .clip [])] 1 [(0, (.t 40))]⟩,
  ⟨(some 42), none, .append 3 (.t 37) (.t 41)⟩,
  ⟨(some 43), none, .faddr 2 (.t 7)⟩,
  ⟨none, none, .store 1 (.t 43) (.t 42)⟩])))
 (.reg [⟨(some 44), none, .bin .add (.t 32) (.c (.int .i64 1))⟩,
  ⟨(some 32), none, .mov (.t 44)⟩])))))))
 (.seq (.reg [⟨(some 45), none, .load (some 3) (.t 7)⟩,
  ⟨none, none, .store 3 (.t 4) (.t 45)⟩])
 .ret))))),
  [.cell 4 (some 3)], false, true, 46⟩
theorem co32 : compF Try.prog ⟨[], [(7, [30, 31, 32], [2, 4, 7])], []⟩ false true Try.f32 = some ac32 := by kernel_rfl

/-- paideia/paideiaref4.Size -/
def ac33 : AF := ⟨(.seq (.reg [⟨(some 1), none, .box (.t 0) 3 false⟩,
  ⟨(some 2), none, .mov (.c (.int .i64 0))⟩])
 (.seq (.reg [⟨(some 3), none, .mov (.c (.int .i64 1))⟩])
 (.seq (.seq (.reg [⟨(some 4), none, .mov (.c (.int .i64 0))⟩])
 (.block 0 (.loop [3, 4] [1] (.seq (.seq (.reg [⟨(some 5), none, .mov (.t 4)⟩,
  ⟨(some 6), none, .faddr 2 (.t 1)⟩,
  ⟨(some 7), none, .load none (.t 6)⟩,
  ⟨(some 8), none, .len 1 (.t 7)⟩,
  ⟨(some 9), none, .bin .lss (.t 5) (.t 8)⟩])
 (.cond (.t 9) .skip
 (.exit 0)))
 (.seq (.block 1 (.reg [⟨(some 12), none, .mov (.t 3)⟩,
  ⟨(some 13), none, .faddr 2 (.t 1)⟩,
  ⟨(some 14), none, .load none (.t 13)⟩,
  ⟨(some 15), none, .mov (.t 4)⟩,
  ⟨(some 16), none, .iaddr 3 (.t 14) (.t 15)⟩,
  ⟨(some 17), none, .load (some 3) (.t 16)⟩,
  ⟨(some 18), none, .call 0 [] (.c (.fn 33 [])) [(.t 17)]⟩,
  ⟨(some 19), none, .bin .add (.t 12) (.t 18)⟩,
  ⟨(some 3), none, .mov (.t 19)⟩]))
 (.reg [⟨(some 10), none, .mov (.t 4)⟩,
  ⟨(some 11), none, .bin .add (.t 10) (.c (.int .i64 1))⟩,
  ⟨(some 4), none, .mov (.t 11)⟩]))))))
 (.seq (.reg [⟨(some 20), none, .mov (.t 3)⟩,
  ⟨(some 2), none, .mov (.t 20)⟩])
 .ret)))),
  [.t 2], false, true, 21⟩
theorem co33 : compF Try.prog ⟨[], [(3, [3, 4], [1])], []⟩ false true Try.f33 = some ac33 := by kernel_rfl

/-- paideia/paideiaref4.Match -/
def ac34 : AF := ⟨(.seq (.reg [⟨(some 2), none, .box (.t 0) 3 false⟩,
  ⟨(some 3), none, .box (.t 1) 3 false⟩,
  ⟨(some 4), none, .mov (.c (.sl .clip []))⟩,
  ⟨(some 5), none, .mov (.c (.bool false))⟩])
 (.seq (.reg [⟨(some 6), none, .load (some 3) (.t 2)⟩,
  ⟨(some 7), none, .load (some 3) (.t 3)⟩,
  ⟨(some 8), none, .call 0 [] (.c (.fn 63 [])) [(.c (.sl .clip [])), (.t 6), (.t 7)]⟩,
  ⟨(some 9), none, .extract (.t 8) 0⟩,
  ⟨(some 10), none, .extract (.t 8) 1⟩,
  ⟨(some 4), none, .mov (.t 9)⟩,
  ⟨(some 5), none, .mov (.t 10)⟩])
 .ret)),
  [.t 4, .t 5], false, true, 11⟩
theorem co34 : compF Try.prog ⟨[], [], []⟩ false true Try.f34 = some ac34 := by kernel_rfl

/-- paideia/term.App -/
def ac35 : AF := ⟨(.seq (.reg [⟨(some 2), none, .box (.t 0) 9 false⟩,
  ⟨(some 4), none, .alloc [(.int .i64 0), (.str []), (.int .i64 0), (.int .i64 0), (.str []), (.sl .clip []), (.sl .clip []), (.sl .clip []), (.sl .clip [])] false⟩])
 (.seq (.seq (.reg [⟨(some 7), none, .mov (.t 1)⟩,
  ⟨(some 8), none, .len 1 (.t 7)⟩,
  ⟨(some 9), none, .mov (.c (.int .i64 0))⟩])
 (.block 0 (.loop [7, 8, 9] [2, 4] (.seq (.reg [⟨(some 10), none, .bin .lss (.t 9) (.t 8)⟩])
 (.seq (.cond (.t 10) .skip
 (.exit 0))
 (.seq (.block 1 (.seq (.reg [⟨(some 11), none, .iaddr 9 (.t 7) (.t 9)⟩,
  ⟨(some 12), none, .load (some 9) (.t 11)⟩,
  ⟨(some 6), none, .alloc [(.int .i64 0), (.str []), (.int .i64 0), (.int .i64 0), (.str []), (.sl .clip []), (.sl .clip []), (.sl .clip []), (.sl .clip [])] false⟩,
  ⟨none, none, .store 9 (.t 6) (.t 12)⟩])
 (.reg [⟨(some 13), none, .load (some 9) (.t 2)⟩,
  ⟨(some 14), none, .load (some 9) (.t 6)⟩,
  ⟨(some 15), none, .bslice [(.int .i64 0), (.str []), (.int .i64 0), (.int .i64 0), (.str []), (.sl .clip []), (.sl .clip []), (.sl .clip []), (.sl .clip [])] 2 [(0, (.t 13)), (1, (.t 14))]⟩,
  ⟨(some 16), none, .build [(.int .i64 0), (.str []), (.int .i64 0), (.int .i64 0), (.str []), (.sl .clip []), (.sl .clip []), (.sl .clip []), (.sl .clip [])] [(0, 1, (.c (.int .i64 5))), (6, 1, (.t 15))]⟩,
  ⟨none, none, .store 9 (.t 2) (.t 16)⟩])))
 (.reg [⟨(some 17), none, .bin .add (.t 9) (.c (.int .i64 1))⟩,
  ⟨(some 9), none, .mov (.t 17)⟩])))))))
 (.seq (.reg [⟨(some 18), none, .load (some 9) (.t 2)⟩,
  ⟨none, none, .store 9 (.t 4) (.t 18)⟩])
 .ret))),
  [.cell 4 (some 9)], false, true, 19⟩
theorem co35 : compF Try.prog ⟨[], [(2, [7, 8, 9], [2, 4])], []⟩ false true Try.f35 = some ac35 := by kernel_rfl

/-- paideia/term.Prims -/
def ac36 : AF := ⟨(.seq (.reg [⟨(some 0), none, .mov (.c (.sl .clip []))⟩])
 (.seq (.reg [⟨(some 1), none, .bslice [(.str [])] 9 [(0, (.c (.str [112, 114, 105, 109, 73, 110, 116, 69, 113]))), (1, (.c (.str [112, 114, 105, 109, 73, 110, 116, 76, 101, 115, 115]))), (2, (.c (.str [112, 114, 105, 109, 73, 110, 116, 65, 100, 100]))), (3, (.c (.str [112, 114, 105, 109, 73, 110, 116, 83, 117, 98]))), (4, (.c (.str [112, 114, 105, 109, 73, 110, 116, 77, 117, 108]))), (5, (.c (.str [112, 114, 105, 109, 73, 110, 116, 83, 104, 111, 119]))), (6, (.c (.str [112, 114, 105, 109, 67, 104, 97, 114, 69, 113]))), (7, (.c (.str [112, 114, 105, 109, 67, 104, 97, 114, 76, 101, 115, 115]))), (8, (.c (.str [112, 114, 105, 109, 67, 104, 97, 114, 83, 104, 111, 119])))]⟩,
  ⟨(some 0), none, .mov (.t 1)⟩])
 .ret)),
  [.t 0], false, true, 2⟩
theorem co36 : compF Try.prog ⟨[], [], []⟩ false true Try.f36 = some ac36 := by kernel_rfl

/-- (*paideia/paideiamake.Seq).Next -/
def ac37 : AF := ⟨(.seq (.reg [⟨(some 4), none, .mov (.c (.int .i64 0))⟩])
 (.seq (.reg [⟨(some 5), none, .mov (.c (.int .i64 0))⟩])
 (.seq (.seq (.reg [⟨(some 6), none, .mov (.t 0)⟩,
  ⟨(some 7), none, .nilck (.t 6)⟩,
  ⟨(some 8), none, .faddr 1 (.t 7)⟩,
  ⟨(some 9), none, .load none (.t 8)⟩,
  ⟨(some 10), none, .mov (.t 0)⟩,
  ⟨(some 11), none, .nilck (.t 10)⟩,
  ⟨(some 12), none, .faddr 0 (.t 11)⟩,
  ⟨(some 13), none, .load none (.t 12)⟩,
  ⟨(some 14), none, .len 1 (.t 13)⟩,
  ⟨(some 15), none, .bin .lss (.t 9) (.t 14)⟩])
 (.cond (.t 15) (.reg [⟨(some 16), none, .mov (.t 0)⟩,
  ⟨(some 17), none, .nilck (.t 16)⟩,
  ⟨(some 18), none, .faddr 0 (.t 17)⟩,
  ⟨(some 19), none, .load none (.t 18)⟩,
  ⟨(some 20), none, .mov (.t 0)⟩,
  ⟨(some 21), none, .nilck (.t 20)⟩,
  ⟨(some 22), none, .faddr 1 (.t 21)⟩,
  ⟨(some 23), none, .load none (.t 22)⟩,
  ⟨(some 24), none, .iaddr 1 (.t 19) (.t 23)⟩,
  ⟨(some 25), none, .load none (.t 24)⟩,
  ⟨(some 5), none, .mov (.t 25)⟩])
 .skip))
 (.seq (.reg [⟨(some 26), none, .mov (.t 0)⟩,
  ⟨(some 27), none, .mov (.t 0)⟩,
  ⟨(some 28), none, .nilck (.t 27)⟩,
  ⟨(some 29), none, .faddr 1 (.t 28)⟩,
  ⟨(some 30), none, .load none (.t 29)⟩,
  ⟨(some 31), none, .bin .add (.t 30) (.c (.int .i64 1))⟩,
  ⟨(some 32), none, .nilck (.t 26)⟩,
  ⟨(some 33), none, .faddr 1 (.t 32)⟩,
  ⟨none, none, .store 1 (.t 33) (.t 31)⟩])
 (.seq (.reg [⟨(some 34), none, .mov (.t 5)⟩,
  ⟨(some 35), none, .mov (.t 1)⟩,
  ⟨(some 36), none, .call 0 [] (.c (.fn 64 [])) [(.t 34), (.t 35)]⟩,
  ⟨(some 4), none, .mov (.t 36)⟩])
 .ret))))),
  [.t 4], false, true, 37⟩
theorem co37 : compF Try.prog ⟨[], [], []⟩ false true Try.f37 = some ac37 := by kernel_rfl

/-- paideia/paideiamake.word -/
def ac38 : AF := ⟨(.seq (.reg [⟨(some 4), none, .mov (.c (.str []))⟩])
 (.seq (.reg [⟨(some 5), none, .mov (.t 1)⟩,
  ⟨(some 6), none, .mov (.t 0)⟩,
  ⟨(some 7), none, .mov (.t 1)⟩,
  ⟨(some 8), none, .len 1 (.t 7)⟩,
  ⟨(some 9), none, .call 0 [] (.c (.fn 37 [])) [(.t 6), (.t 8)]⟩,
  ⟨(some 10), none, .iaddr 1 (.t 5) (.t 9)⟩,
  ⟨(some 11), none, .load none (.t 10)⟩,
  ⟨(some 4), none, .mov (.t 11)⟩])
 .ret)),
  [.t 4], false, true, 12⟩
theorem co38 : compF Try.prog ⟨[], [], []⟩ false true Try.f38 = some ac38 := by kernel_rfl

/-- paideia/paideiaref.Texts -/
def ac39 : AF := ⟨(.seq (.reg [⟨(some 2), none, .mov (.c (.sl .clip []))⟩])
 (.seq (.reg [⟨(some 5), none, .mov (.t 0)⟩,
  ⟨(some 6), none, .len 1 (.t 5)⟩,
  ⟨(some 7), none, .mkslice [(.str [])] (.c (.int .i64 0)) (.t 6)⟩,
  ⟨(some 3), none, .mov (.t 7)⟩])
 (.seq (.seq (.reg [⟨(some 4), none, .mov (.c (.int .i64 0))⟩])
 (.block 0 (.loop [0, 3, 4] [] (.seq (.seq (.reg [⟨(some 8), none, .mov (.t 4)⟩,
  ⟨(some 9), none, .mov (.t 0)⟩,
  ⟨(some 10), none, .len 1 (.t 9)⟩,
  ⟨(some 11), none, .bin .lss (.t 8) (.t 10)⟩])
 (.cond (.t 11) .skip
 (.exit 0)))
 (.seq (.block 1 (.reg [⟨(some 14), none, .mov (.t 3)⟩,
  ⟨(some 15), none, .mov (.t 0)⟩,
  ⟨(some 16), none, .mov (.t 4)⟩,
  ⟨(some 17), none, .iaddr 1 (.t 15) (.t 16)⟩,
  ⟨(some 18), none, .load none (.t 17)⟩,
  ⟨(some 19), none, .bslice [(.str [])] 1 [(0, (.t 18))]⟩,
  ⟨(some 20), none, .append 1 (.t 14) (.t 19)⟩,
  ⟨(some 3), none, .mov (.t 20)⟩]))
 (.reg [⟨(some 12), none, .mov (.t 4)⟩,
  ⟨(some 13), none, .bin .add (.t 12) (.c (.int .i64 1))⟩,
  ⟨(some 4), none, .mov (.t 13)⟩]))))))
 (.seq (.reg [⟨(some 21), none, .mov (.t 3)⟩,
  ⟨(some 2), none, .mov (.t 21)⟩])
 .ret)))),
  [.t 2], true, false, 22⟩
theorem co39 : compF Try.prog ⟨[], [(3, [0, 3, 4], [])], []⟩ true false Try.f39 = some ac39 := by kernel_rfl

/-- paideia/paideiaref.Place -/
def ac40 : AF := ⟨(.seq (.reg [⟨(some 4), none, .mov (.c (.int .i64 0))⟩])
 (.seq (.seq (.reg [⟨(some 5), none, .mov (.c (.int .i64 0))⟩])
 (.block 0 (.loop [0, 1, 5] [] (.seq (.seq (.reg [⟨(some 6), none, .mov (.t 5)⟩,
  ⟨(some 7), none, .mov (.t 0)⟩,
  ⟨(some 8), none, .len 1 (.t 7)⟩,
  ⟨(some 9), none, .bin .lss (.t 6) (.t 8)⟩])
 (.cond (.t 9) .skip
 (.exit 0)))
 (.seq (.block 1 (.seq (.reg [⟨(some 12), none, .mov (.t 0)⟩,
  ⟨(some 13), none, .mov (.t 5)⟩,
  ⟨(some 14), none, .iaddr 1 (.t 12) (.t 13)⟩,
  ⟨(some 15), none, .load none (.t 14)⟩,
  ⟨(some 16), none, .mov (.t 1)⟩,
  ⟨(some 17), none, .bin .eql (.t 15) (.t 16)⟩])
 (.cond (.t 17) (.seq (.reg [⟨(some 18), none, .mov (.t 5)⟩,
  ⟨(some 4), none, .mov (.t 18)⟩])
 .ret)
 .skip)))
 (.reg [⟨(some 10), none, .mov (.t 5)⟩,
  ⟨(some 11), none, .bin .add (.t 10) (.c (.int .i64 1))⟩,
  ⟨(some 5), none, .mov (.t 11)⟩]))))))
 (.seq (.reg [⟨(some 4), none, .mov (.c (.int .i64 (-1)))⟩])
 .ret))),
  [.t 4], false, true, 19⟩
theorem co40 : compF Try.prog ⟨[], [(2, [0, 1, 5], [])], []⟩ false true Try.f40 = some ac40 := by kernel_rfl

/-- (*paideia/term.free).term -/
def ac41 : AF := ⟨(.seq (.reg [⟨(some 2), none, .box (.t 0) 1 true⟩,
  ⟨(some 3), none, .box (.t 1) 9 true⟩])
 (.seq (.reg [⟨(some 9), none, .faddr 0 (.t 3)⟩,
  ⟨(some 10), none, .load none (.t 9)⟩])
 (.block 0 (.seq (.reg [⟨(some 30), none, .bin .eql (.t 10) (.c (.int .i64 1))⟩,
  ⟨(some 29), none, .mov (.t 30)⟩])
 (.cond (.t 29) (.seq (.reg [⟨(some 31), none, .load none (.t 2)⟩,
  ⟨(some 32), none, .nilck (.t 31)⟩,
  ⟨(some 33), none, .faddr 0 (.t 32)⟩,
  ⟨(some 34), none, .load none (.t 33)⟩,
  ⟨(some 35), none, .faddr 1 (.t 3)⟩,
  ⟨(some 36), none, .load none (.t 35)⟩,
  ⟨(some 37), none, .lookup .str (.int .i64 0) (.t 34) (.t 36) false⟩,
  ⟨(some 38), none, .bin .eql (.t 37) (.c (.int .i64 0))⟩,
  ⟨(some 39), none, .mov (.t 38)⟩,
  ⟨(some 40), (some (39, true)), .load none (.t 2)⟩,
  ⟨(some 41), (some (39, true)), .nilck (.t 40)⟩,
  ⟨(some 42), (some (39, true)), .faddr 1 (.t 41)⟩,
  ⟨(some 43), (some (39, true)), .load none (.t 42)⟩,
  ⟨(some 44), (some (39, true)), .faddr 1 (.t 3)⟩,
  ⟨(some 45), (some (39, true)), .load none (.t 44)⟩,
  ⟨(some 46), (some (39, true)), .lookup .str (.bool false) (.t 43) (.t 45) false⟩,
  ⟨(some 47), (some (39, true)), .not (.t 46)⟩,
  ⟨(some 48), none, .pick (.t 39) (.t 47) (.c (.bool false))⟩])
 (.cond (.t 48) (.seq (.reg [⟨(some 49), none, .load none (.t 2)⟩,
  ⟨(some 50), none, .nilck (.t 49)⟩,
  ⟨(some 51), none, .faddr 1 (.t 50)⟩,
  ⟨(some 52), none, .load none (.t 51)⟩,
  ⟨(some 53), none, .faddr 1 (.t 3)⟩,
  ⟨(some 54), none, .load none (.t 53)⟩,
  ⟨none, none, .mapset .str (.t 52) (.t 54) (.c (.bool true))⟩])
 (.reg [⟨(some 55), none, .loadL none (.t 2)⟩,
  ⟨(some 56), none, .load none (.t 2)⟩,
  ⟨(some 57), none, .nilck (.t 56)⟩,
  ⟨(some 58), none, .faddr 2 (.t 57)⟩,
  ⟨(some 59), none, .load none (.t 58)⟩,
  ⟨(some 60), none, .faddr 1 (.t 3)⟩,
  ⟨(some 61), none, .load none (.t 60)⟩,
  ⟨(some 62), none, .bslice [(.str [])] 1 [(0, (.t 61))]⟩,
  ⟨(some 63), none, .append 1 (.t 59) (.t 62)⟩,
  ⟨(some 64), none, .nilck (.t 55)⟩,
  ⟨(some 65), none, .faddr 2 (.t 64)⟩,
  ⟨none, none, .store 1 (.t 65) (.t 63)⟩]))
 .skip))
 (.seq (.reg [⟨(some 67), none, .bin .eql (.t 10) (.c (.int .i64 6))⟩,
  ⟨(some 66), none, .mov (.t 67)⟩])
 (.cond (.t 66) (.reg [⟨(some 68), none, .load none (.t 2)⟩,
  ⟨(some 69), none, .faddr 1 (.t 3)⟩,
  ⟨(some 70), none, .load none (.t 69)⟩,
  ⟨(some 71), none, .bslice [(.str [])] 1 [(0, (.t 70))]⟩,
  ⟨(some 72), none, .mkfn 66 [(.t 2), (.t 3)]⟩,
  ⟨(some 73), none, .call 0 [] (.c (.fn 65 [])) [(.t 68), (.t 71), (.t 72)]⟩])
 (.seq (.reg [⟨(some 75), none, .bin .eql (.t 10) (.c (.int .i64 9))⟩,
  ⟨(some 74), none, .mov (.t 75)⟩])
 (.cond (.t 74) (.seq (.reg [⟨(some 4), none, .mov (.c (.sl .clip []))⟩])
 (.seq (.seq (.reg [⟨(some 76), none, .faddr 8 (.t 3)⟩,
  ⟨(some 77), none, .load none (.t 76)⟩,
  ⟨(some 78), none, .len 1 (.t 77)⟩,
  ⟨(some 79), none, .mov (.c (.int .i64 0))⟩])
 (.block 3 (.loop [2, 3, 4, 77, 78, 79] [] (.seq (.reg [⟨(some 80), none, .bin .lss (.t 79) (.t 78)⟩])
 (.seq (.cond (.t 80) .skip
 (.exit 3))
 (.seq (.block 4 (.seq (.reg [⟨(some 81), none, .iaddr 13 (.t 77) (.t 79)⟩,
  ⟨(some 82), none, .load (some 13) (.t 81)⟩,
  ⟨(some 6), none, .alloc [(.str []), (.int .i64 0), (.str []), (.sl .clip []), (.int .i64 0), (.str []), (.int .i64 0), (.int .i64 0), (.str []), (.sl .clip []), (.sl .clip []), (.sl .clip []), (.sl .clip [])] false⟩,
  ⟨none, none, .store 13 (.t 6) (.t 82)⟩])
 (.reg [⟨(some 83), none, .mov (.t 4)⟩,
  ⟨(some 84), none, .faddr 0 (.t 6)⟩,
  ⟨(some 85), none, .load none (.t 84)⟩,
  ⟨(some 86), none, .bslice [(.str [])] 1 [(0, (.t 85))]⟩,
  ⟨(some 87), none, .append 1 (.t 83) (.t 86)⟩,
  ⟨(some 4), none, .mov (.t 87)⟩])))
 (.reg [⟨(some 88), none, .bin .add (.t 79) (.c (.int .i64 1))⟩,
  ⟨(some 79), none, .mov (.t 88)⟩])))))))
 (.reg [⟨(some 89), none, .load none (.t 2)⟩,
  ⟨(some 90), none, .mov (.t 4)⟩,
  ⟨(some 91), none, .mkfn 68 [(.t 3), (.t 2)]⟩,
  ⟨(some 92), none, .call 0 [] (.c (.fn 65 [])) [(.t 89), (.t 90), (.t 91)]⟩])))
 (.seq (.reg [⟨(some 11), none, .load none (.t 2)⟩,
  ⟨(some 12), none, .faddr 6 (.t 3)⟩,
  ⟨(some 13), none, .load none (.t 12)⟩,
  ⟨(some 14), none, .call 0 [] (.c (.fn 67 [])) [(.t 11), (.t 13)]⟩])
 (.seq (.reg [⟨(some 15), none, .faddr 7 (.t 3)⟩,
  ⟨(some 16), none, .load none (.t 15)⟩,
  ⟨(some 17), none, .len 1 (.t 16)⟩,
  ⟨(some 18), none, .mov (.c (.int .i64 0))⟩])
 (.block 1 (.loop [2, 16, 17, 18] [] (.seq (.reg [⟨(some 19), none, .bin .lss (.t 18) (.t 17)⟩])
 (.seq (.cond (.t 19) .skip
 (.exit 1))
 (.seq (.block 2 (.seq (.reg [⟨(some 20), none, .iaddr 11 (.t 16) (.t 18)⟩,
  ⟨(some 21), none, .load (some 11) (.t 20)⟩,
  ⟨(some 8), none, .alloc [(.str []), (.sl .clip []), (.int .i64 0), (.str []), (.int .i64 0), (.int .i64 0), (.str []), (.sl .clip []), (.sl .clip []), (.sl .clip []), (.sl .clip [])] true⟩,
  ⟨none, none, .store 11 (.t 8) (.t 21)⟩])
 (.reg [⟨(some 22), none, .loadL none (.t 2)⟩,
  ⟨(some 23), none, .faddr 1 (.t 8)⟩,
  ⟨(some 24), none, .load none (.t 23)⟩,
  ⟨(some 25), none, .call 0 [] (.c (.fn 69 [])) [(.t 24)]⟩,
  ⟨(some 26), none, .mkfn 70 [(.t 2), (.t 8)]⟩,
  ⟨(some 27), none, .call 0 [] (.c (.fn 65 [])) [(.t 22), (.t 25), (.t 26)]⟩])))
 (.reg [⟨(some 28), none, .bin .add (.t 18) (.c (.int .i64 1))⟩,
  ⟨(some 18), none, .mov (.t 28)⟩]))))))))))))))))),
  [], false, false, 93⟩
theorem co41 : compF Try.prog ⟨[2, 3, 8], [(4, [2, 16, 17, 18], []), (17, [2, 3, 4, 77, 78, 79], [])], []⟩ false false Try.f41 = some ac41 := by kernel_rfl

/-- paideia/paideiaref4.Var -/
def ac45 : AF := ⟨(.seq (.reg [⟨(some 2), none, .alloc [(.int .i64 0), (.str []), (.sl .clip [])] false⟩])
 (.seq (.reg [⟨(some 3), none, .mov (.t 0)⟩,
  ⟨(some 4), none, .build [(.int .i64 0), (.str []), (.sl .clip [])] [(0, 1, (.c (.int .i64 1))), (1, 1, (.t 3))]⟩,
  ⟨none, none, .store 3 (.t 2) (.t 4)⟩])
 .ret)),
  [.cell 2 (some 3)], false, true, 5⟩
theorem co45 : compF Try.prog ⟨[], [], []⟩ false true Try.f45 = some ac45 := by kernel_rfl

/-- paideia/paideiaref4.Con -/
def ac46 : AF := ⟨(.seq (.reg [⟨(some 4), none, .alloc [(.int .i64 0), (.str []), (.sl .clip [])] false⟩])
 (.seq (.reg [⟨(some 5), none, .mov (.t 0)⟩,
  ⟨(some 6), none, .mov (.t 1)⟩,
  ⟨(some 7), none, .build [(.int .i64 0), (.str []), (.sl .clip [])] [(0, 1, (.c (.int .i64 2))), (1, 1, (.t 5)), (2, 1, (.t 6))]⟩,
  ⟨none, none, .store 3 (.t 4) (.t 7)⟩])
 .ret)),
  [.cell 4 (some 3)], false, true, 8⟩
theorem co46 : compF Try.prog ⟨[], [], []⟩ false true Try.f46 = some ac46 := by kernel_rfl

/-- paideia/paideiaref4.Fun2 -/
def ac47 : AF := ⟨(.seq (.reg [⟨(some 2), none, .box (.t 0) 3 false⟩,
  ⟨(some 3), none, .box (.t 1) 3 false⟩,
  ⟨(some 4), none, .alloc [(.int .i64 0), (.str []), (.sl .clip [])] false⟩])
 (.seq (.reg [⟨(some 5), none, .load (some 3) (.t 2)⟩,
  ⟨(some 6), none, .load (some 3) (.t 3)⟩,
  ⟨(some 7), none, .bslice [(.int .i64 0), (.str []), (.sl .clip [])] 2 [(0, (.t 5)), (1, (.t 6))]⟩,
  ⟨(some 8), none, .build [(.int .i64 0), (.str []), (.sl .clip [])] [(0, 1, (.c (.int .i64 3))), (2, 1, (.t 7))]⟩,
  ⟨none, none, .store 3 (.t 4) (.t 8)⟩])
 .ret)),
  [.cell 4 (some 3)], false, true, 9⟩
theorem co47 : compF Try.prog ⟨[], [], []⟩ false true Try.f47 = some ac47 := by kernel_rfl

/-- cmp.Or[int] -/
def ac48 : AF := ⟨(.seq (.reg [⟨(some 2), none, .mov (.c (.int .i64 0))⟩])
 (.seq (.reg [⟨(some 3), none, .mov (.c (.int .i64 0))⟩])
 (.seq (.seq (.reg [⟨(some 6), none, .mov (.t 0)⟩,
  ⟨(some 7), none, .len 1 (.t 6)⟩,
  ⟨(some 8), none, .mov (.c (.int .i64 0))⟩])
 (.block 0 (.loop [3, 6, 7, 8] [] (.seq (.reg [⟨(some 9), none, .bin .lss (.t 8) (.t 7)⟩])
 (.seq (.cond (.t 9) .skip
 (.exit 0))
 (.seq (.block 1 (.seq (.reg [⟨(some 10), none, .iaddr 1 (.t 6) (.t 8)⟩,
  ⟨(some 11), none, .load none (.t 10)⟩,
  ⟨(some 5), none, .mov (.t 11)⟩])
 (.seq (.reg [⟨(some 12), none, .mov (.t 5)⟩,
  ⟨(some 13), none, .mov (.t 3)⟩,
  ⟨(some 14), none, .bin .neq (.t 12) (.t 13)⟩])
 (.cond (.t 14) (.seq (.reg [⟨(some 15), none, .mov (.t 5)⟩,
  ⟨(some 2), none, .mov (.t 15)⟩])
 .ret)
 .skip))))
 (.reg [⟨(some 16), none, .bin .add (.t 8) (.c (.int .i64 1))⟩,
  ⟨(some 8), none, .mov (.t 16)⟩])))))))
 (.seq (.reg [⟨(some 17), none, .mov (.t 3)⟩,
  ⟨(some 2), none, .mov (.t 17)⟩])
 .ret)))),
  [.t 2], false, true, 18⟩
theorem co48 : compF Try.prog ⟨[], [(3, [3, 6, 7, 8], [])], []⟩ false true Try.f48 = some ac48 := by kernel_rfl

/-- cmp.Compare[int] -/
def ac49 : AF := ⟨(.seq (.reg [⟨(some 4), none, .mov (.c (.int .i64 0))⟩])
 (.seq (.reg [⟨(some 7), none, .mov (.t 0)⟩,
  ⟨(some 8), none, .call 0 [] (.c (.fn 73 [])) [(.t 7)]⟩,
  ⟨(some 5), none, .mov (.t 8)⟩])
 (.seq (.reg [⟨(some 9), none, .mov (.t 1)⟩,
  ⟨(some 10), none, .call 0 [] (.c (.fn 73 [])) [(.t 9)]⟩,
  ⟨(some 6), none, .mov (.t 10)⟩])
 (.seq (.seq (.reg [⟨(some 11), none, .mov (.t 5)⟩])
 (.cond (.t 11) (.seq (.seq (.reg [⟨(some 12), none, .mov (.t 6)⟩])
 (.cond (.t 12) (.seq (.reg [⟨(some 4), none, .mov (.c (.int .i64 0))⟩])
 .ret)
 .skip))
 (.seq (.reg [⟨(some 4), none, .mov (.c (.int .i64 (-1)))⟩])
 .ret))
 .skip))
 (.seq (.seq (.reg [⟨(some 13), none, .mov (.t 6)⟩])
 (.cond (.t 13) (.seq (.reg [⟨(some 4), none, .mov (.c (.int .i64 1))⟩])
 .ret)
 .skip))
 (.seq (.seq (.reg [⟨(some 14), none, .mov (.t 0)⟩,
  ⟨(some 15), none, .mov (.t 1)⟩,
  ⟨(some 16), none, .bin .lss (.t 14) (.t 15)⟩])
 (.cond (.t 16) (.seq (.reg [⟨(some 4), none, .mov (.c (.int .i64 (-1)))⟩])
 .ret)
 .skip))
 (.seq (.seq (.reg [⟨(some 17), none, .mov (.t 0)⟩,
  ⟨(some 18), none, .mov (.t 1)⟩,
  ⟨(some 19), none, .bin .gtr (.t 17) (.t 18)⟩])
 (.cond (.t 19) (.seq (.reg [⟨(some 4), none, .mov (.c (.int .i64 1))⟩])
 .ret)
 .skip))
 (.seq (.reg [⟨(some 4), none, .mov (.c (.int .i64 0))⟩])
 .ret)))))))),
  [.t 4], false, true, 20⟩
theorem co49 : compF Try.prog ⟨[], [], []⟩ false true Try.f49 = some ac49 := by kernel_rfl

/-- strings.Compare -/
def ac50 : AF := ⟨(.seq (.reg [⟨(some 4), none, .mov (.c (.int .i64 0))⟩])
 (.seq (.reg [⟨(some 5), none, .mov (.t 0)⟩,
  ⟨(some 6), none, .mov (.t 1)⟩,
  ⟨(some 7), none, .call 0 [] (.c (.fn 74 [])) [(.t 5), (.t 6)]⟩,
  ⟨(some 4), none, .mov (.t 7)⟩])
 .ret)),
  [.t 4], false, true, 8⟩
theorem co50 : compF Try.prog ⟨[], [], []⟩ false true Try.f50 = some ac50 := by kernel_rfl

/-- slices.CompareFunc[[]paideia/api.Type,[]paideia/api.Type,paideia/api.Type,paideia/api.Type] -/
def ac51 : AF := ⟨(.seq (.reg [⟨(some 6), none, .mov (.c (.int .i64 0))⟩])
 (.seq (.seq (.reg [⟨(some 11), none, .mov (.t 0)⟩,
  ⟨(some 12), none, .len 1 (.t 11)⟩,
  ⟨(some 13), none, .mov (.c (.int .i64 0))⟩])
 (.block 0 (.loop [0, 1, 2, 11, 12, 13] [] (.seq (.reg [⟨(some 14), none, .bin .lss (.t 13) (.t 12)⟩])
 (.seq (.cond (.t 14) .skip
 (.exit 0))
 (.seq (.block 1 (.seq (.reg [⟨(some 15), none, .mov (.t 13)⟩,
  ⟨(some 16), none, .iaddr 3 (.t 11) (.t 13)⟩,
  ⟨(some 17), none, .load (some 3) (.t 16)⟩,
  ⟨(some 8), none, .alloc [(.int .i64 0), (.str []), (.sl .clip [])] false⟩,
  ⟨(some 7), none, .mov (.t 15)⟩,
  ⟨none, none, .store 3 (.t 8) (.t 17)⟩])
 (.seq (.seq (.reg [⟨(some 18), none, .mov (.t 7)⟩,
  ⟨(some 19), none, .mov (.t 1)⟩,
  ⟨(some 20), none, .len 1 (.t 19)⟩,
  ⟨(some 21), none, .bin .geq (.t 18) (.t 20)⟩])
 (.cond (.t 21) (.seq (.reg [⟨(some 6), none, .mov (.c (.int .i64 1))⟩])
 .ret)
 .skip))
 (.seq (.reg [⟨(some 22), none, .mov (.t 1)⟩,
  ⟨(some 23), none, .mov (.t 7)⟩,
  ⟨(some 24), none, .iaddr 3 (.t 22) (.t 23)⟩,
  ⟨(some 25), none, .load (some 3) (.t 24)⟩,
  ⟨(some 9), none, .alloc [(.int .i64 0), (.str []), (.sl .clip [])] false⟩,
  ⟨none, none, .store 3 (.t 9) (.t 25)⟩])
 (.seq (.reg [⟨(some 26), none, .mov (.t 2)⟩,
  ⟨(some 27), none, .load (some 3) (.t 8)⟩,
  ⟨(some 28), none, .load (some 3) (.t 9)⟩,
  ⟨(some 29), none, .call 0 [] (.t 26) [(.t 27), (.t 28)]⟩,
  ⟨(some 10), none, .mov (.t 29)⟩])
 (.seq (.reg [⟨(some 30), none, .mov (.t 10)⟩,
  ⟨(some 31), none, .bin .neq (.t 30) (.c (.int .i64 0))⟩])
 (.cond (.t 31) (.seq (.reg [⟨(some 32), none, .mov (.t 10)⟩,
  ⟨(some 6), none, .mov (.t 32)⟩])
 .ret)
 .skip)))))))
 (.reg [⟨(some 33), none, .bin .add (.t 13) (.c (.int .i64 1))⟩,
  ⟨(some 13), none, .mov (.t 33)⟩])))))))
 (.seq (.seq (.reg [⟨(some 34), none, .mov (.t 0)⟩,
  ⟨(some 35), none, .len 1 (.t 34)⟩,
  ⟨(some 36), none, .mov (.t 1)⟩,
  ⟨(some 37), none, .len 1 (.t 36)⟩,
  ⟨(some 38), none, .bin .lss (.t 35) (.t 37)⟩])
 (.cond (.t 38) (.seq (.reg [⟨(some 6), none, .mov (.c (.int .i64 (-1)))⟩])
 .ret)
 .skip))
 (.seq (.reg [⟨(some 6), none, .mov (.c (.int .i64 0))⟩])
 .ret)))),
  [.t 6], false, true, 39⟩
theorem co51 : compF Try.prog ⟨[], [(2, [0, 1, 2, 11, 12, 13], [])], []⟩ false true Try.f51 = some ac51 := by kernel_rfl

/-- paideia/paideiamake.Preds -/
def ac52 : AF := ⟨(.seq (.reg [⟨(some 6), none, .mov (.c (.sl .clip []))⟩])
 (.seq (.reg [⟨(some 7), none, .mov (.c (.sl .clip []))⟩])
 (.seq (.seq (.reg [⟨(some 9), none, .mov (.t 0)⟩,
  ⟨(some 10), none, .mov (.t 1)⟩,
  ⟨(some 11), none, .bin .add (.t 10) (.c (.int .i64 1))⟩,
  ⟨(some 12), none, .call 0 [] (.c (.fn 37 [])) [(.t 9), (.t 11)]⟩,
  ⟨(some 8), none, .mov (.t 12)⟩])
 (.block 0 (.loop [0, 2, 7, 8] [] (.seq (.seq (.reg [⟨(some 13), none, .mov (.t 8)⟩,
  ⟨(some 14), none, .bin .gtr (.t 13) (.c (.int .i64 0))⟩])
 (.cond (.t 14) .skip
 (.exit 0)))
 (.seq (.block 1 (.reg [⟨(some 17), none, .mov (.t 7)⟩,
  ⟨(some 18), none, .mov (.t 0)⟩,
  ⟨(some 19), none, .mov (.t 2)⟩,
  ⟨(some 20), none, .call 0 [] (.c (.fn 75 [])) [(.t 18), (.t 19)]⟩,
  ⟨(some 21), none, .bslice [(.str []), (.int .i64 0), (.str []), (.sl .clip [])] 1 [(0, (.t 20))]⟩,
  ⟨(some 22), none, .append 4 (.t 17) (.t 21)⟩,
  ⟨(some 7), none, .mov (.t 22)⟩]))
 (.reg [⟨(some 15), none, .mov (.t 8)⟩,
  ⟨(some 16), none, .bin .sub (.t 15) (.c (.int .i64 1))⟩,
  ⟨(some 8), none, .mov (.t 16)⟩]))))))
 (.seq (.reg [⟨(some 23), none, .mov (.t 7)⟩,
  ⟨(some 6), none, .mov (.t 23)⟩])
 .ret)))),
  [.t 6], false, true, 24⟩
theorem co52 : compF Try.prog ⟨[], [(3, [0, 2, 7, 8], [])], []⟩ false true Try.f52 = some ac52 := by kernel_rfl

/-- paideia/printer.left -/
def ac53 : AF := ⟨(.seq (.reg [⟨(some 1), none, .box (.t 0) 3 false⟩,
  ⟨(some 2), none, .mov (.c (.str []))⟩])
 (.seq (.seq (.reg [⟨(some 3), none, .faddr 0 (.t 1)⟩,
  ⟨(some 4), none, .load none (.t 3)⟩,
  ⟨(some 5), none, .bin .eql (.t 4) (.c (.int .i64 3))⟩,
  ⟨(some 6), none, .mov (.t 5)⟩,
  ⟨(some 7), (some (6, false)), .faddr 0 (.t 1)⟩,
  ⟨(some 8), (some (6, false)), .load none (.t 7)⟩,
  ⟨(some 9), (some (6, false)), .bin .eql (.t 8) (.c (.int .i64 4))⟩,
  ⟨(some 10), none, .pick (.t 6) (.c (.bool true)) (.t 9)⟩])
 (.cond (.t 10) (.seq (.reg [⟨(some 11), none, .load (some 3) (.t 1)⟩,
  ⟨(some 12), none, .call 0 [] (.c (.fn 23 [])) [(.t 11)]⟩,
  ⟨(some 13), none, .bin .add (.c (.str [40])) (.t 12)⟩,
  ⟨(some 14), none, .bin .add (.t 13) (.c (.str [41]))⟩,
  ⟨(some 2), none, .mov (.t 14)⟩])
 .ret)
 .skip))
 (.seq (.reg [⟨(some 15), none, .load (some 3) (.t 1)⟩,
  ⟨(some 16), none, .call 0 [] (.c (.fn 23 [])) [(.t 15)]⟩,
  ⟨(some 2), none, .mov (.t 16)⟩])
 .ret))),
  [.t 2], false, true, 17⟩
theorem co53 : compF Try.prog ⟨[], [], []⟩ false true Try.f53 = some ac53 := by kernel_rfl

/-- paideia/printer.part -/
def ac54 : AF := ⟨(.seq (.reg [⟨(some 2), none, .box (.t 0) 3 false⟩,
  ⟨(some 4), none, .alloc [(.int .i64 0), (.str []), (.sl .clip [])] false⟩])
 (.seq (.seq (.reg [⟨(some 5), none, .mov (.t 1)⟩,
  ⟨(some 6), none, .faddr 2 (.t 2)⟩,
  ⟨(some 7), none, .load none (.t 6)⟩,
  ⟨(some 8), none, .len 1 (.t 7)⟩,
  ⟨(some 9), none, .bin .lss (.t 5) (.t 8)⟩])
 (.cond (.t 9) (.seq (.reg [⟨(some 10), none, .faddr 2 (.t 2)⟩,
  ⟨(some 11), none, .load none (.t 10)⟩,
  ⟨(some 12), none, .mov (.t 1)⟩,
  ⟨(some 13), none, .iaddr 3 (.t 11) (.t 12)⟩,
  ⟨(some 14), none, .load (some 3) (.t 13)⟩,
  ⟨none, none, .store 3 (.t 4) (.t 14)⟩])
 .ret)
 .skip))
 (.seq (.reg [⟨(some 15), none, .build [(.int .i64 0), (.str []), (.sl .clip [])] []⟩,
  ⟨none, none, .store 3 (.t 4) (.t 15)⟩])
 .ret))),
  [.cell 4 (some 3)], false, true, 16⟩
theorem co54 : compF Try.prog ⟨[], [], []⟩ false true Try.f54 = some ac54 := by kernel_rfl

/-- paideia/printer.Arg -/
def ac55 : AF := ⟨(.seq (.reg [⟨(some 1), none, .box (.t 0) 3 false⟩,
  ⟨(some 2), none, .mov (.c (.str []))⟩])
 (.seq (.seq (.reg [⟨(some 3), none, .faddr 0 (.t 1)⟩,
  ⟨(some 4), none, .load none (.t 3)⟩,
  ⟨(some 5), none, .bin .eql (.t 4) (.c (.int .i64 3))⟩,
  ⟨(some 6), none, .mov (.t 5)⟩,
  ⟨(some 7), (some (6, false)), .faddr 0 (.t 1)⟩,
  ⟨(some 8), (some (6, false)), .load none (.t 7)⟩,
  ⟨(some 9), (some (6, false)), .bin .eql (.t 8) (.c (.int .i64 4))⟩,
  ⟨(some 10), none, .pick (.t 6) (.c (.bool true)) (.t 9)⟩,
  ⟨(some 11), none, .mov (.t 10)⟩,
  ⟨(some 12), (some (11, false)), .faddr 0 (.t 1)⟩,
  ⟨(some 13), (some (11, false)), .load none (.t 12)⟩,
  ⟨(some 14), (some (11, false)), .bin .eql (.t 13) (.c (.int .i64 2))⟩,
  ⟨(some 15), (some (11, false)), .mov (.t 14)⟩,
  ⟨(some 16), (some (15, true)), .faddr 2 (.t 1)⟩,
  ⟨(some 17), (some (15, true)), .load none (.t 16)⟩,
  ⟨(some 18), (some (15, true)), .len 1 (.t 17)⟩,
  ⟨(some 19), (some (15, true)), .bin .gtr (.t 18) (.c (.int .i64 0))⟩,
  ⟨(some 20), (some (11, false)), .pick (.t 15) (.t 19) (.c (.bool false))⟩,
  ⟨(some 21), none, .pick (.t 11) (.c (.bool true)) (.t 20)⟩])
 (.cond (.t 21) (.seq (.reg [⟨(some 22), none, .load (some 3) (.t 1)⟩,
  ⟨(some 23), none, .call 0 [] (.c (.fn 23 [])) [(.t 22)]⟩,
  ⟨(some 24), none, .bin .add (.c (.str [40])) (.t 23)⟩,
  ⟨(some 25), none, .bin .add (.t 24) (.c (.str [41]))⟩,
  ⟨(some 2), none, .mov (.t 25)⟩])
 .ret)
 .skip))
 (.seq (.reg [⟨(some 26), none, .load (some 3) (.t 1)⟩,
  ⟨(some 27), none, .call 0 [] (.c (.fn 23 [])) [(.t 26)]⟩,
  ⟨(some 2), none, .mov (.t 27)⟩])
 .ret))),
  [.t 2], false, true, 28⟩
theorem co55 : compF Try.prog ⟨[], [], []⟩ false true Try.f55 = some ac55 := by kernel_rfl

/-- paideia/paideiaref.SameTypes -/
def ac56 : AF := ⟨(.seq (.reg [⟨(some 4), none, .mov (.c (.bool false))⟩])
 (.seq (.seq (.reg [⟨(some 7), none, .mov (.t 0)⟩,
  ⟨(some 8), none, .len 1 (.t 7)⟩,
  ⟨(some 9), none, .mov (.t 1)⟩,
  ⟨(some 10), none, .len 1 (.t 9)⟩,
  ⟨(some 11), none, .bin .neq (.t 8) (.t 10)⟩])
 (.cond (.t 11) (.seq (.reg [⟨(some 4), none, .mov (.c (.bool false))⟩])
 .ret)
 .skip))
 (.seq (.seq (.reg [⟨(some 5), none, .mov (.c (.int .i64 0))⟩])
 (.block 0 (.loop [0, 1, 5] [] (.seq (.seq (.reg [⟨(some 12), none, .mov (.t 5)⟩,
  ⟨(some 13), none, .mov (.t 0)⟩,
  ⟨(some 14), none, .len 1 (.t 13)⟩,
  ⟨(some 15), none, .bin .lss (.t 12) (.t 14)⟩])
 (.cond (.t 15) .skip
 (.exit 0)))
 (.seq (.block 1 (.seq (.reg [⟨(some 18), none, .mov (.t 0)⟩,
  ⟨(some 19), none, .mov (.t 5)⟩,
  ⟨(some 20), none, .iaddr 3 (.t 18) (.t 19)⟩,
  ⟨(some 21), none, .load (some 3) (.t 20)⟩,
  ⟨(some 22), none, .mov (.t 1)⟩,
  ⟨(some 23), none, .mov (.t 5)⟩,
  ⟨(some 24), none, .iaddr 3 (.t 22) (.t 23)⟩,
  ⟨(some 25), none, .load (some 3) (.t 24)⟩,
  ⟨(some 26), none, .call 0 [] (.c (.fn 24 [])) [(.t 21), (.t 25)]⟩,
  ⟨(some 6), none, .mov (.t 26)⟩])
 (.seq (.reg [⟨(some 27), none, .mov (.t 6)⟩,
  ⟨(some 28), none, .not (.t 27)⟩])
 (.cond (.t 28) (.seq (.reg [⟨(some 4), none, .mov (.c (.bool false))⟩])
 .ret)
 .skip))))
 (.reg [⟨(some 16), none, .mov (.t 5)⟩,
  ⟨(some 17), none, .bin .add (.t 16) (.c (.int .i64 1))⟩,
  ⟨(some 5), none, .mov (.t 17)⟩]))))))
 (.seq (.reg [⟨(some 4), none, .mov (.c (.bool true))⟩])
 .ret)))),
  [.t 4], false, true, 29⟩
theorem co56 : compF Try.prog ⟨[], [(4, [0, 1, 5], [])], []⟩ false true Try.f56 = some ac56 := by kernel_rfl

/-- paideia/printer.context -/
def ac57 : AF := ⟨(.seq (.reg [⟨(some 2), none, .mov (.c (.str []))⟩])
 (.seq (.reg [⟨(some 4), none, .mov (.t 0)⟩,
  ⟨(some 5), none, .call 0 [] (.c (.fn 76 [])) [(.t 4), (.c (.str [44, 32])), (.c (.fn 77 []))]⟩,
  ⟨(some 3), none, .mov (.t 5)⟩])
 (.seq (.seq (.reg [⟨(some 6), none, .mov (.t 0)⟩,
  ⟨(some 7), none, .len 1 (.t 6)⟩])
 (.block 0 (.seq (.reg [⟨(some 9), none, .bin .eql (.t 7) (.c (.int .i64 0))⟩,
  ⟨(some 8), none, .mov (.t 9)⟩])
 (.cond (.t 8) (.seq (.reg [⟨(some 2), none, .mov (.c (.str []))⟩])
 .ret)
 (.seq (.reg [⟨(some 11), none, .bin .eql (.t 7) (.c (.int .i64 1))⟩,
  ⟨(some 10), none, .mov (.t 11)⟩])
 (.cond (.t 10) (.seq (.reg [⟨(some 12), none, .mov (.t 3)⟩,
  ⟨(some 13), none, .bin .add (.t 12) (.c (.str [32, 61, 62, 32]))⟩,
  ⟨(some 2), none, .mov (.t 13)⟩])
 .ret)
 .skip))))))
 (.seq (.reg [⟨(some 14), none, .mov (.t 3)⟩,
  ⟨(some 15), none, .bin .add (.c (.str [40])) (.t 14)⟩,
  ⟨(some 16), none, .bin .add (.t 15) (.c (.str [41, 32, 61, 62, 32]))⟩,
  ⟨(some 2), none, .mov (.t 16)⟩])
 .ret)))),
  [.t 2], false, true, 17⟩
theorem co57 : compF Try.prog ⟨[], [], []⟩ false true Try.f57 = some ac57 := by kernel_rfl

/-- paideia/paideiaref.SamePreds -/
def ac58 : AF := ⟨(.seq (.reg [⟨(some 4), none, .mov (.c (.bool false))⟩])
 (.seq (.seq (.reg [⟨(some 7), none, .mov (.t 0)⟩,
  ⟨(some 8), none, .len 1 (.t 7)⟩,
  ⟨(some 9), none, .mov (.t 1)⟩,
  ⟨(some 10), none, .len 1 (.t 9)⟩,
  ⟨(some 11), none, .bin .neq (.t 8) (.t 10)⟩])
 (.cond (.t 11) (.seq (.reg [⟨(some 4), none, .mov (.c (.bool false))⟩])
 .ret)
 .skip))
 (.seq (.seq (.reg [⟨(some 5), none, .mov (.c (.int .i64 0))⟩])
 (.block 0 (.loop [0, 1, 5] [] (.seq (.seq (.reg [⟨(some 12), none, .mov (.t 5)⟩,
  ⟨(some 13), none, .mov (.t 0)⟩,
  ⟨(some 14), none, .len 1 (.t 13)⟩,
  ⟨(some 15), none, .bin .lss (.t 12) (.t 14)⟩])
 (.cond (.t 15) .skip
 (.exit 0)))
 (.seq (.block 1 (.seq (.reg [⟨(some 18), none, .mov (.t 0)⟩,
  ⟨(some 19), none, .mov (.t 5)⟩,
  ⟨(some 20), none, .iaddr 4 (.t 18) (.t 19)⟩,
  ⟨(some 21), none, .load (some 4) (.t 20)⟩,
  ⟨(some 22), none, .mov (.t 1)⟩,
  ⟨(some 23), none, .mov (.t 5)⟩,
  ⟨(some 24), none, .iaddr 4 (.t 22) (.t 23)⟩,
  ⟨(some 25), none, .load (some 4) (.t 24)⟩,
  ⟨(some 26), none, .call 0 [] (.c (.fn 78 [])) [(.t 21), (.t 25)]⟩,
  ⟨(some 6), none, .mov (.t 26)⟩])
 (.seq (.reg [⟨(some 27), none, .mov (.t 6)⟩,
  ⟨(some 28), none, .not (.t 27)⟩])
 (.cond (.t 28) (.seq (.reg [⟨(some 4), none, .mov (.c (.bool false))⟩])
 .ret)
 .skip))))
 (.reg [⟨(some 16), none, .mov (.t 5)⟩,
  ⟨(some 17), none, .bin .add (.t 16) (.c (.int .i64 1))⟩,
  ⟨(some 5), none, .mov (.t 17)⟩]))))))
 (.seq (.reg [⟨(some 4), none, .mov (.c (.bool true))⟩])
 .ret)))),
  [.t 4], false, true, 29⟩
theorem co58 : compF Try.prog ⟨[], [(4, [0, 1, 5], [])], []⟩ false true Try.f58 = some ac58 := by kernel_rfl

/-- paideia/paideiaref4.get -/
def ac59 : AF := ⟨(.seq (.reg [⟨(some 4), none, .alloc [(.int .i64 0), (.str []), (.sl .clip [])] false⟩,
  ⟨(some 5), none, .mov (.c (.bool false))⟩])
 (.seq (.seq (.reg [⟨(some 6), none, .mov (.c (.int .i64 0))⟩])
 (.block 0 (.loop [0, 1, 6] [4] (.seq (.seq (.reg [⟨(some 7), none, .mov (.t 6)⟩,
  ⟨(some 8), none, .mov (.t 0)⟩,
  ⟨(some 9), none, .len 1 (.t 8)⟩,
  ⟨(some 10), none, .bin .lss (.t 7) (.t 9)⟩])
 (.cond (.t 10) .skip
 (.exit 0)))
 (.seq (.block 1 (.seq (.reg [⟨(some 13), none, .mov (.t 0)⟩,
  ⟨(some 14), none, .mov (.t 6)⟩,
  ⟨(some 15), none, .iaddr 4 (.t 13) (.t 14)⟩,
  ⟨(some 16), none, .faddr 0 (.t 15)⟩,
  ⟨(some 17), none, .load none (.t 16)⟩,
  ⟨(some 18), none, .mov (.t 1)⟩,
  ⟨(some 19), none, .bin .eql (.t 17) (.t 18)⟩])
 (.cond (.t 19) (.seq (.reg [⟨(some 20), none, .mov (.t 0)⟩,
  ⟨(some 21), none, .mov (.t 6)⟩,
  ⟨(some 22), none, .iaddr 4 (.t 20) (.t 21)⟩,
  ⟨(some 23), none, .faddr 1 (.t 22)⟩,
  ⟨(some 24), none, .load (some 3) (.t 23)⟩,
  ⟨none, none, .store 3 (.t 4) (.t 24)⟩,
  ⟨(some 5), none, .mov (.c (.bool true))⟩])
 .ret)
 .skip)))
 (.reg [⟨(some 11), none, .mov (.t 6)⟩,
  ⟨(some 12), none, .bin .add (.t 11) (.c (.int .i64 1))⟩,
  ⟨(some 6), none, .mov (.t 12)⟩]))))))
 (.seq (.reg [⟨(some 25), none, .build [(.int .i64 0), (.str []), (.sl .clip [])] []⟩,
  ⟨none, none, .store 3 (.t 4) (.t 25)⟩,
  ⟨(some 5), none, .mov (.c (.bool false))⟩])
 .ret))),
  [.cell 4 (some 3), .t 5], false, true, 26⟩
theorem co59 : compF Try.prog ⟨[], [(2, [0, 1, 6], [4])], []⟩ false true Try.f59 = some ac59 := by kernel_rfl

/-- paideia/match.fits -/
def ac60 : AF := ⟨(.seq (.reg [⟨(some 3), none, .box (.t 0) 3 false⟩,
  ⟨(some 4), none, .box (.t 1) 3 false⟩,
  ⟨(some 6), none, .mov (.c (.bool false))⟩])
 (.seq (.seq (.reg [⟨(some 10), none, .faddr 0 (.t 3)⟩,
  ⟨(some 11), none, .load none (.t 10)⟩,
  ⟨(some 12), none, .bin .eql (.t 11) (.c (.int .i64 1))⟩])
 (.cond (.t 12) (.seq (.reg [⟨(some 14), none, .mov (.t 2)⟩,
  ⟨(some 15), none, .faddr 1 (.t 3)⟩,
  ⟨(some 16), none, .load none (.t 15)⟩,
  ⟨(some 17), none, .lookup .str (.agg [(.int .i64 0), (.str []), (.sl .clip [])]) (.t 14) (.t 16) true⟩,
  ⟨(some 13), none, .mov (.t 17)⟩,
  ⟨(some 18), none, .extract (.t 13) 0⟩,
  ⟨(some 19), none, .extract (.t 13) 1⟩,
  ⟨(some 7), none, .alloc [(.int .i64 0), (.str []), (.sl .clip [])] false⟩,
  ⟨none, none, .store 3 (.t 7) (.t 18)⟩,
  ⟨(some 8), none, .mov (.t 19)⟩])
 (.seq (.seq (.reg [⟨(some 20), none, .mov (.t 8)⟩,
  ⟨(some 21), none, .not (.t 20)⟩])
 (.cond (.t 21) (.seq (.reg [⟨(some 22), none, .mov (.t 2)⟩,
  ⟨(some 23), none, .faddr 1 (.t 3)⟩,
  ⟨(some 24), none, .load none (.t 23)⟩,
  ⟨(some 25), none, .load (some 3) (.t 4)⟩,
  ⟨none, none, .mapset .str (.t 22) (.t 24) (.t 25)⟩])
 (.seq (.reg [⟨(some 6), none, .mov (.c (.bool true))⟩])
 .ret))
 .skip))
 (.seq (.reg [⟨(some 26), none, .load (some 3) (.t 7)⟩,
  ⟨(some 27), none, .load (some 3) (.t 4)⟩,
  ⟨(some 28), none, .call 0 [] (.c (.fn 20 [])) [(.t 26), (.t 27)]⟩,
  ⟨(some 6), none, .mov (.t 28)⟩])
 .ret)))
 .skip))
 (.seq (.seq (.reg [⟨(some 29), none, .faddr 0 (.t 3)⟩,
  ⟨(some 30), none, .load none (.t 29)⟩,
  ⟨(some 31), none, .faddr 0 (.t 4)⟩,
  ⟨(some 32), none, .load none (.t 31)⟩,
  ⟨(some 33), none, .bin .neq (.t 30) (.t 32)⟩,
  ⟨(some 34), none, .mov (.t 33)⟩,
  ⟨(some 35), (some (34, false)), .faddr 1 (.t 3)⟩,
  ⟨(some 36), (some (34, false)), .load none (.t 35)⟩,
  ⟨(some 37), (some (34, false)), .faddr 1 (.t 4)⟩,
  ⟨(some 38), (some (34, false)), .load none (.t 37)⟩,
  ⟨(some 39), (some (34, false)), .bin .neq (.t 36) (.t 38)⟩,
  ⟨(some 40), none, .pick (.t 34) (.c (.bool true)) (.t 39)⟩,
  ⟨(some 41), none, .mov (.t 40)⟩,
  ⟨(some 42), (some (41, false)), .faddr 2 (.t 3)⟩,
  ⟨(some 43), (some (41, false)), .load none (.t 42)⟩,
  ⟨(some 44), (some (41, false)), .len 1 (.t 43)⟩,
  ⟨(some 45), (some (41, false)), .faddr 2 (.t 4)⟩,
  ⟨(some 46), (some (41, false)), .load none (.t 45)⟩,
  ⟨(some 47), (some (41, false)), .len 1 (.t 46)⟩,
  ⟨(some 48), (some (41, false)), .bin .neq (.t 44) (.t 47)⟩,
  ⟨(some 49), none, .pick (.t 41) (.c (.bool true)) (.t 48)⟩])
 (.cond (.t 49) (.seq (.reg [⟨(some 6), none, .mov (.c (.bool false))⟩])
 .ret)
 .skip))
 (.seq (.seq (.reg [⟨(some 50), none, .faddr 2 (.t 3)⟩,
  ⟨(some 51), none, .load none (.t 50)⟩,
  ⟨(some 52), none, .len 1 (.t 51)⟩,
  ⟨(some 53), none, .mov (.c (.int .i64 0))⟩])
 (.block 0 (.loop [2, 52, 53] [3, 4] (.seq (.reg [⟨(some 54), none, .bin .lss (.t 53) (.t 52)⟩])
 (.seq (.cond (.t 54) .skip
 (.exit 0))
 (.seq (.block 1 (.seq (.reg [⟨(some 55), none, .mov (.t 53)⟩,
  ⟨(some 9), none, .mov (.t 55)⟩])
 (.seq (.reg [⟨(some 56), none, .faddr 2 (.t 3)⟩,
  ⟨(some 57), none, .load none (.t 56)⟩,
  ⟨(some 58), none, .mov (.t 9)⟩,
  ⟨(some 59), none, .iaddr 3 (.t 57) (.t 58)⟩,
  ⟨(some 60), none, .load (some 3) (.t 59)⟩,
  ⟨(some 61), none, .faddr 2 (.t 4)⟩,
  ⟨(some 62), none, .load none (.t 61)⟩,
  ⟨(some 63), none, .mov (.t 9)⟩,
  ⟨(some 64), none, .iaddr 3 (.t 62) (.t 63)⟩,
  ⟨(some 65), none, .load (some 3) (.t 64)⟩,
  ⟨(some 66), none, .mov (.t 2)⟩,
  ⟨(some 67), none, .call 0 [] (.c (.fn 60 [])) [(.t 60), (.t 65), (.t 66)]⟩,
  ⟨(some 68), none, .not (.t 67)⟩])
 (.cond (.t 68) (.seq (.reg [⟨(some 6), none, .mov (.c (.bool false))⟩])
 .ret)
 .skip))))
 (.reg [⟨(some 69), none, .bin .add (.t 53) (.c (.int .i64 1))⟩,
  ⟨(some 53), none, .mov (.t 69)⟩])))))))
 (.seq (.reg [⟨(some 6), none, .mov (.c (.bool true))⟩])
 .ret))))),
  [.t 6], false, false, 70⟩
theorem co60 : compF Try.prog ⟨[], [(10, [2, 52, 53], [3, 4])], []⟩ false false Try.f60 = some ac60 := by kernel_rfl

/-- paideia/subst.Of -/
def ac61 : AF := ⟨(.seq (.reg [⟨(some 2), none, .alloc [(.map none)] false⟩])
 (.seq (.reg [⟨(some 7), none, .mkmap⟩,
  ⟨(some 8), none, .build [(.map none)] [(0, 1, (.t 7))]⟩,
  ⟨(some 3), none, .alloc [(.map none)] false⟩,
  ⟨none, none, .store 1 (.t 3) (.t 8)⟩])
 (.seq (.reg [⟨(some 9), none, .mkmap⟩,
  ⟨(some 4), none, .mov (.t 9)⟩])
 (.seq (.seq (.reg [⟨(some 10), none, .mov (.t 0)⟩,
  ⟨(some 11), none, .len 1 (.t 10)⟩,
  ⟨(some 12), none, .mov (.c (.int .i64 0))⟩])
 (.block 0 (.loop [4, 10, 11, 12] [2, 3] (.seq (.reg [⟨(some 13), none, .bin .lss (.t 12) (.t 11)⟩])
 (.seq (.cond (.t 13) .skip
 (.exit 0))
 (.seq (.block 1 (.seq (.reg [⟨(some 14), none, .iaddr 4 (.t 10) (.t 12)⟩,
  ⟨(some 15), none, .load (some 4) (.t 14)⟩,
  ⟨(some 6), none, .alloc [(.str []), (.int .i64 0), (.str []), (.sl .clip [])] false⟩,
  ⟨none, none, .store 4 (.t 6) (.t 15)⟩])
 (.seq (.reg [⟨(some 16), none, .mov (.t 4)⟩,
  ⟨(some 17), none, .faddr 0 (.t 6)⟩,
  ⟨(some 18), none, .load none (.t 17)⟩,
  ⟨(some 19), none, .lookup .str (.bool false) (.t 16) (.t 18) false⟩,
  ⟨(some 20), none, .not (.t 19)⟩])
 (.cond (.t 20) (.seq (.reg [⟨(some 21), none, .mov (.t 4)⟩,
  ⟨(some 22), none, .faddr 0 (.t 6)⟩,
  ⟨(some 23), none, .load none (.t 22)⟩,
  ⟨none, none, .mapset .str (.t 21) (.t 23) (.c (.bool true))⟩])
 (.reg [⟨(some 24), none, .load (some 1) (.t 3)⟩,
  ⟨(some 25), none, .faddr 0 (.t 6)⟩,
  ⟨(some 26), none, .load none (.t 25)⟩,
  ⟨(some 27), none, .faddr 1 (.t 6)⟩,
  ⟨(some 28), none, .load (some 3) (.t 27)⟩,
  ⟨(some 29), none, .call 0 [] (.c (.fn 79 [])) [(.t 24), (.t 26), (.t 28)]⟩]))
 .skip))))
 (.reg [⟨(some 30), none, .bin .add (.t 12) (.c (.int .i64 1))⟩,
  ⟨(some 12), none, .mov (.t 30)⟩])))))))
 (.seq (.reg [⟨(some 31), none, .load (some 1) (.t 3)⟩,
  ⟨none, none, .store 1 (.t 2) (.t 31)⟩])
 .ret))))),
  [.cell 2 (some 1)], false, false, 32⟩
theorem co61 : compF Try.prog ⟨[], [(4, [4, 10, 11, 12], [2, 3])], []⟩ false false Try.f61 = some ac61 := by kernel_rfl

/-- paideia/types.Clone -/
def ac62 : AF := ⟨(.seq (.reg [⟨(some 1), none, .box (.t 0) 3 false⟩,
  ⟨(some 2), none, .alloc [(.int .i64 0), (.str []), (.sl .clip [])] false⟩])
 (.seq (.reg [⟨(some 6), none, .faddr 0 (.t 1)⟩,
  ⟨(some 7), none, .load none (.t 6)⟩,
  ⟨(some 8), none, .faddr 1 (.t 1)⟩,
  ⟨(some 9), none, .load none (.t 8)⟩,
  ⟨(some 10), none, .build [(.int .i64 0), (.str []), (.sl .clip [])] [(0, 1, (.t 7)), (1, 1, (.t 9))]⟩,
  ⟨(some 3), none, .alloc [(.int .i64 0), (.str []), (.sl .clip [])] false⟩,
  ⟨none, none, .store 3 (.t 3) (.t 10)⟩])
 (.seq (.seq (.reg [⟨(some 11), none, .faddr 2 (.t 1)⟩,
  ⟨(some 12), none, .load none (.t 11)⟩,
  ⟨(some 13), none, .len 1 (.t 12)⟩,
  ⟨(some 14), none, .mov (.c (.int .i64 0))⟩])
 (.block 0 (.loop [12, 13, 14] [2, 3] (.seq (.reg [⟨(some 15), none, .bin .lss (.t 14) (.t 13)⟩])
 (.seq (.cond (.t 15) .skip
 (.exit 0))
 (.seq (.block 1 (.seq (.reg [⟨(some 16), none, .iaddr 3 (.t 12) (.t 14)⟩,
  ⟨(some 17), none, .load (some 3) (.t 16)⟩,
  ⟨(some 5), none, .alloc [(.int .i64 0), (.str []), (.sl .clip [])] false⟩,
  ⟨none, none, .store 3 (.t 5) (.t 17)⟩])
 (.reg [⟨(some 18), none, .faddr 2 (.t 3)⟩,
  ⟨(some 19), none, .loadL none (.t 18)⟩,
  ⟨(some 20), none, .load (some 3) (.t 5)⟩,
  ⟨(some 21), none, .call 0 [] (.c (.fn 62 [])) [(.t 20)]⟩,
  ⟨(some 22), none, .bslice [(.int .i64 0), (.str []), (.sl .clip [])] 1 [(0, (.t 21))]⟩,
  ⟨(some 23), none, .append 3 (.t 19) (.t 22)⟩,
  ⟨(some 24), none, .faddr 2 (.t 3)⟩,
  ⟨none, none, .store 1 (.t 24) (.t 23)⟩])))
 (.reg [⟨(some 25), none, .bin .add (.t 14) (.c (.int .i64 1))⟩,
  ⟨(some 14), none, .mov (.t 25)⟩])))))))
 (.seq (.reg [⟨(some 26), none, .load (some 3) (.t 3)⟩,
  ⟨none, none, .store 3 (.t 2) (.t 26)⟩])
 .ret)))),
  [.cell 2 (some 3)], false, true, 27⟩
theorem co62 : compF Try.prog ⟨[], [(3, [12, 13, 14], [2, 3])], []⟩ false true Try.f62 = some ac62 := by kernel_rfl

/-- paideia/paideiaref4.match -/
def ac63 : AF := ⟨(.seq (.reg [⟨(some 4), none, .box (.t 1) 3 false⟩,
  ⟨(some 5), none, .box (.t 2) 3 false⟩,
  ⟨(some 6), none, .mov (.c (.sl .clip []))⟩,
  ⟨(some 7), none, .mov (.c (.bool false))⟩])
 (.seq (.seq (.reg [⟨(some 12), none, .faddr 0 (.t 4)⟩,
  ⟨(some 13), none, .load none (.t 12)⟩,
  ⟨(some 14), none, .bin .eql (.t 13) (.c (.int .i64 1))⟩])
 (.cond (.t 14) (.seq (.reg [⟨(some 16), none, .mov (.t 0)⟩,
  ⟨(some 17), none, .faddr 1 (.t 4)⟩,
  ⟨(some 18), none, .load none (.t 17)⟩,
  ⟨(some 19), none, .call 0 [] (.c (.fn 59 [])) [(.t 16), (.t 18)]⟩,
  ⟨(some 15), none, .mov (.t 19)⟩,
  ⟨(some 20), none, .extract (.t 15) 0⟩,
  ⟨(some 21), none, .extract (.t 15) 1⟩,
  ⟨(some 8), none, .alloc [(.int .i64 0), (.str []), (.sl .clip [])] false⟩,
  ⟨none, none, .store 3 (.t 8) (.t 20)⟩,
  ⟨(some 9), none, .mov (.t 21)⟩])
 (.seq (.seq (.reg [⟨(some 22), none, .mov (.t 9)⟩])
 (.cond (.t 22) (.seq (.reg [⟨(some 23), none, .mov (.t 0)⟩,
  ⟨(some 24), none, .load (some 3) (.t 8)⟩,
  ⟨(some 25), none, .load (some 3) (.t 5)⟩,
  ⟨(some 26), none, .call 0 [] (.c (.fn 24 [])) [(.t 24), (.t 25)]⟩,
  ⟨(some 6), none, .mov (.t 23)⟩,
  ⟨(some 7), none, .mov (.t 26)⟩])
 .ret)
 .skip))
 (.seq (.reg [⟨(some 27), none, .bslice [(.str []), (.int .i64 0), (.str []), (.sl .clip [])] 0 []⟩,
  ⟨(some 28), none, .mov (.t 0)⟩,
  ⟨(some 29), none, .append 4 (.t 27) (.t 28)⟩,
  ⟨(some 30), none, .faddr 1 (.t 4)⟩,
  ⟨(some 31), none, .loadL none (.t 30)⟩,
  ⟨(some 32), none, .loadL (some 3) (.t 5)⟩,
  ⟨(some 33), none, .build [(.str []), (.int .i64 0), (.str []), (.sl .clip [])] [(0, 1, (.t 31)), (1, 3, (.t 32))]⟩,
  ⟨(some 34), none, .bslice [(.str []), (.int .i64 0), (.str []), (.sl .clip [])] 1 [(0, (.t 33))]⟩,
  ⟨(some 35), none, .append 4 (.t 29) (.t 34)⟩,
  ⟨(some 6), none, .mov (.t 35)⟩,
  ⟨(some 7), none, .mov (.c (.bool true))⟩])
 .ret)))
 .skip))
 (.seq (.seq (.reg [⟨(some 36), none, .faddr 0 (.t 4)⟩,
  ⟨(some 37), none, .load none (.t 36)⟩,
  ⟨(some 38), none, .faddr 0 (.t 5)⟩,
  ⟨(some 39), none, .load none (.t 38)⟩,
  ⟨(some 40), none, .bin .neq (.t 37) (.t 39)⟩,
  ⟨(some 41), none, .mov (.t 40)⟩,
  ⟨(some 42), (some (41, false)), .faddr 1 (.t 4)⟩,
  ⟨(some 43), (some (41, false)), .load none (.t 42)⟩,
  ⟨(some 44), (some (41, false)), .faddr 1 (.t 5)⟩,
  ⟨(some 45), (some (41, false)), .load none (.t 44)⟩,
  ⟨(some 46), (some (41, false)), .bin .neq (.t 43) (.t 45)⟩,
  ⟨(some 47), none, .pick (.t 41) (.c (.bool true)) (.t 46)⟩,
  ⟨(some 48), none, .mov (.t 47)⟩,
  ⟨(some 49), (some (48, false)), .faddr 2 (.t 4)⟩,
  ⟨(some 50), (some (48, false)), .load none (.t 49)⟩,
  ⟨(some 51), (some (48, false)), .len 1 (.t 50)⟩,
  ⟨(some 52), (some (48, false)), .faddr 2 (.t 5)⟩,
  ⟨(some 53), (some (48, false)), .load none (.t 52)⟩,
  ⟨(some 54), (some (48, false)), .len 1 (.t 53)⟩,
  ⟨(some 55), (some (48, false)), .bin .neq (.t 51) (.t 54)⟩,
  ⟨(some 56), none, .pick (.t 48) (.c (.bool true)) (.t 55)⟩])
 (.cond (.t 56) (.seq (.reg [⟨(some 6), none, .mov (.c (.sl .clip []))⟩,
  ⟨(some 7), none, .mov (.c (.bool false))⟩])
 .ret)
 .skip))
 (.seq (.reg [⟨(some 10), none, .mov (.c (.bool true))⟩])
 (.seq (.seq (.reg [⟨(some 11), none, .mov (.c (.int .i64 0))⟩])
 (.block 0 (.loop [0, 10, 11] [4, 5] (.seq (.seq (.reg [⟨(some 57), none, .mov (.t 11)⟩,
  ⟨(some 58), none, .faddr 2 (.t 4)⟩,
  ⟨(some 59), none, .load none (.t 58)⟩,
  ⟨(some 60), none, .len 1 (.t 59)⟩,
  ⟨(some 61), none, .bin .lss (.t 57) (.t 60)⟩,
  ⟨(some 62), none, .mov (.t 61)⟩,
  ⟨(some 63), (some (62, true)), .mov (.t 10)⟩,
  ⟨(some 64), none, .pick (.t 62) (.t 63) (.c (.bool false))⟩])
 (.cond (.t 64) .skip
 (.exit 0)))
 (.seq (.block 1 (.reg [⟨(some 68), none, .mov (.t 0)⟩,
  ⟨(some 69), none, .faddr 2 (.t 4)⟩,
  ⟨(some 70), none, .load none (.t 69)⟩,
  ⟨(some 71), none, .mov (.t 11)⟩,
  ⟨(some 72), none, .iaddr 3 (.t 70) (.t 71)⟩,
  ⟨(some 73), none, .load (some 3) (.t 72)⟩,
  ⟨(some 74), none, .faddr 2 (.t 5)⟩,
  ⟨(some 75), none, .load none (.t 74)⟩,
  ⟨(some 76), none, .mov (.t 11)⟩,
  ⟨(some 77), none, .iaddr 3 (.t 75) (.t 76)⟩,
  ⟨(some 78), none, .load (some 3) (.t 77)⟩,
  ⟨(some 79), none, .call 0 [] (.c (.fn 63 [])) [(.t 68), (.t 73), (.t 78)]⟩,
  ⟨(some 67), none, .mov (.t 79)⟩,
  ⟨(some 80), none, .extract (.t 67) 0⟩,
  ⟨(some 81), none, .extract (.t 67) 1⟩,
  ⟨(some 0), none, .mov (.t 80)⟩,
  ⟨(some 10), none, .mov (.t 81)⟩]))
 (.reg [⟨(some 65), none, .mov (.t 11)⟩,
  ⟨(some 66), none, .bin .add (.t 65) (.c (.int .i64 1))⟩,
  ⟨(some 11), none, .mov (.t 66)⟩]))))))
 (.seq (.reg [⟨(some 82), none, .mov (.t 0)⟩,
  ⟨(some 83), none, .mov (.t 10)⟩,
  ⟨(some 6), none, .mov (.t 82)⟩,
  ⟨(some 7), none, .mov (.t 83)⟩])
 .ret)))))),
  [.t 6, .t 7], false, true, 84⟩
theorem co63 : compF Try.prog ⟨[], [(10, [0, 10, 11], [4, 5])], []⟩ false true Try.f63 = some ac63 := by kernel_rfl

/-- paideia/paideiaworld.Number -/
def ac64 : AF := ⟨(.seq (.reg [⟨(some 4), none, .mov (.c (.int .i64 0))⟩])
 (.seq (.reg [⟨(some 6), none, .mov (.t 0)⟩,
  ⟨(some 7), none, .mov (.t 1)⟩,
  ⟨(some 8), none, .bin .rem (.t 6) (.t 7)⟩,
  ⟨(some 5), none, .mov (.t 8)⟩])
 (.seq (.seq (.reg [⟨(some 9), none, .mov (.t 5)⟩,
  ⟨(some 10), none, .bin .lss (.t 9) (.c (.int .i64 0))⟩])
 (.cond (.t 10) (.reg [⟨(some 11), none, .mov (.t 5)⟩,
  ⟨(some 12), none, .mov (.t 1)⟩,
  ⟨(some 13), none, .bin .add (.t 11) (.t 12)⟩,
  ⟨(some 5), none, .mov (.t 13)⟩])
 .skip))
 (.seq (.reg [⟨(some 14), none, .mov (.t 5)⟩,
  ⟨(some 4), none, .mov (.t 14)⟩])
 .ret)))),
  [.t 4], false, true, 15⟩
theorem co64 : compF Try.prog ⟨[], [], []⟩ false true Try.f64 = some ac64 := by kernel_rfl

/-- (*paideia/term.free).with -/
def ac65 : AF := ⟨(.seq (.seq (.reg [⟨(some 10), none, .mov (.t 1)⟩,
  ⟨(some 11), none, .len 1 (.t 10)⟩,
  ⟨(some 12), none, .mov (.c (.int .i64 0))⟩])
 (.block 0 (.loop [0, 1, 2, 10, 11, 12] [] (.seq (.reg [⟨(some 13), none, .bin .lss (.t 12) (.t 11)⟩])
 (.seq (.cond (.t 13) .skip
 (.exit 0))
 (.seq (.block 1 (.seq (.reg [⟨(some 14), none, .iaddr 1 (.t 10) (.t 12)⟩,
  ⟨(some 15), none, .load none (.t 14)⟩,
  ⟨(some 7), none, .mov (.t 15)⟩])
 (.reg [⟨(some 16), none, .mov (.t 0)⟩,
  ⟨(some 17), none, .nilck (.t 16)⟩,
  ⟨(some 18), none, .faddr 0 (.t 17)⟩,
  ⟨(some 19), none, .load none (.t 18)⟩,
  ⟨(some 20), none, .mov (.t 7)⟩,
  ⟨(some 21), none, .lookup .str (.int .i64 0) (.t 19) (.t 20) false⟩,
  ⟨(some 22), none, .bin .add (.t 21) (.c (.int .i64 1))⟩,
  ⟨none, none, .mapset .str (.t 19) (.t 20) (.t 22)⟩])))
 (.reg [⟨(some 23), none, .bin .add (.t 12) (.c (.int .i64 1))⟩,
  ⟨(some 12), none, .mov (.t 23)⟩])))))))
 (.seq (.reg [⟨(some 24), none, .mov (.t 2)⟩,
  ⟨(some 25), none, .call 0 [] (.t 24) []⟩])
 (.seq (.reg [⟨(some 26), none, .mov (.t 1)⟩,
  ⟨(some 27), none, .len 1 (.t 26)⟩,
  ⟨(some 28), none, .mov (.c (.int .i64 0))⟩])
 (.block 2 (.loop [0, 26, 27, 28] [] (.seq (.reg [⟨(some 29), none, .bin .lss (.t 28) (.t 27)⟩])
 (.seq (.cond (.t 29) .skip
 (.exit 2))
 (.seq (.block 3 (.seq (.reg [⟨(some 30), none, .iaddr 1 (.t 26) (.t 28)⟩,
  ⟨(some 31), none, .load none (.t 30)⟩,
  ⟨(some 9), none, .mov (.t 31)⟩])
 (.reg [⟨(some 32), none, .mov (.t 0)⟩,
  ⟨(some 33), none, .nilck (.t 32)⟩,
  ⟨(some 34), none, .faddr 0 (.t 33)⟩,
  ⟨(some 35), none, .load none (.t 34)⟩,
  ⟨(some 36), none, .mov (.t 9)⟩,
  ⟨(some 37), none, .lookup .str (.int .i64 0) (.t 35) (.t 36) false⟩,
  ⟨(some 38), none, .bin .sub (.t 37) (.c (.int .i64 1))⟩,
  ⟨none, none, .mapset .str (.t 35) (.t 36) (.t 38)⟩])))
 (.reg [⟨(some 39), none, .bin .add (.t 28) (.c (.int .i64 1))⟩,
  ⟨(some 28), none, .mov (.t 39)⟩]))))))))),
  [], false, false, 40⟩
theorem co65 : compF Try.prog ⟨[], [(1, [0, 1, 2, 10, 11, 12], []), (7, [0, 26, 27, 28], [])], []⟩ false false Try.f65 = some ac65 := by kernel_rfl

/-- (*paideia/term.free).term$1 -/
def ac66 : AF := ⟨(.reg [⟨(some 2), none, .load none (.t 0)⟩,
  ⟨(some 3), none, .faddr 6 (.t 1)⟩,
  ⟨(some 4), none, .load none (.t 3)⟩,
  ⟨(some 5), none, .call 0 [] (.c (.fn 67 [])) [(.t 2), (.t 4)]⟩]),
  [], false, false, 6⟩
theorem co66 : compF Try.prog ⟨[], [], []⟩ false false Try.f66 = some ac66 := by kernel_rfl

/-- (*paideia/term.free).all -/
def ac67 : AF := ⟨(.seq (.reg [⟨(some 6), none, .mov (.t 1)⟩,
  ⟨(some 7), none, .len 1 (.t 6)⟩,
  ⟨(some 8), none, .mov (.c (.int .i64 0))⟩])
 (.block 0 (.loop [0, 6, 7, 8] [] (.seq (.reg [⟨(some 9), none, .bin .lss (.t 8) (.t 7)⟩])
 (.seq (.cond (.t 9) .skip
 (.exit 0))
 (.seq (.block 1 (.seq (.reg [⟨(some 10), none, .iaddr 9 (.t 6) (.t 8)⟩,
  ⟨(some 11), none, .load (some 9) (.t 10)⟩,
  ⟨(some 5), none, .alloc [(.int .i64 0), (.str []), (.int .i64 0), (.int .i64 0), (.str []), (.sl .clip []), (.sl .clip []), (.sl .clip []), (.sl .clip [])] false⟩,
  ⟨none, none, .store 9 (.t 5) (.t 11)⟩])
 (.reg [⟨(some 12), none, .mov (.t 0)⟩,
  ⟨(some 13), none, .load (some 9) (.t 5)⟩,
  ⟨(some 14), none, .call 0 [] (.c (.fn 41 [])) [(.t 12), (.t 13)]⟩])))
 (.reg [⟨(some 15), none, .bin .add (.t 8) (.c (.int .i64 1))⟩,
  ⟨(some 8), none, .mov (.t 15)⟩]))))))),
  [], false, false, 16⟩
theorem co67 : compF Try.prog ⟨[], [(1, [0, 6, 7, 8], [])], []⟩ false false Try.f67 = some ac67 := by kernel_rfl

/-- (*paideia/term.free).term$2 -/
def ac68 : AF := ⟨(.seq (.seq (.reg [⟨(some 4), none, .faddr 8 (.t 0)⟩,
  ⟨(some 5), none, .load none (.t 4)⟩,
  ⟨(some 6), none, .len 1 (.t 5)⟩,
  ⟨(some 7), none, .mov (.c (.int .i64 0))⟩])
 (.block 0 (.loop [0, 1, 5, 6, 7] [] (.seq (.reg [⟨(some 8), none, .bin .lss (.t 7) (.t 6)⟩])
 (.seq (.cond (.t 8) .skip
 (.exit 0))
 (.seq (.block 1 (.seq (.reg [⟨(some 9), none, .iaddr 13 (.t 5) (.t 7)⟩,
  ⟨(some 10), none, .load (some 13) (.t 9)⟩,
  ⟨(some 3), none, .alloc [(.str []), (.int .i64 0), (.str []), (.sl .clip []), (.int .i64 0), (.str []), (.int .i64 0), (.int .i64 0), (.str []), (.sl .clip []), (.sl .clip []), (.sl .clip []), (.sl .clip [])] false⟩,
  ⟨none, none, .store 13 (.t 3) (.t 10)⟩])
 (.reg [⟨(some 11), none, .load none (.t 1)⟩,
  ⟨(some 12), none, .faddr 4 (.t 3)⟩,
  ⟨(some 13), none, .load (some 9) (.t 12)⟩,
  ⟨(some 14), none, .call 0 [] (.c (.fn 41 [])) [(.t 11), (.t 13)]⟩])))
 (.reg [⟨(some 15), none, .bin .add (.t 7) (.c (.int .i64 1))⟩,
  ⟨(some 7), none, .mov (.t 15)⟩])))))))
 (.reg [⟨(some 16), none, .load none (.t 1)⟩,
  ⟨(some 17), none, .faddr 6 (.t 0)⟩,
  ⟨(some 18), none, .load none (.t 17)⟩,
  ⟨(some 19), none, .call 0 [] (.c (.fn 67 [])) [(.t 16), (.t 18)]⟩])),
  [], false, false, 20⟩
theorem co68 : compF Try.prog ⟨[], [(1, [0, 1, 5, 6, 7], [])], []⟩ false false Try.f68 = some ac68 := by kernel_rfl

/-- paideia/term.Bound -/
def ac69 : AF := ⟨(.seq (.reg [⟨(some 2), none, .mov (.c (.sl .clip []))⟩])
 (.seq (.reg [⟨(some 3), none, .mov (.c (.sl .clip []))⟩])
 (.seq (.seq (.reg [⟨(some 6), none, .mov (.t 0)⟩,
  ⟨(some 7), none, .len 1 (.t 6)⟩,
  ⟨(some 8), none, .mov (.c (.int .i64 0))⟩])
 (.block 0 (.loop [3, 6, 7, 8] [] (.seq (.reg [⟨(some 9), none, .bin .lss (.t 8) (.t 7)⟩])
 (.seq (.cond (.t 9) .skip
 (.exit 0))
 (.seq (.block 1 (.seq (.reg [⟨(some 10), none, .iaddr 1 (.t 6) (.t 8)⟩,
  ⟨(some 11), none, .load none (.t 10)⟩,
  ⟨(some 5), none, .mov (.t 11)⟩])
 (.seq (.reg [⟨(some 12), none, .mov (.t 5)⟩,
  ⟨(some 13), none, .bin .neq (.t 12) (.c (.str [95]))⟩])
 (.cond (.t 13) (.reg [⟨(some 14), none, .mov (.t 3)⟩,
  ⟨(some 15), none, .mov (.t 5)⟩,
  ⟨(some 16), none, .bslice [(.str [])] 1 [(0, (.t 15))]⟩,
  ⟨(some 17), none, .append 1 (.t 14) (.t 16)⟩,
  ⟨(some 3), none, .mov (.t 17)⟩])
 .skip))))
 (.reg [⟨(some 18), none, .bin .add (.t 8) (.c (.int .i64 1))⟩,
  ⟨(some 8), none, .mov (.t 18)⟩])))))))
 (.seq (.reg [⟨(some 19), none, .mov (.t 3)⟩,
  ⟨(some 2), none, .mov (.t 19)⟩])
 .ret)))),
  [.t 2], false, true, 20⟩
theorem co69 : compF Try.prog ⟨[], [(3, [3, 6, 7, 8], [])], []⟩ false true Try.f69 = some ac69 := by kernel_rfl

/-- (*paideia/term.free).term$3 -/
def ac70 : AF := ⟨(.reg [⟨(some 2), none, .load none (.t 0)⟩,
  ⟨(some 3), none, .faddr 2 (.t 1)⟩,
  ⟨(some 4), none, .load (some 9) (.t 3)⟩,
  ⟨(some 5), none, .call 0 [] (.c (.fn 41 [])) [(.t 2), (.t 4)]⟩]),
  [], false, false, 6⟩
theorem co70 : compF Try.prog ⟨[], [], []⟩ false false Try.f70 = some ac70 := by kernel_rfl

/-- cmp.isNaN[int] -/
def ac73 : AF := ⟨(.seq (.reg [⟨(some 2), none, .mov (.c (.bool false))⟩])
 (.seq (.reg [⟨(some 3), none, .mov (.t 0)⟩,
  ⟨(some 4), none, .mov (.t 0)⟩,
  ⟨(some 5), none, .bin .neq (.t 3) (.t 4)⟩,
  ⟨(some 2), none, .mov (.t 5)⟩])
 .ret)),
  [.t 2], false, true, 6⟩
theorem co73 : compF Try.prog ⟨[], [], []⟩ false true Try.f73 = some ac73 := by kernel_rfl

/-- internal/bytealg.CompareString -/
def ac74 : AF := ⟨(.seq (.reg [⟨(some 4), none, .mov (.c (.int .i64 0))⟩])
 (.seq (.reg [⟨(some 5), none, .mov (.t 0)⟩,
  ⟨(some 6), none, .mov (.t 1)⟩,
  ⟨(some 7), none, .call 0 [] (.c (.fn 83 [])) [(.t 5), (.t 6)]⟩,
  ⟨(some 4), none, .mov (.t 7)⟩])
 .ret)),
  [.t 4], false, true, 8⟩
theorem co74 : compF Try.prog ⟨[], [], []⟩ false true Try.f74 = some ac74 := by kernel_rfl

/-- paideia/paideiamake.Pred -/
def ac75 : AF := ⟨(.seq (.reg [⟨(some 4), none, .alloc [(.str []), (.int .i64 0), (.str []), (.sl .clip [])] false⟩])
 (.seq (.reg [⟨(some 6), none, .bslice [(.str [])] 4 [(0, (.c (.str [69, 113]))), (1, (.c (.str [79, 114, 100]))), (2, (.c (.str [83, 104, 111, 119]))), (3, (.c (.str [78, 117, 109])))]⟩,
  ⟨(some 7), none, .mov (.t 0)⟩,
  ⟨(some 8), none, .call 0 [] (.c (.fn 37 [])) [(.t 7), (.c (.int .i64 4))]⟩,
  ⟨(some 9), none, .iaddr 1 (.t 6) (.t 8)⟩,
  ⟨(some 10), none, .load none (.t 9)⟩,
  ⟨(some 5), none, .mov (.t 10)⟩])
 (.seq (.reg [⟨(some 11), none, .mov (.t 5)⟩,
  ⟨(some 12), none, .mov (.t 0)⟩,
  ⟨(some 13), none, .mov (.t 1)⟩,
  ⟨(some 14), none, .call 0 [] (.c (.fn 18 [])) [(.t 12), (.t 13)]⟩,
  ⟨(some 15), none, .build [(.str []), (.int .i64 0), (.str []), (.sl .clip [])] [(0, 1, (.t 11)), (1, 3, (.t 14))]⟩,
  ⟨none, none, .store 4 (.t 4) (.t 15)⟩])
 .ret))),
  [.cell 4 (some 4)], false, true, 16⟩
theorem co75 : compF Try.prog ⟨[], [], []⟩ false true Try.f75 = some ac75 := by kernel_rfl

/-- paideia/printer.joined[paideia/api.Pred] -/
def ac76 : AF := ⟨(.seq (.reg [⟨(some 6), none, .mov (.c (.str []))⟩])
 (.seq (.reg [⟨(some 7), none, .mov (.c (.sl .clip []))⟩])
 (.seq (.seq (.reg [⟨(some 10), none, .mov (.t 0)⟩,
  ⟨(some 11), none, .len 1 (.t 10)⟩,
  ⟨(some 12), none, .mov (.c (.int .i64 0))⟩])
 (.block 0 (.loop [1, 2, 7, 10, 11, 12] [] (.seq (.reg [⟨(some 13), none, .bin .lss (.t 12) (.t 11)⟩])
 (.seq (.cond (.t 13) .skip
 (.exit 0))
 (.seq (.block 1 (.seq (.reg [⟨(some 14), none, .iaddr 4 (.t 10) (.t 12)⟩,
  ⟨(some 15), none, .load (some 4) (.t 14)⟩,
  ⟨(some 9), none, .alloc [(.str []), (.int .i64 0), (.str []), (.sl .clip [])] false⟩,
  ⟨none, none, .store 4 (.t 9) (.t 15)⟩])
 (.reg [⟨(some 16), none, .mov (.t 7)⟩,
  ⟨(some 17), none, .mov (.t 2)⟩,
  ⟨(some 18), none, .load (some 4) (.t 9)⟩,
  ⟨(some 19), none, .call 0 [] (.t 17) [(.t 18)]⟩,
  ⟨(some 20), none, .bslice [(.str [])] 1 [(0, (.t 19))]⟩,
  ⟨(some 21), none, .append 1 (.t 16) (.t 20)⟩,
  ⟨(some 7), none, .mov (.t 21)⟩])))
 (.reg [⟨(some 22), none, .bin .add (.t 12) (.c (.int .i64 1))⟩,
  ⟨(some 12), none, .mov (.t 22)⟩])))))))
 (.seq (.reg [⟨(some 23), none, .mov (.t 7)⟩,
  ⟨(some 24), none, .mov (.t 1)⟩,
  ⟨(some 25), none, .call 0 [] (.c (.fn 84 [])) [(.t 23), (.t 24)]⟩,
  ⟨(some 6), none, .mov (.t 25)⟩])
 .ret)))),
  [.t 6], false, true, 26⟩
theorem co76 : compF Try.prog ⟨[], [(3, [1, 2, 7, 10, 11, 12], [])], []⟩ false true Try.f76 = some ac76 := by kernel_rfl

/-- paideia/printer.context$1 -/
def ac77 : AF := ⟨(.seq (.reg [⟨(some 1), none, .box (.t 0) 4 false⟩,
  ⟨(some 2), none, .mov (.c (.str []))⟩])
 (.seq (.reg [⟨(some 3), none, .faddr 0 (.t 1)⟩,
  ⟨(some 4), none, .loadL none (.t 3)⟩,
  ⟨(some 5), none, .bin .add (.t 4) (.c (.str [32]))⟩,
  ⟨(some 6), none, .faddr 1 (.t 1)⟩,
  ⟨(some 7), none, .load (some 3) (.t 6)⟩,
  ⟨(some 8), none, .call 0 [] (.c (.fn 55 [])) [(.t 7)]⟩,
  ⟨(some 9), none, .bin .add (.t 5) (.t 8)⟩,
  ⟨(some 2), none, .mov (.t 9)⟩])
 .ret)),
  [.t 2], false, true, 10⟩
theorem co77 : compF Try.prog ⟨[], [], []⟩ false true Try.f77 = some ac77 := by kernel_rfl

/-- paideia/paideiaref.SamePred -/
def ac78 : AF := ⟨(.seq (.reg [⟨(some 2), none, .box (.t 0) 4 false⟩,
  ⟨(some 3), none, .box (.t 1) 4 false⟩,
  ⟨(some 4), none, .mov (.c (.bool false))⟩])
 (.seq (.reg [⟨(some 5), none, .faddr 0 (.t 2)⟩,
  ⟨(some 6), none, .load none (.t 5)⟩,
  ⟨(some 7), none, .faddr 0 (.t 3)⟩,
  ⟨(some 8), none, .load none (.t 7)⟩,
  ⟨(some 9), none, .bin .eql (.t 6) (.t 8)⟩,
  ⟨(some 10), none, .mov (.t 9)⟩,
  ⟨(some 11), (some (10, true)), .faddr 1 (.t 2)⟩,
  ⟨(some 12), (some (10, true)), .load (some 3) (.t 11)⟩,
  ⟨(some 13), (some (10, true)), .faddr 1 (.t 3)⟩,
  ⟨(some 14), (some (10, true)), .load (some 3) (.t 13)⟩,
  ⟨(some 15), (some (10, true)), .call 0 [] (.c (.fn 24 [])) [(.t 12), (.t 14)]⟩,
  ⟨(some 16), none, .pick (.t 10) (.t 15) (.c (.bool false))⟩,
  ⟨(some 4), none, .mov (.t 16)⟩])
 .ret)),
  [.t 4], false, true, 17⟩
theorem co78 : compF Try.prog ⟨[], [], []⟩ false true Try.f78 = some ac78 := by kernel_rfl

/-- (paideia/subst.Subst).put -/
def ac79 : AF := ⟨(.seq (.reg [⟨(some 3), none, .box (.t 0) 1 false⟩,
  ⟨(some 5), none, .box (.t 2) 3 false⟩])
 (.seq (.reg [⟨(some 6), none, .faddr 0 (.t 5)⟩,
  ⟨(some 7), none, .load none (.t 6)⟩,
  ⟨(some 8), none, .bin .neq (.t 7) (.c (.int .i64 1))⟩,
  ⟨(some 9), none, .mov (.t 8)⟩,
  ⟨(some 10), (some (9, false)), .faddr 1 (.t 5)⟩,
  ⟨(some 11), (some (9, false)), .load none (.t 10)⟩,
  ⟨(some 12), (some (9, false)), .mov (.t 1)⟩,
  ⟨(some 13), (some (9, false)), .bin .neq (.t 11) (.t 12)⟩,
  ⟨(some 14), none, .pick (.t 9) (.c (.bool true)) (.t 13)⟩])
 (.cond (.t 14) (.reg [⟨(some 15), none, .faddr 0 (.t 3)⟩,
  ⟨(some 16), none, .loadL none (.t 15)⟩,
  ⟨(some 17), none, .mov (.t 1)⟩,
  ⟨(some 18), none, .load (some 3) (.t 5)⟩,
  ⟨(some 19), none, .call 0 [] (.c (.fn 62 [])) [(.t 18)]⟩,
  ⟨none, none, .mapset .str (.t 16) (.t 17) (.t 19)⟩])
 .skip))),
  [], false, false, 20⟩
theorem co79 : compF Try.prog ⟨[], [], []⟩ false false Try.f79 = some ac79 := by kernel_rfl


theorem prim83 : PrimOk Try.prog 83 cmpP := cmpP_ok Try.func83 (by kernel_rfl) (by kernel_rfl) (by kernel_rfl) (by kernel_rfl)
theorem prim84 : PrimOk Try.prog 84 joinP := joinP_ok Try.func84 (by kernel_rfl) (by kernel_rfl) Try.strings_Join_none Try.strings_Join

def ap2 : AP := fun f vr => match f, vr with
  | 59, 0 => some (.code ac59)
  | 60, 0 => some (.code ac60)
  | 61, 0 => some (.code ac61)
  | 62, 0 => some (.code ac62)
  | 63, 0 => some (.code ac63)
  | 64, 0 => some (.code ac64)
  | 65, 0 => some (.code ac65)
  | 66, 0 => some (.code ac66)
  | 67, 0 => some (.code ac67)
  | 68, 0 => some (.code ac68)
  | 69, 0 => some (.code ac69)
  | 70, 0 => some (.code ac70)
  | 73, 0 => some (.code ac73)
  | 74, 0 => some (.code ac74)
  | 75, 0 => some (.code ac75)
  | 76, 0 => some (.code ac76)
  | 77, 0 => some (.code ac77)
  | 78, 0 => some (.code ac78)
  | 79, 0 => some (.code ac79)
  | 83, 0 => some (.prim cmpP)
  | 84, 0 => some (.prim joinP)
  | _, _ => none

theorem table2 : TableOk Try.prog ap2 := by
  intro f vr fd h
  unfold ap2 at h
  split at h
  · cases h; exact ⟨_, _, Try.func59, co59⟩
  · cases h; exact ⟨_, _, Try.func60, co60⟩
  · cases h; exact ⟨_, _, Try.func61, co61⟩
  · cases h; exact ⟨_, _, Try.func62, co62⟩
  · cases h; exact ⟨_, _, Try.func63, co63⟩
  · cases h; exact ⟨_, _, Try.func64, co64⟩
  · cases h; exact ⟨_, _, Try.func65, co65⟩
  · cases h; exact ⟨_, _, Try.func66, co66⟩
  · cases h; exact ⟨_, _, Try.func67, co67⟩
  · cases h; exact ⟨_, _, Try.func68, co68⟩
  · cases h; exact ⟨_, _, Try.func69, co69⟩
  · cases h; exact ⟨_, _, Try.func70, co70⟩
  · cases h; exact ⟨_, _, Try.func73, co73⟩
  · cases h; exact ⟨_, _, Try.func74, co74⟩
  · cases h; exact ⟨_, _, Try.func75, co75⟩
  · cases h; exact ⟨_, _, Try.func76, co76⟩
  · cases h; exact ⟨_, _, Try.func77, co77⟩
  · cases h; exact ⟨_, _, Try.func78, co78⟩
  · cases h; exact ⟨_, _, Try.func79, co79⟩
  · cases h; exact prim83
  · cases h; exact prim84
  · cases h

def ap1 : AP := fun f vr => match f, vr with
  | 31, 0 => some (.code ac31)
  | 32, 0 => some (.code ac32)
  | 33, 0 => some (.code ac33)
  | 34, 0 => some (.code ac34)
  | 35, 0 => some (.code ac35)
  | 36, 0 => some (.code ac36)
  | 37, 0 => some (.code ac37)
  | 38, 0 => some (.code ac38)
  | 39, 0 => some (.code ac39)
  | 40, 0 => some (.code ac40)
  | 41, 0 => some (.code ac41)
  | 45, 0 => some (.code ac45)
  | 46, 0 => some (.code ac46)
  | 47, 0 => some (.code ac47)
  | 48, 0 => some (.code ac48)
  | 49, 0 => some (.code ac49)
  | 50, 0 => some (.code ac50)
  | 51, 0 => some (.code ac51)
  | 52, 0 => some (.code ac52)
  | 53, 0 => some (.code ac53)
  | 54, 0 => some (.code ac54)
  | 55, 0 => some (.code ac55)
  | 56, 0 => some (.code ac56)
  | 57, 0 => some (.code ac57)
  | 58, 0 => some (.code ac58)
  | f, vr => ap2 f vr

theorem table1 : TableOk Try.prog ap1 := by
  intro f vr fd h
  unfold ap1 at h
  split at h
  · cases h; exact ⟨_, _, Try.func31, co31⟩
  · cases h; exact ⟨_, _, Try.func32, co32⟩
  · cases h; exact ⟨_, _, Try.func33, co33⟩
  · cases h; exact ⟨_, _, Try.func34, co34⟩
  · cases h; exact ⟨_, _, Try.func35, co35⟩
  · cases h; exact ⟨_, _, Try.func36, co36⟩
  · cases h; exact ⟨_, _, Try.func37, co37⟩
  · cases h; exact ⟨_, _, Try.func38, co38⟩
  · cases h; exact ⟨_, _, Try.func39, co39⟩
  · cases h; exact ⟨_, _, Try.func40, co40⟩
  · cases h; exact ⟨_, _, Try.func41, co41⟩
  · cases h; exact ⟨_, _, Try.func45, co45⟩
  · cases h; exact ⟨_, _, Try.func46, co46⟩
  · cases h; exact ⟨_, _, Try.func47, co47⟩
  · cases h; exact ⟨_, _, Try.func48, co48⟩
  · cases h; exact ⟨_, _, Try.func49, co49⟩
  · cases h; exact ⟨_, _, Try.func50, co50⟩
  · cases h; exact ⟨_, _, Try.func51, co51⟩
  · cases h; exact ⟨_, _, Try.func52, co52⟩
  · cases h; exact ⟨_, _, Try.func53, co53⟩
  · cases h; exact ⟨_, _, Try.func54, co54⟩
  · cases h; exact ⟨_, _, Try.func55, co55⟩
  · cases h; exact ⟨_, _, Try.func56, co56⟩
  · cases h; exact ⟨_, _, Try.func57, co57⟩
  · cases h; exact ⟨_, _, Try.func58, co58⟩
  · exact table2 _ _ _ h

def ap0 : AP := fun f vr => match f, vr with
  | 3, 0 => some (.code ac3)
  | 5, 0 => some (.code ac5)
  | 7, 0 => some (.code ac7)
  | 8, 0 => some (.code ac8)
  | 9, 0 => some (.code ac9)
  | 10, 0 => some (.code ac10)
  | 11, 0 => some (.code ac11)
  | 12, 0 => some (.code ac12)
  | 13, 0 => some (.code ac13)
  | 14, 0 => some (.code ac14)
  | 15, 0 => some (.code ac15)
  | 16, 0 => some (.code ac16)
  | 18, 0 => some (.code ac18)
  | 19, 0 => some (.code ac19)
  | 20, 0 => some (.code ac20)
  | 21, 0 => some (.code ac21)
  | 22, 0 => some (.code ac22)
  | 23, 0 => some (.code ac23)
  | 24, 0 => some (.code ac24)
  | 25, 0 => some (.code ac25)
  | 26, 0 => some (.code ac26)
  | 27, 0 => some (.code ac27)
  | 28, 0 => some (.code ac28)
  | 29, 0 => some (.code ac29)
  | 30, 0 => some (.code ac30)
  | f, vr => ap1 f vr

theorem table0 : TableOk Try.prog ap0 := by
  intro f vr fd h
  unfold ap0 at h
  split at h
  · cases h; exact ⟨_, _, Try.func3, co3⟩
  · cases h; exact ⟨_, _, Try.func5, co5⟩
  · cases h; exact ⟨_, _, Try.func7, co7⟩
  · cases h; exact ⟨_, _, Try.func8, co8⟩
  · cases h; exact ⟨_, _, Try.func9, co9⟩
  · cases h; exact ⟨_, _, Try.func10, co10⟩
  · cases h; exact ⟨_, _, Try.func11, co11⟩
  · cases h; exact ⟨_, _, Try.func12, co12⟩
  · cases h; exact ⟨_, _, Try.func13, co13⟩
  · cases h; exact ⟨_, _, Try.func14, co14⟩
  · cases h; exact ⟨_, _, Try.func15, co15⟩
  · cases h; exact ⟨_, _, Try.func16, co16⟩
  · cases h; exact ⟨_, _, Try.func18, co18⟩
  · cases h; exact ⟨_, _, Try.func19, co19⟩
  · cases h; exact ⟨_, _, Try.func20, co20⟩
  · cases h; exact ⟨_, _, Try.func21, co21⟩
  · cases h; exact ⟨_, _, Try.func22, co22⟩
  · cases h; exact ⟨_, _, Try.func23, co23⟩
  · cases h; exact ⟨_, _, Try.func24, co24⟩
  · cases h; exact ⟨_, _, Try.func25, co25⟩
  · cases h; exact ⟨_, _, Try.func26, co26⟩
  · cases h; exact ⟨_, _, Try.func27, co27⟩
  · cases h; exact ⟨_, _, Try.func28, co28⟩
  · cases h; exact ⟨_, _, Try.func29, co29⟩
  · cases h; exact ⟨_, _, Try.func30, co30⟩
  · exact table1 _ _ _ h

def ap : AP := ap0
theorem tableOk : TableOk Try.prog ap := table0

end Go.At
