/- The seat's functions on the abstract machine. -/
import Derived.Test.YtabjkoehbbobdaaAmX
import Derived.Test.YtabjkoehbbobdaaAmZ
import Derived.Test.YtabjkoehbbobdaaAmL
import Derived.Test.YtabjkoehbbobdaaProg
namespace Go.Tt
open Go.Am Go.Proofs

set_option maxRecDepth 100000
/-- paideia/paideialaw17.TermFree -/
def ac3 : AF := ⟨(.seq (.reg [⟨(some 4), none, .mov (.c (.bool false))⟩])
 (.seq (.reg [⟨(some 16), none, .call 0 [] (.c (.fn 4 [])) []⟩,
  ⟨(some 5), none, .mov (.t 16)⟩])
 (.seq (.seq (.reg [⟨(some 17), none, .mov (.t 5)⟩,
  ⟨(some 18), none, .not (.t 17)⟩])
 (.cond (.t 18) (.seq (.reg [⟨(some 4), none, .mov (.c (.bool false))⟩])
 .ret)
 .skip))
 (.seq (.seq (.reg [⟨(some 19), none, .mov (.t 0)⟩,
  ⟨(some 20), none, .len 1 (.t 19)⟩,
  ⟨(some 21), none, .bin .gtr (.t 20) (.c (.int .i64 150))⟩])
 (.cond (.t 21) (.seq (.reg [⟨(some 22), none, .mov (.t 5)⟩,
  ⟨(some 4), none, .mov (.t 22)⟩])
 .ret)
 .skip))
 (.seq (.reg [⟨(some 23), none, .mov (.t 0)⟩,
  ⟨(some 24), none, .build [(.sl .clip []), (.int .i64 0)] [(0, 1, (.t 23))]⟩,
  ⟨(some 25), none, .box (.t 24) 2 true⟩,
  ⟨(some 26), none, .bslice [(.str [])] 2 [(0, (.c (.str [120]))), (1, (.c (.str [121])))]⟩,
  ⟨(some 27), none, .call 0 [] (.c (.fn 5 [])) [(.t 25), (.t 26), (.c (.int .i64 4))]⟩,
  ⟨(some 6), none, .alloc [(.int .i64 0), (.str []), (.int .i64 0), (.int .i64 0), (.str []), (.sl .clip []), (.sl .clip []), (.sl .clip []), (.sl .clip [])] false⟩,
  ⟨none, none, .store 9 (.t 6) (.t 27)⟩])
 (.seq (.reg [⟨(some 28), none, .bslice [(.str [])] 3 [(0, (.c (.str [120]))), (1, (.c (.str [121]))), (2, (.c (.str [119])))]⟩,
  ⟨(some 29), none, .mov (.t 1)⟩,
  ⟨(some 30), none, .bin .rem (.t 29) (.c (.int .i64 3))⟩,
  ⟨(some 31), none, .bin .add (.t 30) (.c (.int .i64 3))⟩,
  ⟨(some 32), none, .bin .rem (.t 31) (.c (.int .i64 3))⟩,
  ⟨(some 33), none, .iaddr 1 (.t 28) (.t 32)⟩,
  ⟨(some 34), none, .load none (.t 33)⟩,
  ⟨(some 7), none, .mov (.t 34)⟩])
 (.seq (.reg [⟨(some 35), none, .build [(.int .i64 0), (.str []), (.sl .clip [])] [(0, 1, (.c (.int .i64 2))), (1, 1, (.c (.str [73, 110, 116])))]⟩,
  ⟨(some 8), none, .alloc [(.int .i64 0), (.str []), (.sl .clip [])] false⟩,
  ⟨none, none, .store 3 (.t 8) (.t 35)⟩])
 (.seq (.reg [⟨(some 36), none, .load (some 9) (.t 6)⟩,
  ⟨(some 37), none, .call 0 [] (.c (.fn 6 [])) [(.t 36)]⟩,
  ⟨(some 9), none, .mov (.t 37)⟩])
 (.seq (.reg [⟨(some 38), none, .mov (.t 7)⟩,
  ⟨(some 39), none, .load (some 3) (.t 8)⟩,
  ⟨(some 40), none, .load (some 9) (.t 6)⟩,
  ⟨(some 41), none, .bslice [(.int .i64 0), (.str []), (.int .i64 0), (.int .i64 0), (.str []), (.sl .clip []), (.sl .clip []), (.sl .clip []), (.sl .clip [])] 1 [(0, (.t 40))]⟩,
  ⟨(some 42), none, .build [(.int .i64 0), (.str []), (.int .i64 0), (.int .i64 0), (.str []), (.sl .clip []), (.sl .clip []), (.sl .clip []), (.sl .clip [])] [(0, 1, (.c (.int .i64 6))), (1, 1, (.t 38)), (3, 3, (.t 39)), (6, 1, (.t 41))]⟩,
  ⟨(some 43), none, .call 0 [] (.c (.fn 6 [])) [(.t 42)]⟩,
  ⟨(some 10), none, .mov (.t 43)⟩])
 (.seq (.reg [⟨(some 44), none, .mov (.t 7)⟩,
  ⟨(some 45), none, .load (some 3) (.t 8)⟩,
  ⟨(some 46), none, .load (some 9) (.t 6)⟩,
  ⟨(some 47), none, .build [(.str []), (.int .i64 0), (.str []), (.sl .clip []), (.int .i64 0), (.str []), (.int .i64 0), (.int .i64 0), (.str []), (.sl .clip []), (.sl .clip []), (.sl .clip []), (.sl .clip [])] [(0, 1, (.t 44)), (1, 3, (.t 45)), (4, 9, (.t 46))]⟩,
  ⟨(some 48), none, .bslice [(.str []), (.int .i64 0), (.str []), (.sl .clip []), (.int .i64 0), (.str []), (.int .i64 0), (.int .i64 0), (.str []), (.sl .clip []), (.sl .clip []), (.sl .clip []), (.sl .clip [])] 1 [(0, (.t 47))]⟩,
  ⟨(some 49), none, .load (some 9) (.t 6)⟩,
  ⟨(some 50), none, .bslice [(.int .i64 0), (.str []), (.int .i64 0), (.int .i64 0), (.str []), (.sl .clip []), (.sl .clip []), (.sl .clip []), (.sl .clip [])] 1 [(0, (.t 49))]⟩,
  ⟨(some 51), none, .build [(.int .i64 0), (.str []), (.int .i64 0), (.int .i64 0), (.str []), (.sl .clip []), (.sl .clip []), (.sl .clip []), (.sl .clip [])] [(0, 1, (.c (.int .i64 9))), (8, 1, (.t 48)), (6, 1, (.t 50))]⟩,
  ⟨(some 52), none, .call 0 [] (.c (.fn 6 [])) [(.t 51)]⟩,
  ⟨(some 11), none, .mov (.t 52)⟩])
 (.seq (.reg [⟨(some 53), none, .loadL (some 3) (.t 8)⟩,
  ⟨(some 54), none, .call 0 [] (.c (.fn 7 [])) [(.c (.str [113]))]⟩,
  ⟨(some 55), none, .bslice [(.int .i64 0), (.str []), (.int .i64 0), (.int .i64 0), (.str []), (.sl .clip []), (.sl .clip []), (.sl .clip []), (.sl .clip [])] 1 [(0, (.t 54))]⟩,
  ⟨(some 56), none, .mov (.t 7)⟩,
  ⟨(some 57), none, .bslice [(.str [])] 2 [(0, (.c (.str [95]))), (1, (.t 56))]⟩,
  ⟨(some 58), none, .loadL (some 9) (.t 6)⟩,
  ⟨(some 59), none, .build [(.str []), (.sl .clip []), (.int .i64 0), (.str []), (.int .i64 0), (.int .i64 0), (.str []), (.sl .clip []), (.sl .clip []), (.sl .clip []), (.sl .clip [])] [(0, 1, (.c (.str [67]))), (1, 1, (.t 57)), (2, 9, (.t 58))]⟩,
  ⟨(some 60), none, .bslice [(.str []), (.sl .clip []), (.int .i64 0), (.str []), (.int .i64 0), (.int .i64 0), (.str []), (.sl .clip []), (.sl .clip []), (.sl .clip []), (.sl .clip [])] 1 [(0, (.t 59))]⟩,
  ⟨(some 61), none, .build [(.int .i64 0), (.str []), (.int .i64 0), (.int .i64 0), (.str []), (.sl .clip []), (.sl .clip []), (.sl .clip []), (.sl .clip [])] [(0, 1, (.c (.int .i64 10))), (3, 3, (.t 53)), (6, 1, (.t 55)), (7, 1, (.t 60))]⟩,
  ⟨(some 62), none, .call 0 [] (.c (.fn 6 [])) [(.t 61)]⟩,
  ⟨(some 12), none, .mov (.t 62)⟩])
 (.seq (.reg [⟨(some 63), none, .mov (.t 7)⟩,
  ⟨(some 64), none, .load (some 9) (.t 6)⟩,
  ⟨(some 65), none, .bslice [(.int .i64 0), (.str []), (.int .i64 0), (.int .i64 0), (.str []), (.sl .clip []), (.sl .clip []), (.sl .clip []), (.sl .clip [])] 1 [(0, (.t 64))]⟩,
  ⟨(some 66), none, .build [(.int .i64 0), (.str []), (.int .i64 0), (.int .i64 0), (.str []), (.sl .clip []), (.sl .clip []), (.sl .clip []), (.sl .clip [])] [(0, 1, (.c (.int .i64 8))), (1, 1, (.t 63)), (6, 1, (.t 65))]⟩,
  ⟨(some 67), none, .call 0 [] (.c (.fn 6 [])) [(.t 66)]⟩,
  ⟨(some 13), none, .mov (.t 67)⟩])
 (.seq (.reg [⟨(some 14), none, .mov (.c (.int .i64 0))⟩])
 (.seq (.seq (.reg [⟨(some 15), none, .mov (.c (.int .i64 0))⟩])
 (.block 0 (.loop [5, 7, 9, 10, 11, 12, 13, 14, 15] [6] (.seq (.seq (.reg [⟨(some 68), none, .mov (.t 15)⟩,
  ⟨(some 69), none, .mov (.t 9)⟩,
  ⟨(some 70), none, .len 1 (.t 69)⟩,
  ⟨(some 71), none, .bin .lss (.t 68) (.t 70)⟩])
 (.cond (.t 71) .skip
 (.exit 0)))
 (.seq (.block 1 (.seq (.seq (.reg [⟨(some 74), none, .mov (.t 9)⟩,
  ⟨(some 75), none, .mov (.t 15)⟩,
  ⟨(some 76), none, .iaddr 1 (.t 74) (.t 75)⟩,
  ⟨(some 77), none, .load none (.t 76)⟩,
  ⟨(some 78), none, .mov (.t 7)⟩,
  ⟨(some 79), none, .bin .eql (.t 77) (.t 78)⟩])
 (.cond (.t 79) (.exit 1)
 .skip))
 (.seq (.reg [⟨(some 80), none, .mov (.t 14)⟩,
  ⟨(some 81), none, .bin .add (.t 80) (.c (.int .i64 1))⟩,
  ⟨(some 14), none, .mov (.t 81)⟩])
 (.seq (.reg [⟨(some 82), none, .mov (.t 10)⟩,
  ⟨(some 83), none, .mov (.t 9)⟩,
  ⟨(some 84), none, .mov (.t 15)⟩,
  ⟨(some 85), none, .iaddr 1 (.t 83) (.t 84)⟩,
  ⟨(some 86), none, .load none (.t 85)⟩,
  ⟨(some 87), none, .call 0 [] (.c (.fn 8 [])) [(.t 82), (.t 86)]⟩,
  ⟨(some 88), none, .not (.t 87)⟩,
  ⟨(some 89), none, .mov (.t 88)⟩,
  ⟨(some 90), (some (89, false)), .mov (.t 11)⟩,
  ⟨(some 91), (some (89, false)), .mov (.t 9)⟩,
  ⟨(some 92), (some (89, false)), .mov (.t 15)⟩,
  ⟨(some 93), (some (89, false)), .iaddr 1 (.t 91) (.t 92)⟩,
  ⟨(some 94), (some (89, false)), .load none (.t 93)⟩,
  ⟨(some 95), (some (89, false)), .call 0 [] (.c (.fn 8 [])) [(.t 90), (.t 94)]⟩,
  ⟨(some 96), (some (89, false)), .not (.t 95)⟩,
  ⟨(some 97), none, .pick (.t 89) (.c (.bool true)) (.t 96)⟩,
  ⟨(some 98), none, .mov (.t 97)⟩,
  ⟨(some 99), (some (98, false)), .mov (.t 12)⟩,
  ⟨(some 100), (some (98, false)), .mov (.t 9)⟩,
  ⟨(some 101), (some (98, false)), .mov (.t 15)⟩,
  ⟨(some 102), (some (98, false)), .iaddr 1 (.t 100) (.t 101)⟩,
  ⟨(some 103), (some (98, false)), .load none (.t 102)⟩,
  ⟨(some 104), (some (98, false)), .call 0 [] (.c (.fn 8 [])) [(.t 99), (.t 103)]⟩,
  ⟨(some 105), (some (98, false)), .not (.t 104)⟩,
  ⟨(some 106), none, .pick (.t 98) (.c (.bool true)) (.t 105)⟩])
 (.cond (.t 106) (.seq (.reg [⟨(some 4), none, .mov (.c (.bool false))⟩])
 .ret)
 .skip)))))
 (.reg [⟨(some 72), none, .mov (.t 15)⟩,
  ⟨(some 73), none, .bin .add (.t 72) (.c (.int .i64 1))⟩,
  ⟨(some 15), none, .mov (.t 73)⟩]))))))
 (.seq (.reg [⟨(some 107), none, .mov (.t 5)⟩,
  ⟨(some 108), none, .mov (.t 107)⟩,
  ⟨(some 109), (some (108, true)), .mov (.t 10)⟩,
  ⟨(some 110), (some (108, true)), .len 1 (.t 109)⟩,
  ⟨(some 111), (some (108, true)), .mov (.t 14)⟩,
  ⟨(some 112), (some (108, true)), .bin .eql (.t 110) (.t 111)⟩,
  ⟨(some 113), none, .pick (.t 108) (.t 112) (.c (.bool false))⟩,
  ⟨(some 114), none, .mov (.t 113)⟩,
  ⟨(some 115), (some (114, true)), .mov (.t 11)⟩,
  ⟨(some 116), (some (114, true)), .len 1 (.t 115)⟩,
  ⟨(some 117), (some (114, true)), .mov (.t 14)⟩,
  ⟨(some 118), (some (114, true)), .bin .eql (.t 116) (.t 117)⟩,
  ⟨(some 119), none, .pick (.t 114) (.t 118) (.c (.bool false))⟩,
  ⟨(some 120), none, .mov (.t 119)⟩,
  ⟨(some 121), (some (120, true)), .mov (.t 12)⟩,
  ⟨(some 122), (some (120, true)), .len 1 (.t 121)⟩,
  ⟨(some 123), (some (120, true)), .mov (.t 14)⟩,
  ⟨(some 124), (some (120, true)), .bin .add (.t 123) (.c (.int .i64 1))⟩,
  ⟨(some 125), (some (120, true)), .bin .eql (.t 122) (.t 124)⟩,
  ⟨(some 126), none, .pick (.t 120) (.t 125) (.c (.bool false))⟩,
  ⟨(some 127), none, .mov (.t 126)⟩,
  ⟨(some 128), (some (127, true)), .mov (.t 13)⟩,
  ⟨(some 129), (some (127, true)), .mov (.t 9)⟩,
  ⟨(some 130), (some (127, true)), .call 0 [] (.c (.fn 9 [])) [(.t 128), (.t 129)]⟩,
  ⟨(some 131), none, .pick (.t 127) (.t 130) (.c (.bool false))⟩,
  ⟨(some 132), none, .mov (.t 131)⟩,
  ⟨(some 133), (some (132, true)), .load (some 9) (.t 6)⟩,
  ⟨(some 134), (some (132, true)), .load (some 9) (.t 6)⟩,
  ⟨(some 135), (some (132, true)), .bslice [(.int .i64 0), (.str []), (.int .i64 0), (.int .i64 0), (.str []), (.sl .clip []), (.sl .clip []), (.sl .clip []), (.sl .clip [])] 2 [(0, (.t 133)), (1, (.t 134))]⟩,
  ⟨(some 136), (some (132, true)), .build [(.int .i64 0), (.str []), (.int .i64 0), (.int .i64 0), (.str []), (.sl .clip []), (.sl .clip []), (.sl .clip []), (.sl .clip [])] [(0, 1, (.c (.int .i64 5))), (6, 1, (.t 135))]⟩,
  ⟨(some 137), (some (132, true)), .call 0 [] (.c (.fn 10 [])) [(.t 136)]⟩,
  ⟨(some 138), (some (132, true)), .loadL (some 9) (.t 6)⟩,
  ⟨(some 139), (some (132, true)), .call 0 [] (.c (.fn 10 [])) [(.t 138)]⟩,
  ⟨(some 140), (some (132, true)), .bin .mul (.c (.int .i64 2)) (.t 139)⟩,
  ⟨(some 141), (some (132, true)), .bin .add (.t 140) (.c (.int .i64 1))⟩,
  ⟨(some 142), (some (132, true)), .bin .eql (.t 137) (.t 141)⟩,
  ⟨(some 143), none, .pick (.t 132) (.t 142) (.c (.bool false))⟩,
  ⟨(some 4), none, .mov (.t 143)⟩])
 .ret))))))))))))))),
  [.t 4], false, true, 144⟩
theorem co3 : compF Try.prog ⟨[25], [(16, [5, 7, 9, 10, 11, 12, 13, 14, 15], [6])], [], [], [], []⟩ false true Try.f3 = some ac3 := by kernel_rfl

/-- paideia/paideialaw17.first -/
def ac4 : AF := ⟨(.seq (.reg [⟨(some 0), none, .mov (.c (.bool false))⟩])
 (.seq (.reg [⟨(some 3), none, .call 0 [] (.c (.fn 7 [])) [(.c (.str [120]))]⟩,
  ⟨(some 1), none, .alloc [(.int .i64 0), (.str []), (.int .i64 0), (.int .i64 0), (.str []), (.sl .clip []), (.sl .clip []), (.sl .clip []), (.sl .clip [])] false⟩,
  ⟨none, none, .store 9 (.t 1) (.t 3)⟩])
 (.seq (.reg [⟨(some 4), none, .load (some 9) (.t 1)⟩,
  ⟨(some 5), none, .load (some 9) (.t 1)⟩,
  ⟨(some 6), none, .bslice [(.int .i64 0), (.str []), (.int .i64 0), (.int .i64 0), (.str []), (.sl .clip []), (.sl .clip []), (.sl .clip []), (.sl .clip [])] 1 [(0, (.t 5))]⟩,
  ⟨(some 7), none, .call 0 [] (.c (.fn 11 [])) [(.t 4), (.t 6)]⟩,
  ⟨(some 8), none, .call 0 [] (.c (.fn 6 [])) [(.t 7)]⟩,
  ⟨(some 2), none, .mov (.t 8)⟩])
 (.seq (.reg [⟨(some 9), none, .load (some 9) (.t 1)⟩,
  ⟨(some 10), none, .call 0 [] (.c (.fn 10 [])) [(.t 9)]⟩,
  ⟨(some 11), none, .bin .eql (.t 10) (.c (.int .i64 1))⟩,
  ⟨(some 12), none, .mov (.t 11)⟩,
  ⟨(some 13), (some (12, true)), .mov (.t 2)⟩,
  ⟨(some 14), (some (12, true)), .len 1 (.t 13)⟩,
  ⟨(some 15), (some (12, true)), .bin .eql (.t 14) (.c (.int .i64 1))⟩,
  ⟨(some 16), none, .pick (.t 12) (.t 15) (.c (.bool false))⟩,
  ⟨(some 17), none, .mov (.t 16)⟩,
  ⟨(some 18), (some (17, true)), .call 0 [] (.c (.fn 12 [])) []⟩,
  ⟨(some 19), (some (17, true)), .len 1 (.t 18)⟩,
  ⟨(some 20), (some (17, true)), .bin .eql (.t 19) (.c (.int .i64 9))⟩,
  ⟨(some 21), none, .pick (.t 17) (.t 20) (.c (.bool false))⟩,
  ⟨(some 0), none, .mov (.t 21)⟩])
 .ret)))),
  [.t 0], false, true, 22⟩
theorem co4 : compF Try.prog ⟨[], [], [], [], [], []⟩ false true Try.f4 = some ac4 := by kernel_rfl

/-- paideia/paideiamake.Term -/
def ac5 : AF := ⟨(.seq (.reg [⟨(some 6), none, .alloc [(.int .i64 0), (.str []), (.int .i64 0), (.int .i64 0), (.str []), (.sl .clip []), (.sl .clip []), (.sl .clip []), (.sl .clip [])] false⟩])
 (.seq (.reg [⟨(some 25), none, .mov (.t 0)⟩,
  ⟨(some 26), none, .call 0 [] (.c (.fn 13 [])) [(.t 25), (.c (.int .i64 16))]⟩,
  ⟨(some 7), none, .mov (.t 26)⟩])
 (.seq (.seq (.reg [⟨(some 27), none, .mov (.t 2)⟩,
  ⟨(some 28), none, .bin .lss (.t 27) (.c (.int .i64 1))⟩])
 (.cond (.t 28) (.reg [⟨(some 29), none, .mov (.t 7)⟩,
  ⟨(some 30), none, .bin .rem (.t 29) (.c (.int .i64 6))⟩,
  ⟨(some 7), none, .mov (.t 30)⟩])
 .skip))
 (.seq (.reg [⟨(some 31), none, .mov (.t 2)⟩,
  ⟨(some 32), none, .bin .sub (.t 31) (.c (.int .i64 1))⟩,
  ⟨(some 8), none, .mov (.t 32)⟩])
 (.seq (.seq (.reg [⟨(some 33), none, .mov (.t 7)⟩])
 (.block 0 (.seq (.seq (.reg [⟨(some 35), none, .bin .eql (.t 33) (.c (.int .i64 0))⟩,
  ⟨(some 34), none, .mov (.t 35)⟩])
 (.cond (.t 34) .skip
 (.seq (.reg [⟨(some 36), none, .bin .eql (.t 33) (.c (.int .i64 1))⟩,
  ⟨(some 34), none, .mov (.t 36)⟩])
 (.cond (.t 34) .skip
 (.reg [⟨(some 37), none, .bin .eql (.t 33) (.c (.int .i64 2))⟩,
  ⟨(some 34), none, .mov (.t 37)⟩])))))
 (.cond (.t 34) (.seq (.reg [⟨(some 38), none, .mov (.t 0)⟩,
  ⟨(some 39), none, .mov (.t 1)⟩,
  ⟨(some 40), none, .call 0 [] (.c (.fn 15 [])) [(.t 39)]⟩,
  ⟨(some 41), none, .bslice [(.str [])] 1 [(0, (.c (.str [117])))]⟩,
  ⟨(some 42), none, .append 1 (.t 40) (.t 41)⟩,
  ⟨(some 43), none, .call 0 [] (.c (.fn 14 [])) [(.t 38), (.t 42)]⟩,
  ⟨(some 44), none, .build [(.int .i64 0), (.str []), (.int .i64 0), (.int .i64 0), (.str []), (.sl .clip []), (.sl .clip []), (.sl .clip []), (.sl .clip [])] [(0, 1, (.c (.int .i64 1))), (1, 1, (.t 43))]⟩,
  ⟨none, none, .store 9 (.t 6) (.t 44)⟩])
 .ret)
 (.seq (.reg [⟨(some 46), none, .bin .eql (.t 33) (.c (.int .i64 3))⟩,
  ⟨(some 45), none, .mov (.t 46)⟩])
 (.cond (.t 45) (.seq (.reg [⟨(some 47), none, .mov (.t 0)⟩,
  ⟨(some 48), none, .call 0 [] (.c (.fn 13 [])) [(.t 47), (.c (.int .i64 9))]⟩,
  ⟨(some 49), none, .bin .sub (.t 48) (.c (.int .i64 3))⟩,
  ⟨(some 50), none, .build [(.int .i64 0), (.str []), (.int .i64 0), (.int .i64 0), (.str []), (.sl .clip []), (.sl .clip []), (.sl .clip []), (.sl .clip [])] [(0, 1, (.c (.int .i64 3))), (2, 1, (.t 49))]⟩,
  ⟨none, none, .store 9 (.t 6) (.t 50)⟩])
 .ret)
 (.seq (.reg [⟨(some 52), none, .bin .eql (.t 33) (.c (.int .i64 4))⟩,
  ⟨(some 51), none, .mov (.t 52)⟩])
 (.cond (.t 51) (.seq (.reg [⟨(some 53), none, .mov (.t 0)⟩,
  ⟨(some 54), none, .bslice [(.str [])] 5 [(0, (.c (.str [84, 114, 117, 101]))), (1, (.c (.str [78, 105, 108]))), (2, (.c (.str [67, 111, 110, 115]))), (3, (.c (.str [80, 97, 105, 114]))), (4, (.c (.str [122, 122])))]⟩,
  ⟨(some 55), none, .call 0 [] (.c (.fn 14 [])) [(.t 53), (.t 54)]⟩,
  ⟨(some 56), none, .build [(.int .i64 0), (.str []), (.int .i64 0), (.int .i64 0), (.str []), (.sl .clip []), (.sl .clip []), (.sl .clip []), (.sl .clip [])] [(0, 1, (.c (.int .i64 2))), (1, 1, (.t 55))]⟩,
  ⟨none, none, .store 9 (.t 6) (.t 56)⟩])
 .ret)
 (.seq (.reg [⟨(some 58), none, .bin .eql (.t 33) (.c (.int .i64 5))⟩,
  ⟨(some 57), none, .mov (.t 58)⟩])
 (.cond (.t 57) (.seq (.reg [⟨(some 59), none, .mov (.t 0)⟩,
  ⟨(some 60), none, .bslice [(.str [])] 4 [(0, (.c (.str [112, 114, 105, 109, 73, 110, 116, 65, 100, 100]))), (1, (.c (.str [112, 114, 105, 109, 73, 110, 116, 69, 113]))), (2, (.c (.str [112, 114, 105, 109, 73, 110, 116, 83, 104, 111, 119]))), (3, (.c (.str [112, 114, 105, 109])))]⟩,
  ⟨(some 61), none, .call 0 [] (.c (.fn 14 [])) [(.t 59), (.t 60)]⟩,
  ⟨(some 62), none, .build [(.int .i64 0), (.str []), (.int .i64 0), (.int .i64 0), (.str []), (.sl .clip []), (.sl .clip []), (.sl .clip []), (.sl .clip [])] [(0, 1, (.c (.int .i64 11))), (1, 1, (.t 61))]⟩,
  ⟨none, none, .store 9 (.t 6) (.t 62)⟩])
 .ret)
 (.seq (.seq (.reg [⟨(some 64), none, .bin .eql (.t 33) (.c (.int .i64 6))⟩,
  ⟨(some 63), none, .mov (.t 64)⟩])
 (.cond (.t 63) .skip
 (.seq (.reg [⟨(some 65), none, .bin .eql (.t 33) (.c (.int .i64 7))⟩,
  ⟨(some 63), none, .mov (.t 65)⟩])
 (.cond (.t 63) .skip
 (.reg [⟨(some 66), none, .bin .eql (.t 33) (.c (.int .i64 8))⟩,
  ⟨(some 63), none, .mov (.t 66)⟩])))))
 (.cond (.t 63) (.seq (.reg [⟨(some 67), none, .mov (.t 0)⟩,
  ⟨(some 68), none, .mov (.t 1)⟩,
  ⟨(some 69), none, .mov (.t 8)⟩,
  ⟨(some 70), none, .call 0 [] (.c (.fn 5 [])) [(.t 67), (.t 68), (.t 69)]⟩,
  ⟨(some 9), none, .alloc [(.int .i64 0), (.str []), (.int .i64 0), (.int .i64 0), (.str []), (.sl .clip []), (.sl .clip []), (.sl .clip []), (.sl .clip [])] false⟩,
  ⟨none, none, .store 9 (.t 9) (.t 70)⟩])
 (.seq (.reg [⟨(some 71), none, .loadL (some 9) (.t 9)⟩,
  ⟨(some 72), none, .mov (.t 0)⟩,
  ⟨(some 73), none, .mov (.t 1)⟩,
  ⟨(some 74), none, .mov (.t 8)⟩,
  ⟨(some 75), none, .call 0 [] (.c (.fn 5 [])) [(.t 72), (.t 73), (.t 74)]⟩,
  ⟨(some 76), none, .bslice [(.int .i64 0), (.str []), (.int .i64 0), (.int .i64 0), (.str []), (.sl .clip []), (.sl .clip []), (.sl .clip []), (.sl .clip [])] 2 [(0, (.t 71)), (1, (.t 75))]⟩,
  ⟨(some 77), none, .build [(.int .i64 0), (.str []), (.int .i64 0), (.int .i64 0), (.str []), (.sl .clip []), (.sl .clip []), (.sl .clip []), (.sl .clip [])] [(0, 1, (.c (.int .i64 5))), (6, 1, (.t 76))]⟩,
  ⟨none, none, .store 9 (.t 6) (.t 77)⟩])
 .ret))
 (.seq (.seq (.reg [⟨(some 79), none, .bin .eql (.t 33) (.c (.int .i64 9))⟩,
  ⟨(some 78), none, .mov (.t 79)⟩])
 (.cond (.t 78) .skip
 (.reg [⟨(some 80), none, .bin .eql (.t 33) (.c (.int .i64 10))⟩,
  ⟨(some 78), none, .mov (.t 80)⟩])))
 (.cond (.t 78) (.seq (.reg [⟨(some 81), none, .mov (.t 0)⟩,
  ⟨(some 82), none, .bslice [(.str [])] 3 [(0, (.c (.str [120]))), (1, (.c (.str [121]))), (2, (.c (.str [122])))]⟩,
  ⟨(some 83), none, .call 0 [] (.c (.fn 14 [])) [(.t 81), (.t 82)]⟩,
  ⟨(some 10), none, .mov (.t 83)⟩])
 (.seq (.reg [⟨(some 84), none, .mov (.t 0)⟩,
  ⟨(some 85), none, .call 0 [] (.c (.fn 16 [])) [(.t 84), (.c (.int .i64 2))]⟩,
  ⟨(some 11), none, .alloc [(.int .i64 0), (.str []), (.sl .clip [])] false⟩,
  ⟨none, none, .store 3 (.t 11) (.t 85)⟩])
 (.seq (.reg [⟨(some 86), none, .mov (.t 10)⟩,
  ⟨(some 87), none, .loadL (some 3) (.t 11)⟩,
  ⟨(some 88), none, .mov (.t 0)⟩,
  ⟨(some 89), none, .mov (.t 1)⟩,
  ⟨(some 90), none, .call 0 [] (.c (.fn 15 [])) [(.t 89)]⟩,
  ⟨(some 91), none, .mov (.t 10)⟩,
  ⟨(some 92), none, .bslice [(.str [])] 1 [(0, (.t 91))]⟩,
  ⟨(some 93), none, .append 1 (.t 90) (.t 92)⟩,
  ⟨(some 94), none, .mov (.t 8)⟩,
  ⟨(some 95), none, .call 0 [] (.c (.fn 5 [])) [(.t 88), (.t 93), (.t 94)]⟩,
  ⟨(some 96), none, .bslice [(.int .i64 0), (.str []), (.int .i64 0), (.int .i64 0), (.str []), (.sl .clip []), (.sl .clip []), (.sl .clip []), (.sl .clip [])] 1 [(0, (.t 95))]⟩,
  ⟨(some 97), none, .build [(.int .i64 0), (.str []), (.int .i64 0), (.int .i64 0), (.str []), (.sl .clip []), (.sl .clip []), (.sl .clip []), (.sl .clip [])] [(0, 1, (.c (.int .i64 6))), (1, 1, (.t 86)), (3, 3, (.t 87)), (6, 1, (.t 96))]⟩,
  ⟨none, none, .store 9 (.t 6) (.t 97)⟩])
 .ret)))
 (.seq (.reg [⟨(some 99), none, .bin .eql (.t 33) (.c (.int .i64 11))⟩,
  ⟨(some 98), none, .mov (.t 99)⟩])
 (.cond (.t 98) (.seq (.reg [⟨(some 100), none, .mov (.t 0)⟩,
  ⟨(some 101), none, .call 0 [] (.c (.fn 16 [])) [(.t 100), (.c (.int .i64 1))]⟩,
  ⟨(some 12), none, .alloc [(.int .i64 0), (.str []), (.sl .clip [])] false⟩,
  ⟨none, none, .store 3 (.t 12) (.t 101)⟩])
 (.seq (.reg [⟨(some 102), none, .loadL (some 3) (.t 12)⟩,
  ⟨(some 103), none, .mov (.t 0)⟩,
  ⟨(some 104), none, .mov (.t 1)⟩,
  ⟨(some 105), none, .mov (.t 8)⟩,
  ⟨(some 106), none, .call 0 [] (.c (.fn 5 [])) [(.t 103), (.t 104), (.t 105)]⟩,
  ⟨(some 107), none, .bslice [(.int .i64 0), (.str []), (.int .i64 0), (.int .i64 0), (.str []), (.sl .clip []), (.sl .clip []), (.sl .clip []), (.sl .clip [])] 1 [(0, (.t 106))]⟩,
  ⟨(some 108), none, .build [(.int .i64 0), (.str []), (.int .i64 0), (.int .i64 0), (.str []), (.sl .clip []), (.sl .clip []), (.sl .clip []), (.sl .clip [])] [(0, 1, (.c (.int .i64 7))), (3, 3, (.t 102)), (6, 1, (.t 107))]⟩,
  ⟨none, none, .store 9 (.t 6) (.t 108)⟩])
 .ret))
 (.seq (.reg [⟨(some 110), none, .bin .eql (.t 33) (.c (.int .i64 12))⟩,
  ⟨(some 109), none, .mov (.t 110)⟩])
 (.cond (.t 109) (.seq (.reg [⟨(some 111), none, .mov (.t 0)⟩,
  ⟨(some 112), none, .bslice [(.str [])] 3 [(0, (.c (.str [97]))), (1, (.c (.str [98]))), (2, (.c (.str [99])))]⟩,
  ⟨(some 113), none, .call 0 [] (.c (.fn 14 [])) [(.t 111), (.t 112)]⟩,
  ⟨(some 114), none, .mov (.t 0)⟩,
  ⟨(some 115), none, .mov (.t 1)⟩,
  ⟨(some 116), none, .mov (.t 8)⟩,
  ⟨(some 117), none, .call 0 [] (.c (.fn 5 [])) [(.t 114), (.t 115), (.t 116)]⟩,
  ⟨(some 118), none, .bslice [(.int .i64 0), (.str []), (.int .i64 0), (.int .i64 0), (.str []), (.sl .clip []), (.sl .clip []), (.sl .clip []), (.sl .clip [])] 1 [(0, (.t 117))]⟩,
  ⟨(some 119), none, .build [(.int .i64 0), (.str []), (.int .i64 0), (.int .i64 0), (.str []), (.sl .clip []), (.sl .clip []), (.sl .clip []), (.sl .clip [])] [(0, 1, (.c (.int .i64 8))), (1, 1, (.t 113)), (6, 1, (.t 118))]⟩,
  ⟨none, none, .store 9 (.t 6) (.t 119)⟩])
 .ret)
 (.seq (.reg [⟨(some 121), none, .bin .eql (.t 33) (.c (.int .i64 13))⟩,
  ⟨(some 120), none, .mov (.t 121)⟩])
 (.cond (.t 120) (.seq (.reg [⟨(some 122), none, .mov (.t 0)⟩,
  ⟨(some 123), none, .bslice [(.str [])] 3 [(0, (.c (.str [120]))), (1, (.c (.str [121]))), (2, (.c (.str [103])))]⟩,
  ⟨(some 124), none, .call 0 [] (.c (.fn 14 [])) [(.t 122), (.t 123)]⟩,
  ⟨(some 13), none, .mov (.t 124)⟩])
 (.seq (.reg [⟨(some 125), none, .mov (.t 1)⟩,
  ⟨(some 126), none, .call 0 [] (.c (.fn 15 [])) [(.t 125)]⟩,
  ⟨(some 127), none, .mov (.t 13)⟩,
  ⟨(some 128), none, .bslice [(.str [])] 1 [(0, (.t 127))]⟩,
  ⟨(some 129), none, .append 1 (.t 126) (.t 128)⟩,
  ⟨(some 14), none, .mov (.t 129)⟩])
 (.seq (.reg [⟨(some 130), none, .mov (.t 0)⟩,
  ⟨(some 131), none, .call 0 [] (.c (.fn 16 [])) [(.t 130), (.c (.int .i64 2))]⟩,
  ⟨(some 15), none, .alloc [(.int .i64 0), (.str []), (.sl .clip [])] false⟩,
  ⟨none, none, .store 3 (.t 15) (.t 131)⟩])
 (.seq (.reg [⟨(some 132), none, .mov (.t 0)⟩,
  ⟨(some 133), none, .mov (.t 14)⟩,
  ⟨(some 134), none, .mov (.t 8)⟩,
  ⟨(some 135), none, .call 0 [] (.c (.fn 5 [])) [(.t 132), (.t 133), (.t 134)]⟩,
  ⟨(some 16), none, .alloc [(.int .i64 0), (.str []), (.int .i64 0), (.int .i64 0), (.str []), (.sl .clip []), (.sl .clip []), (.sl .clip []), (.sl .clip [])] false⟩,
  ⟨none, none, .store 9 (.t 16) (.t 135)⟩])
 (.seq (.reg [⟨(some 136), none, .mov (.t 13)⟩,
  ⟨(some 137), none, .loadL (some 3) (.t 15)⟩,
  ⟨(some 138), none, .loadL (some 9) (.t 16)⟩,
  ⟨(some 139), none, .build [(.str []), (.int .i64 0), (.str []), (.sl .clip []), (.int .i64 0), (.str []), (.int .i64 0), (.int .i64 0), (.str []), (.sl .clip []), (.sl .clip []), (.sl .clip []), (.sl .clip [])] [(0, 1, (.t 136)), (1, 3, (.t 137)), (4, 9, (.t 138))]⟩,
  ⟨(some 140), none, .bslice [(.str []), (.int .i64 0), (.str []), (.sl .clip []), (.int .i64 0), (.str []), (.int .i64 0), (.int .i64 0), (.str []), (.sl .clip []), (.sl .clip []), (.sl .clip []), (.sl .clip [])] 1 [(0, (.t 139))]⟩,
  ⟨(some 141), none, .mov (.t 0)⟩,
  ⟨(some 142), none, .mov (.t 14)⟩,
  ⟨(some 143), none, .mov (.t 8)⟩,
  ⟨(some 144), none, .call 0 [] (.c (.fn 5 [])) [(.t 141), (.t 142), (.t 143)]⟩,
  ⟨(some 145), none, .bslice [(.int .i64 0), (.str []), (.int .i64 0), (.int .i64 0), (.str []), (.sl .clip []), (.sl .clip []), (.sl .clip []), (.sl .clip [])] 1 [(0, (.t 144))]⟩,
  ⟨(some 146), none, .build [(.int .i64 0), (.str []), (.int .i64 0), (.int .i64 0), (.str []), (.sl .clip []), (.sl .clip []), (.sl .clip []), (.sl .clip [])] [(0, 1, (.c (.int .i64 9))), (8, 1, (.t 140)), (6, 1, (.t 145))]⟩,
  ⟨(some 17), none, .alloc [(.int .i64 0), (.str []), (.int .i64 0), (.int .i64 0), (.str []), (.sl .clip []), (.sl .clip []), (.sl .clip []), (.sl .clip [])] false⟩,
  ⟨none, none, .store 9 (.t 17) (.t 146)⟩])
 (.seq (.seq (.reg [⟨(some 147), none, .mov (.t 0)⟩,
  ⟨(some 148), none, .call 0 [] (.c (.fn 13 [])) [(.t 147), (.c (.int .i64 6))]⟩,
  ⟨(some 149), none, .bin .eql (.t 148) (.c (.int .i64 0))⟩])
 (.cond (.t 149) (.reg [⟨(some 150), none, .faddr 8 (.t 17)⟩,
  ⟨(some 151), none, .load none (.t 150)⟩,
  ⟨(some 152), none, .faddr 8 (.t 17)⟩,
  ⟨(some 153), none, .load none (.t 152)⟩,
  ⟨(some 154), none, .iaddr 13 (.t 153) (.c (.int .i64 0))⟩,
  ⟨(some 155), none, .load (some 13) (.t 154)⟩,
  ⟨(some 156), none, .bslice [(.str []), (.int .i64 0), (.str []), (.sl .clip []), (.int .i64 0), (.str []), (.int .i64 0), (.int .i64 0), (.str []), (.sl .clip []), (.sl .clip []), (.sl .clip []), (.sl .clip [])] 1 [(0, (.t 155))]⟩,
  ⟨(some 157), none, .append 13 (.t 151) (.t 156)⟩,
  ⟨(some 158), none, .faddr 8 (.t 17)⟩,
  ⟨none, none, .store 1 (.t 158) (.t 157)⟩])
 .skip))
 (.seq (.reg [⟨(some 159), none, .load (some 9) (.t 17)⟩,
  ⟨none, none, .store 9 (.t 6) (.t 159)⟩])
 .ret)))))))
 .skip))))))))))))))))))))
 (.seq (.reg [⟨(some 160), none, .mov (.t 0)⟩,
  ⟨(some 161), none, .mov (.t 1)⟩,
  ⟨(some 162), none, .mov (.t 8)⟩,
  ⟨(some 163), none, .call 0 [] (.c (.fn 5 [])) [(.t 160), (.t 161), (.t 162)]⟩,
  ⟨(some 164), none, .bslice [(.int .i64 0), (.str []), (.int .i64 0), (.int .i64 0), (.str []), (.sl .clip []), (.sl .clip []), (.sl .clip []), (.sl .clip [])] 1 [(0, (.t 163))]⟩,
  ⟨(some 165), none, .mov (.t 0)⟩,
  ⟨(some 166), none, .call 0 [] (.c (.fn 16 [])) [(.t 165), (.c (.int .i64 1))]⟩,
  ⟨(some 167), none, .build [(.int .i64 0), (.str []), (.int .i64 0), (.int .i64 0), (.str []), (.sl .clip []), (.sl .clip []), (.sl .clip []), (.sl .clip [])] [(0, 1, (.c (.int .i64 10))), (6, 1, (.t 164)), (3, 3, (.t 166))]⟩,
  ⟨(some 18), none, .alloc [(.int .i64 0), (.str []), (.int .i64 0), (.int .i64 0), (.str []), (.sl .clip []), (.sl .clip []), (.sl .clip []), (.sl .clip [])] false⟩,
  ⟨none, none, .store 9 (.t 18) (.t 167)⟩])
 (.seq (.seq (.reg [⟨(some 168), none, .mov (.t 0)⟩,
  ⟨(some 169), none, .call 0 [] (.c (.fn 13 [])) [(.t 168), (.c (.int .i64 4))]⟩,
  ⟨(some 19), none, .mov (.t 169)⟩])
 (.block 1 (.loop [0, 1, 8, 19] [6, 18] (.seq (.seq (.reg [⟨(some 170), none, .mov (.t 19)⟩,
  ⟨(some 171), none, .bin .gtr (.t 170) (.c (.int .i64 0))⟩])
 (.cond (.t 171) .skip
 (.exit 1)))
 (.seq (.block 2 (.seq (.reg [⟨(some 174), none, .mov (.t 0)⟩,
  ⟨(some 175), none, .bslice [(.str [])] 6 [(0, (.c (.str [84, 114, 117, 101]))), (1, (.c (.str [70, 97, 108, 115, 101]))), (2, (.c (.str [78, 105, 108]))), (3, (.c (.str [67, 111, 110, 115]))), (4, (.c (.str [80, 97, 105, 114]))), (5, (.c (.str [])))]⟩,
  ⟨(some 176), none, .call 0 [] (.c (.fn 14 [])) [(.t 174), (.t 175)]⟩,
  ⟨(some 177), none, .build [(.str []), (.sl .clip []), (.int .i64 0), (.str []), (.int .i64 0), (.int .i64 0), (.str []), (.sl .clip []), (.sl .clip []), (.sl .clip []), (.sl .clip [])] [(0, 1, (.t 176))]⟩,
  ⟨(some 20), none, .alloc [(.str []), (.sl .clip []), (.int .i64 0), (.str []), (.int .i64 0), (.int .i64 0), (.str []), (.sl .clip []), (.sl .clip []), (.sl .clip []), (.sl .clip [])] false⟩,
  ⟨none, none, .store 11 (.t 20) (.t 177)⟩])
 (.seq (.reg [⟨(some 178), none, .mov (.t 1)⟩,
  ⟨(some 179), none, .call 0 [] (.c (.fn 15 [])) [(.t 178)]⟩,
  ⟨(some 21), none, .mov (.t 179)⟩])
 (.seq (.reg [⟨(some 180), none, .bslice [(.int .i64 0)] 6 [(0, (.c (.int .i64 0))), (1, (.c (.int .i64 0))), (2, (.c (.int .i64 0))), (3, (.c (.int .i64 2))), (4, (.c (.int .i64 2))), (5, (.c (.int .i64 1)))]⟩,
  ⟨(some 181), none, .bslice [(.str [])] 6 [(0, (.c (.str [84, 114, 117, 101]))), (1, (.c (.str [70, 97, 108, 115, 101]))), (2, (.c (.str [78, 105, 108]))), (3, (.c (.str [67, 111, 110, 115]))), (4, (.c (.str [80, 97, 105, 114]))), (5, (.c (.str [])))]⟩,
  ⟨(some 182), none, .faddr 0 (.t 20)⟩,
  ⟨(some 183), none, .load none (.t 182)⟩,
  ⟨(some 184), none, .call 0 [] (.c (.fn 17 [])) [(.t 181), (.t 183)]⟩,
  ⟨(some 185), none, .iaddr 1 (.t 180) (.t 184)⟩,
  ⟨(some 186), none, .load none (.t 185)⟩,
  ⟨(some 22), none, .mov (.t 186)⟩])
 (.seq (.seq (.reg [⟨(some 187), none, .mov (.t 0)⟩,
  ⟨(some 188), none, .call 0 [] (.c (.fn 13 [])) [(.t 187), (.c (.int .i64 8))]⟩,
  ⟨(some 189), none, .bin .eql (.t 188) (.c (.int .i64 0))⟩])
 (.cond (.t 189) (.reg [⟨(some 190), none, .mov (.t 0)⟩,
  ⟨(some 191), none, .call 0 [] (.c (.fn 13 [])) [(.t 190), (.c (.int .i64 3))]⟩,
  ⟨(some 22), none, .mov (.t 191)⟩])
 .skip))
 (.seq (.seq (.reg [⟨(some 23), none, .mov (.c (.int .i64 0))⟩])
 (.block 3 (.loop [0, 1, 8, 19, 21, 22, 23] [6, 18, 20] (.seq (.seq (.reg [⟨(some 192), none, .mov (.t 23)⟩,
  ⟨(some 193), none, .mov (.t 22)⟩,
  ⟨(some 194), none, .bin .lss (.t 192) (.t 193)⟩])
 (.cond (.t 194) .skip
 (.exit 3)))
 (.seq (.block 4 (.seq (.reg [⟨(some 197), none, .bslice [(.str [])] 3 [(0, (.c (.str [104]))), (1, (.c (.str [116]))), (2, (.c (.str [95])))]⟩,
  ⟨(some 198), none, .mov (.t 0)⟩,
  ⟨(some 199), none, .call 0 [] (.c (.fn 13 [])) [(.t 198), (.c (.int .i64 5))]⟩,
  ⟨(some 200), none, .bin .rem (.t 199) (.c (.int .i64 3))⟩,
  ⟨(some 201), none, .iaddr 1 (.t 197) (.t 200)⟩,
  ⟨(some 202), none, .load none (.t 201)⟩,
  ⟨(some 24), none, .mov (.t 202)⟩])
 (.seq (.reg [⟨(some 203), none, .faddr 1 (.t 20)⟩,
  ⟨(some 204), none, .load none (.t 203)⟩,
  ⟨(some 205), none, .mov (.t 24)⟩,
  ⟨(some 206), none, .bslice [(.str [])] 1 [(0, (.t 205))]⟩,
  ⟨(some 207), none, .append 1 (.t 204) (.t 206)⟩,
  ⟨(some 208), none, .faddr 1 (.t 20)⟩,
  ⟨none, none, .store 1 (.t 208) (.t 207)⟩])
 (.reg [⟨(some 209), none, .mov (.t 21)⟩,
  ⟨(some 210), none, .mov (.t 24)⟩,
  ⟨(some 211), none, .bslice [(.str [])] 1 [(0, (.t 210))]⟩,
  ⟨(some 212), none, .append 1 (.t 209) (.t 211)⟩,
  ⟨(some 21), none, .mov (.t 212)⟩]))))
 (.reg [⟨(some 195), none, .mov (.t 23)⟩,
  ⟨(some 196), none, .bin .add (.t 195) (.c (.int .i64 1))⟩,
  ⟨(some 23), none, .mov (.t 196)⟩]))))))
 (.seq (.reg [⟨(some 213), none, .mov (.t 0)⟩,
  ⟨(some 214), none, .mov (.t 21)⟩,
  ⟨(some 215), none, .mov (.t 8)⟩,
  ⟨(some 216), none, .call 0 [] (.c (.fn 5 [])) [(.t 213), (.t 214), (.t 215)]⟩,
  ⟨(some 217), none, .faddr 2 (.t 20)⟩,
  ⟨none, none, .store 9 (.t 217) (.t 216)⟩])
 (.reg [⟨(some 218), none, .faddr 7 (.t 18)⟩,
  ⟨(some 219), none, .load none (.t 218)⟩,
  ⟨(some 220), none, .load (some 11) (.t 20)⟩,
  ⟨(some 221), none, .bslice [(.str []), (.sl .clip []), (.int .i64 0), (.str []), (.int .i64 0), (.int .i64 0), (.str []), (.sl .clip []), (.sl .clip []), (.sl .clip []), (.sl .clip [])] 1 [(0, (.t 220))]⟩,
  ⟨(some 222), none, .append 11 (.t 219) (.t 221)⟩,
  ⟨(some 223), none, .faddr 7 (.t 18)⟩,
  ⟨none, none, .store 1 (.t 223) (.t 222)⟩]))))))))
 (.reg [⟨(some 172), none, .mov (.t 19)⟩,
  ⟨(some 173), none, .bin .sub (.t 172) (.c (.int .i64 1))⟩,
  ⟨(some 19), none, .mov (.t 173)⟩]))))))
 (.seq (.reg [⟨(some 224), none, .load (some 9) (.t 18)⟩,
  ⟨none, none, .store 9 (.t 6) (.t 224)⟩])
 .ret)))))))),
  [.cell 6 (some 9)], false, true, 225⟩
theorem co5 : compF Try.prog ⟨[], [(42, [0, 1, 8, 19], [6, 18]), (50, [0, 1, 8, 19, 21, 22, 23], [6, 18, 20])], [], [], [], []⟩ false true Try.f5 = some ac5 := by kernel_rfl

/-- paideia/term.Free -/
def ac6 : AF := ⟨(.seq (.reg [⟨(some 1), none, .box (.t 0) 9 false⟩,
  ⟨(some 2), none, .mov (.c (.sl .clip []))⟩])
 (.seq (.reg [⟨(some 4), none, .mkmap⟩,
  ⟨(some 5), none, .mkmap⟩,
  ⟨(some 6), none, .build [(.map none), (.map none), (.sl .clip [])] [(0, 1, (.t 4)), (1, 1, (.t 5))]⟩,
  ⟨(some 7), none, .box (.t 6) 3 true⟩,
  ⟨(some 3), none, .mov (.t 7)⟩])
 (.seq (.reg [⟨(some 8), none, .mov (.t 3)⟩,
  ⟨(some 9), none, .load (some 9) (.t 1)⟩,
  ⟨(some 10), none, .call 0 [] (.c (.fn 18 [])) [(.t 8), (.t 9)]⟩])
 (.seq (.reg [⟨(some 11), none, .mov (.t 3)⟩,
  ⟨(some 12), none, .nilck (.t 11)⟩,
  ⟨(some 13), none, .faddr 2 (.t 12)⟩,
  ⟨(some 14), none, .load none (.t 13)⟩,
  ⟨(some 2), none, .mov (.t 14)⟩])
 .ret)))),
  [.t 2], false, true, 15⟩
theorem co6 : compF Try.prog ⟨[7], [], [], [], [], []⟩ false true Try.f6 = some ac6 := by kernel_rfl

/-- paideia/term.Var -/
def ac7 : AF := ⟨(.seq (.reg [⟨(some 2), none, .alloc [(.int .i64 0), (.str []), (.int .i64 0), (.int .i64 0), (.str []), (.sl .clip []), (.sl .clip []), (.sl .clip []), (.sl .clip [])] false⟩])
 (.seq (.reg [⟨(some 3), none, .mov (.t 0)⟩,
  ⟨(some 4), none, .build [(.int .i64 0), (.str []), (.int .i64 0), (.int .i64 0), (.str []), (.sl .clip []), (.sl .clip []), (.sl .clip []), (.sl .clip [])] [(0, 1, (.c (.int .i64 1))), (1, 1, (.t 3))]⟩,
  ⟨none, none, .store 9 (.t 2) (.t 4)⟩])
 .ret)),
  [.cell 2 (some 9)], false, true, 5⟩
theorem co7 : compF Try.prog ⟨[], [], [], [], [], []⟩ false true Try.f7 = some ac7 := by kernel_rfl

/-- paideia/paideiaref.Has -/
def ac8 : AF := ⟨(.seq (.reg [⟨(some 4), none, .mov (.c (.bool false))⟩])
 (.seq (.reg [⟨(some 5), none, .mov (.t 0)⟩,
  ⟨(some 6), none, .mov (.t 1)⟩,
  ⟨(some 7), none, .call 0 [] (.c (.fn 17 [])) [(.t 5), (.t 6)]⟩,
  ⟨(some 8), none, .bin .geq (.t 7) (.c (.int .i64 0))⟩,
  ⟨(some 4), none, .mov (.t 8)⟩])
 .ret)),
  [.t 4], false, true, 9⟩
theorem co8 : compF Try.prog ⟨[], [], [], [], [], []⟩ false true Try.f8 = some ac8 := by kernel_rfl

/-- paideia/paideiaref.SameTexts -/
def ac9 : AF := ⟨(.seq (.reg [⟨(some 4), none, .mov (.c (.bool false))⟩])
 (.seq (.seq (.reg [⟨(some 7), none, .mov (.t 0)⟩,
  ⟨(some 8), none, .len 1 (.t 7)⟩,
  ⟨(some 9), none, .mov (.t 1)⟩,
  ⟨(some 10), none, .len 1 (.t 9)⟩,
  ⟨(some 11), none, .bin .neq (.t 8) (.t 10)⟩])
 (.cond (.t 11) (.seq (.reg [⟨(some 4), none, .mov (.c (.bool false))⟩])
 .ret)
 .skip))
 (.seq (.seq (.reg [⟨(some 5), none, .mov (.c (.int .i64 0))⟩])
 (.block 0 (.loop [0, 1, 5] [] (.seq (.seq (.reg [⟨(some 12), none, .mov (.t 5)⟩,
  ⟨(some 13), none, .mov (.t 0)⟩,
  ⟨(some 14), none, .len 1 (.t 13)⟩,
  ⟨(some 15), none, .bin .lss (.t 12) (.t 14)⟩])
 (.cond (.t 15) .skip
 (.exit 0)))
 (.seq (.block 1 (.seq (.reg [⟨(some 18), none, .mov (.t 0)⟩,
  ⟨(some 19), none, .mov (.t 5)⟩,
  ⟨(some 20), none, .iaddr 1 (.t 18) (.t 19)⟩,
  ⟨(some 21), none, .load none (.t 20)⟩,
  ⟨(some 22), none, .mov (.t 1)⟩,
  ⟨(some 23), none, .mov (.t 5)⟩,
  ⟨(some 24), none, .iaddr 1 (.t 22) (.t 23)⟩,
  ⟨(some 25), none, .load none (.t 24)⟩,
  ⟨(some 26), none, .bin .eql (.t 21) (.t 25)⟩,
  ⟨(some 6), none, .mov (.t 26)⟩])
 (.seq (.reg [⟨(some 27), none, .mov (.t 6)⟩,
  ⟨(some 28), none, .not (.t 27)⟩])
 (.cond (.t 28) (.seq (.reg [⟨(some 4), none, .mov (.c (.bool false))⟩])
 .ret)
 .skip))))
 (.reg [⟨(some 16), none, .mov (.t 5)⟩,
  ⟨(some 17), none, .bin .add (.t 16) (.c (.int .i64 1))⟩,
  ⟨(some 5), none, .mov (.t 17)⟩]))))))
 (.seq (.reg [⟨(some 4), none, .mov (.c (.bool true))⟩])
 .ret)))),
  [.t 4], false, true, 29⟩
theorem co9 : compF Try.prog ⟨[], [(4, [0, 1, 5], [])], [], [], [], []⟩ false true Try.f9 = some ac9 := by kernel_rfl

/-- paideia/term.Size -/
def ac10 : AF := ⟨(.seq (.reg [⟨(some 1), none, .box (.t 0) 9 false⟩,
  ⟨(some 2), none, .mov (.c (.int .i64 0))⟩])
 (.seq (.reg [⟨(some 3), none, .mov (.c (.int .i64 1))⟩])
 (.seq (.seq (.reg [⟨(some 10), none, .faddr 6 (.t 1)⟩,
  ⟨(some 11), none, .load none (.t 10)⟩,
  ⟨(some 12), none, .len 1 (.t 11)⟩,
  ⟨(some 13), none, .mov (.c (.int .i64 0))⟩])
 (.block 0 (.loop [3, 11, 12, 13] [1] (.seq (.reg [⟨(some 14), none, .bin .lss (.t 13) (.t 12)⟩])
 (.seq (.cond (.t 14) .skip
 (.exit 0))
 (.seq (.block 1 (.seq (.reg [⟨(some 15), none, .iaddr 9 (.t 11) (.t 13)⟩,
  ⟨(some 16), none, .load (some 9) (.t 15)⟩,
  ⟨(some 5), none, .alloc [(.int .i64 0), (.str []), (.int .i64 0), (.int .i64 0), (.str []), (.sl .clip []), (.sl .clip []), (.sl .clip []), (.sl .clip [])] false⟩,
  ⟨none, none, .store 9 (.t 5) (.t 16)⟩])
 (.reg [⟨(some 17), none, .mov (.t 3)⟩,
  ⟨(some 18), none, .load (some 9) (.t 5)⟩,
  ⟨(some 19), none, .call 0 [] (.c (.fn 10 [])) [(.t 18)]⟩,
  ⟨(some 20), none, .bin .add (.t 17) (.t 19)⟩,
  ⟨(some 3), none, .mov (.t 20)⟩])))
 (.reg [⟨(some 21), none, .bin .add (.t 13) (.c (.int .i64 1))⟩,
  ⟨(some 13), none, .mov (.t 21)⟩])))))))
 (.seq (.seq (.reg [⟨(some 22), none, .faddr 7 (.t 1)⟩,
  ⟨(some 23), none, .load none (.t 22)⟩,
  ⟨(some 24), none, .len 1 (.t 23)⟩,
  ⟨(some 25), none, .mov (.c (.int .i64 0))⟩])
 (.block 2 (.loop [3, 23, 24, 25] [1] (.seq (.reg [⟨(some 26), none, .bin .lss (.t 25) (.t 24)⟩])
 (.seq (.cond (.t 26) .skip
 (.exit 2))
 (.seq (.block 3 (.seq (.reg [⟨(some 27), none, .iaddr 11 (.t 23) (.t 25)⟩,
  ⟨(some 28), none, .load (some 11) (.t 27)⟩,
  ⟨(some 7), none, .alloc [(.str []), (.sl .clip []), (.int .i64 0), (.str []), (.int .i64 0), (.int .i64 0), (.str []), (.sl .clip []), (.sl .clip []), (.sl .clip []), (.sl .clip [])] false⟩,
  ⟨none, none, .store 11 (.t 7) (.t 28)⟩])
 (.reg [⟨(some 29), none, .mov (.t 3)⟩,
  ⟨(some 30), none, .faddr 2 (.t 7)⟩,
  ⟨(some 31), none, .load (some 9) (.t 30)⟩,
  ⟨(some 32), none, .call 0 [] (.c (.fn 10 [])) [(.t 31)]⟩,
  ⟨(some 33), none, .bin .add (.t 29) (.t 32)⟩,
  ⟨(some 3), none, .mov (.t 33)⟩])))
 (.reg [⟨(some 34), none, .bin .add (.t 25) (.c (.int .i64 1))⟩,
  ⟨(some 25), none, .mov (.t 34)⟩])))))))
 (.seq (.seq (.reg [⟨(some 35), none, .faddr 8 (.t 1)⟩,
  ⟨(some 36), none, .load none (.t 35)⟩,
  ⟨(some 37), none, .len 1 (.t 36)⟩,
  ⟨(some 38), none, .mov (.c (.int .i64 0))⟩])
 (.block 4 (.loop [3, 36, 37, 38] [] (.seq (.reg [⟨(some 39), none, .bin .lss (.t 38) (.t 37)⟩])
 (.seq (.cond (.t 39) .skip
 (.exit 4))
 (.seq (.block 5 (.seq (.reg [⟨(some 40), none, .iaddr 13 (.t 36) (.t 38)⟩,
  ⟨(some 41), none, .load (some 13) (.t 40)⟩,
  ⟨(some 9), none, .alloc [(.str []), (.int .i64 0), (.str []), (.sl .clip []), (.int .i64 0), (.str []), (.int .i64 0), (.int .i64 0), (.str []), (.sl .clip []), (.sl .clip []), (.sl .clip []), (.sl .clip [])] false⟩,
  ⟨none, none, .store 13 (.t 9) (.t 41)⟩])
 (.reg [⟨(some 42), none, .mov (.t 3)⟩,
  ⟨(some 43), none, .faddr 4 (.t 9)⟩,
  ⟨(some 44), none, .load (some 9) (.t 43)⟩,
  ⟨(some 45), none, .call 0 [] (.c (.fn 10 [])) [(.t 44)]⟩,
  ⟨(some 46), none, .bin .add (.t 42) (.t 45)⟩,
  ⟨(some 3), none, .mov (.t 46)⟩])))
 (.reg [⟨(some 47), none, .bin .add (.t 38) (.c (.int .i64 1))⟩,
  ⟨(some 38), none, .mov (.t 47)⟩])))))))
 (.seq (.reg [⟨(some 48), none, .mov (.t 3)⟩,
  ⟨(some 2), none, .mov (.t 48)⟩])
 .ret)))))),
  [.t 2], false, true, 49⟩
theorem co10 : compF Try.prog ⟨[], [(3, [3, 11, 12, 13], [1]), (8, [3, 23, 24, 25], [1]), (13, [3, 36, 37, 38], [])], [], [], [], []⟩ false true Try.f10 = some ac10 := by kernel_rfl

/-- paideia/term.App -/
def ac11 : AF := ⟨(.seq (.reg [⟨(some 2), none, .box (.t 0) 9 false⟩,
  ⟨(some 4), none, .alloc [(.int .i64 0), (.str []), (.int .i64 0), (.int .i64 0), (.str []), (.sl .clip []), (.sl .clip []), (.sl .clip []), (.sl .clip [])] false⟩])
 (.seq (.seq (.reg [⟨(some 7), none, .mov (.t 1)⟩,
  ⟨(some 8), none, .len 1 (.t 7)⟩,
  ⟨(some 9), none, .mov (.c (.int .i64 0))⟩])
 (.block 0 (.loop [7, 8, 9] [2, 4] (.seq (.reg [⟨(some 10), none, .bin .lss (.t 9) (.t 8)⟩])
 (.seq (.cond (.t 10) .skip
 (.exit 0))
 (.seq (.block 1 (.seq (.reg [⟨(some 11), none, .iaddr 9 (.t 7) (.t 9)⟩,
  ⟨(some 12), none, .load (some 9) (.t 11)⟩,
  ⟨(some 6), none, .alloc [(.int .i64 0), (.str []), (.int .i64 0), (.int .i64 0), (.str []), (.sl .clip []), (.sl .clip []), (.sl .clip []), (.sl .clip [])] false⟩,
  ⟨none, none, .store 9 (.t 6) (.t 12)⟩])
 (.reg [⟨(some 13), none, .load (some 9) (.t 2)⟩,
  ⟨(some 14), none, .load (some 9) (.t 6)⟩,
  ⟨(some 15), none, .bslice [(.int .i64 0), (.str []), (.int .i64 0), (.int .i64 0), (.str []), (.sl .clip []), (.sl .clip []), (.sl .clip []), (.sl .clip [])] 2 [(0, (.t 13)), (1, (.t 14))]⟩,
  ⟨(some 16), none, .build [(.int .i64 0), (.str []), (.int .i64 0), (.int .i64 0), (.str []), (.sl .clip []), (.sl .clip []), (.sl .clip []), (.sl .clip [])] [(0, 1, (.c (.int .i64 5))), (6, 1, (.t 15))]⟩,
  ⟨none, none, .store 9 (.t 2) (.t 16)⟩])))
 (.reg [⟨(some 17), none, .bin .add (.t 9) (.c (.int .i64 1))⟩,
  ⟨(some 9), none, .mov (.t 17)⟩])))))))
 (.seq (.reg [⟨(some 18), none, .load (some 9) (.t 2)⟩,
  ⟨none, none, .store 9 (.t 4) (.t 18)⟩])
 .ret))),
  [.cell 4 (some 9)], false, true, 19⟩
theorem co11 : compF Try.prog ⟨[], [(2, [7, 8, 9], [2, 4])], [], [], [], []⟩ false true Try.f11 = some ac11 := by kernel_rfl

/-- paideia/term.Prims -/
def ac12 : AF := ⟨(.seq (.reg [⟨(some 0), none, .mov (.c (.sl .clip []))⟩])
 (.seq (.reg [⟨(some 1), none, .bslice [(.str [])] 9 [(0, (.c (.str [112, 114, 105, 109, 73, 110, 116, 69, 113]))), (1, (.c (.str [112, 114, 105, 109, 73, 110, 116, 76, 101, 115, 115]))), (2, (.c (.str [112, 114, 105, 109, 73, 110, 116, 65, 100, 100]))), (3, (.c (.str [112, 114, 105, 109, 73, 110, 116, 83, 117, 98]))), (4, (.c (.str [112, 114, 105, 109, 73, 110, 116, 77, 117, 108]))), (5, (.c (.str [112, 114, 105, 109, 73, 110, 116, 83, 104, 111, 119]))), (6, (.c (.str [112, 114, 105, 109, 67, 104, 97, 114, 69, 113]))), (7, (.c (.str [112, 114, 105, 109, 67, 104, 97, 114, 76, 101, 115, 115]))), (8, (.c (.str [112, 114, 105, 109, 67, 104, 97, 114, 83, 104, 111, 119])))]⟩,
  ⟨(some 0), none, .mov (.t 1)⟩])
 .ret)),
  [.t 0], false, true, 2⟩
theorem co12 : compF Try.prog ⟨[], [], [], [], [], []⟩ false true Try.f12 = some ac12 := by kernel_rfl

/-- (*paideia/paideiamake.Seq).Next -/
def ac13 : AF := ⟨(.seq (.reg [⟨(some 4), none, .mov (.c (.int .i64 0))⟩])
 (.seq (.reg [⟨(some 5), none, .mov (.c (.int .i64 0))⟩])
 (.seq (.seq (.reg [⟨(some 6), none, .mov (.t 0)⟩,
  ⟨(some 7), none, .nilck (.t 6)⟩,
  ⟨(some 8), none, .faddr 1 (.t 7)⟩,
  ⟨(some 9), none, .load none (.t 8)⟩,
  ⟨(some 10), none, .mov (.t 0)⟩,
  ⟨(some 11), none, .nilck (.t 10)⟩,
  ⟨(some 12), none, .faddr 0 (.t 11)⟩,
  ⟨(some 13), none, .load none (.t 12)⟩,
  ⟨(some 14), none, .len 1 (.t 13)⟩,
  ⟨(some 15), none, .bin .lss (.t 9) (.t 14)⟩])
 (.cond (.t 15) (.reg [⟨(some 16), none, .mov (.t 0)⟩,
  ⟨(some 17), none, .nilck (.t 16)⟩,
  ⟨(some 18), none, .faddr 0 (.t 17)⟩,
  ⟨(some 19), none, .load none (.t 18)⟩,
  ⟨(some 20), none, .mov (.t 0)⟩,
  ⟨(some 21), none, .nilck (.t 20)⟩,
  ⟨(some 22), none, .faddr 1 (.t 21)⟩,
  ⟨(some 23), none, .load none (.t 22)⟩,
  ⟨(some 24), none, .iaddr 1 (.t 19) (.t 23)⟩,
  ⟨(some 25), none, .load none (.t 24)⟩,
  ⟨(some 5), none, .mov (.t 25)⟩])
 .skip))
 (.seq (.reg [⟨(some 26), none, .mov (.t 0)⟩,
  ⟨(some 27), none, .mov (.t 0)⟩,
  ⟨(some 28), none, .nilck (.t 27)⟩,
  ⟨(some 29), none, .faddr 1 (.t 28)⟩,
  ⟨(some 30), none, .load none (.t 29)⟩,
  ⟨(some 31), none, .bin .add (.t 30) (.c (.int .i64 1))⟩,
  ⟨(some 32), none, .nilck (.t 26)⟩,
  ⟨(some 33), none, .faddr 1 (.t 32)⟩,
  ⟨none, none, .store 1 (.t 33) (.t 31)⟩])
 (.seq (.reg [⟨(some 34), none, .mov (.t 5)⟩,
  ⟨(some 35), none, .mov (.t 1)⟩,
  ⟨(some 36), none, .call 0 [] (.c (.fn 19 [])) [(.t 34), (.t 35)]⟩,
  ⟨(some 4), none, .mov (.t 36)⟩])
 .ret))))),
  [.t 4], false, true, 37⟩
theorem co13 : compF Try.prog ⟨[], [], [], [], [], []⟩ false true Try.f13 = some ac13 := by kernel_rfl

/-- paideia/paideiamake.word -/
def ac14 : AF := ⟨(.seq (.reg [⟨(some 4), none, .mov (.c (.str []))⟩])
 (.seq (.reg [⟨(some 5), none, .mov (.t 1)⟩,
  ⟨(some 6), none, .mov (.t 0)⟩,
  ⟨(some 7), none, .mov (.t 1)⟩,
  ⟨(some 8), none, .len 1 (.t 7)⟩,
  ⟨(some 9), none, .call 0 [] (.c (.fn 13 [])) [(.t 6), (.t 8)]⟩,
  ⟨(some 10), none, .iaddr 1 (.t 5) (.t 9)⟩,
  ⟨(some 11), none, .load none (.t 10)⟩,
  ⟨(some 4), none, .mov (.t 11)⟩])
 .ret)),
  [.t 4], false, true, 12⟩
theorem co14 : compF Try.prog ⟨[], [], [], [], [], []⟩ false true Try.f14 = some ac14 := by kernel_rfl

/-- paideia/paideiaref.Texts -/
def ac15 : AF := ⟨(.seq (.reg [⟨(some 2), none, .mov (.c (.sl .clip []))⟩])
 (.seq (.reg [⟨(some 5), none, .mov (.t 0)⟩,
  ⟨(some 6), none, .len 1 (.t 5)⟩,
  ⟨(some 7), none, .mkslice [(.str [])] (.c (.int .i64 0)) (.t 6)⟩,
  ⟨(some 3), none, .mov (.t 7)⟩])
 (.seq (.seq (.reg [⟨(some 4), none, .mov (.c (.int .i64 0))⟩])
 (.block 0 (.loop [0, 3, 4] [] (.seq (.seq (.reg [⟨(some 8), none, .mov (.t 4)⟩,
  ⟨(some 9), none, .mov (.t 0)⟩,
  ⟨(some 10), none, .len 1 (.t 9)⟩,
  ⟨(some 11), none, .bin .lss (.t 8) (.t 10)⟩])
 (.cond (.t 11) .skip
 (.exit 0)))
 (.seq (.block 1 (.reg [⟨(some 14), none, .mov (.t 3)⟩,
  ⟨(some 15), none, .mov (.t 0)⟩,
  ⟨(some 16), none, .mov (.t 4)⟩,
  ⟨(some 17), none, .iaddr 1 (.t 15) (.t 16)⟩,
  ⟨(some 18), none, .load none (.t 17)⟩,
  ⟨(some 19), none, .bslice [(.str [])] 1 [(0, (.t 18))]⟩,
  ⟨(some 20), none, .append 1 (.t 14) (.t 19)⟩,
  ⟨(some 3), none, .mov (.t 20)⟩]))
 (.reg [⟨(some 12), none, .mov (.t 4)⟩,
  ⟨(some 13), none, .bin .add (.t 12) (.c (.int .i64 1))⟩,
  ⟨(some 4), none, .mov (.t 13)⟩]))))))
 (.seq (.reg [⟨(some 21), none, .mov (.t 3)⟩,
  ⟨(some 2), none, .mov (.t 21)⟩])
 .ret)))),
  [.t 2], true, false, 22⟩
theorem co15 : compF Try.prog ⟨[], [(3, [0, 3, 4], [])], [], [], [], []⟩ true false Try.f15 = some ac15 := by kernel_rfl

/-- paideia/paideiamake.Type -/
def ac16 : AF := ⟨(.seq (.reg [⟨(some 4), none, .alloc [(.int .i64 0), (.str []), (.sl .clip [])] false⟩])
 (.seq (.reg [⟨(some 8), none, .mov (.t 0)⟩,
  ⟨(some 9), none, .call 0 [] (.c (.fn 13 [])) [(.t 8), (.c (.int .i64 9))]⟩,
  ⟨(some 5), none, .mov (.t 9)⟩])
 (.seq (.seq (.reg [⟨(some 10), none, .mov (.t 1)⟩,
  ⟨(some 11), none, .bin .lss (.t 10) (.c (.int .i64 1))⟩])
 (.cond (.t 11) (.reg [⟨(some 12), none, .mov (.t 5)⟩,
  ⟨(some 13), none, .bin .rem (.t 12) (.c (.int .i64 5))⟩,
  ⟨(some 5), none, .mov (.t 13)⟩])
 .skip))
 (.seq (.seq (.reg [⟨(some 14), none, .mov (.t 5)⟩])
 (.block 0 (.seq (.seq (.reg [⟨(some 16), none, .bin .eql (.t 14) (.c (.int .i64 0))⟩,
  ⟨(some 15), none, .mov (.t 16)⟩])
 (.cond (.t 15) .skip
 (.seq (.reg [⟨(some 17), none, .bin .eql (.t 14) (.c (.int .i64 1))⟩,
  ⟨(some 15), none, .mov (.t 17)⟩])
 (.cond (.t 15) .skip
 (.reg [⟨(some 18), none, .bin .eql (.t 14) (.c (.int .i64 2))⟩,
  ⟨(some 15), none, .mov (.t 18)⟩])))))
 (.cond (.t 15) (.seq (.reg [⟨(some 19), none, .bslice [(.str [])] 3 [(0, (.c (.str [97]))), (1, (.c (.str [98]))), (2, (.c (.str [99])))]⟩,
  ⟨(some 20), none, .mov (.t 5)⟩,
  ⟨(some 21), none, .iaddr 1 (.t 19) (.t 20)⟩,
  ⟨(some 22), none, .load none (.t 21)⟩,
  ⟨(some 23), none, .call 0 [] (.c (.fn 20 [])) [(.t 22)]⟩,
  ⟨none, none, .store 3 (.t 4) (.t 23)⟩])
 .ret)
 (.seq (.reg [⟨(some 25), none, .bin .eql (.t 14) (.c (.int .i64 3))⟩,
  ⟨(some 24), none, .mov (.t 25)⟩])
 (.cond (.t 24) (.seq (.reg [⟨(some 26), none, .call 0 [] (.c (.fn 21 [])) [(.c (.str [73, 110, 116])), (.c (.sl .clip []))]⟩,
  ⟨none, none, .store 3 (.t 4) (.t 26)⟩])
 .ret)
 (.seq (.reg [⟨(some 28), none, .bin .eql (.t 14) (.c (.int .i64 4))⟩,
  ⟨(some 27), none, .mov (.t 28)⟩])
 (.cond (.t 27) (.seq (.reg [⟨(some 29), none, .call 0 [] (.c (.fn 21 [])) [(.c (.str [66, 111, 111, 108])), (.c (.sl .clip []))]⟩,
  ⟨none, none, .store 3 (.t 4) (.t 29)⟩])
 .ret)
 (.seq (.reg [⟨(some 31), none, .bin .eql (.t 14) (.c (.int .i64 5))⟩,
  ⟨(some 30), none, .mov (.t 31)⟩])
 (.cond (.t 30) (.seq (.reg [⟨(some 32), none, .mov (.t 0)⟩,
  ⟨(some 33), none, .mov (.t 1)⟩,
  ⟨(some 34), none, .bin .sub (.t 33) (.c (.int .i64 1))⟩,
  ⟨(some 35), none, .call 0 [] (.c (.fn 16 [])) [(.t 32), (.t 34)]⟩,
  ⟨(some 36), none, .bslice [(.int .i64 0), (.str []), (.sl .clip [])] 1 [(0, (.t 35))]⟩,
  ⟨(some 37), none, .call 0 [] (.c (.fn 21 [])) [(.c (.str [76, 105, 115, 116])), (.t 36)]⟩,
  ⟨none, none, .store 3 (.t 4) (.t 37)⟩])
 .ret)
 (.seq (.reg [⟨(some 39), none, .bin .eql (.t 14) (.c (.int .i64 6))⟩,
  ⟨(some 38), none, .mov (.t 39)⟩])
 (.cond (.t 38) (.seq (.reg [⟨(some 40), none, .mov (.t 0)⟩,
  ⟨(some 41), none, .mov (.t 1)⟩,
  ⟨(some 42), none, .bin .sub (.t 41) (.c (.int .i64 1))⟩,
  ⟨(some 43), none, .call 0 [] (.c (.fn 16 [])) [(.t 40), (.t 42)]⟩,
  ⟨(some 6), none, .alloc [(.int .i64 0), (.str []), (.sl .clip [])] false⟩,
  ⟨none, none, .store 3 (.t 6) (.t 43)⟩])
 (.seq (.reg [⟨(some 44), none, .loadL (some 3) (.t 6)⟩,
  ⟨(some 45), none, .mov (.t 0)⟩,
  ⟨(some 46), none, .mov (.t 1)⟩,
  ⟨(some 47), none, .bin .sub (.t 46) (.c (.int .i64 1))⟩,
  ⟨(some 48), none, .call 0 [] (.c (.fn 16 [])) [(.t 45), (.t 47)]⟩,
  ⟨(some 49), none, .bslice [(.int .i64 0), (.str []), (.sl .clip [])] 2 [(0, (.t 44)), (1, (.t 48))]⟩,
  ⟨(some 50), none, .call 0 [] (.c (.fn 21 [])) [(.c (.str [80, 97, 105, 114])), (.t 49)]⟩,
  ⟨none, none, .store 3 (.t 4) (.t 50)⟩])
 .ret))
 .skip))))))))))))
 (.seq (.reg [⟨(some 51), none, .mov (.t 0)⟩,
  ⟨(some 52), none, .mov (.t 1)⟩,
  ⟨(some 53), none, .bin .sub (.t 52) (.c (.int .i64 1))⟩,
  ⟨(some 54), none, .call 0 [] (.c (.fn 16 [])) [(.t 51), (.t 53)]⟩,
  ⟨(some 7), none, .alloc [(.int .i64 0), (.str []), (.sl .clip [])] false⟩,
  ⟨none, none, .store 3 (.t 7) (.t 54)⟩])
 (.seq (.reg [⟨(some 55), none, .loadL (some 3) (.t 7)⟩,
  ⟨(some 56), none, .mov (.t 0)⟩,
  ⟨(some 57), none, .mov (.t 1)⟩,
  ⟨(some 58), none, .bin .sub (.t 57) (.c (.int .i64 1))⟩,
  ⟨(some 59), none, .call 0 [] (.c (.fn 16 [])) [(.t 56), (.t 58)]⟩,
  ⟨(some 60), none, .call 0 [] (.c (.fn 22 [])) [(.t 55), (.t 59)]⟩,
  ⟨none, none, .store 3 (.t 4) (.t 60)⟩])
 .ret)))))),
  [.cell 4 (some 3)], false, true, 61⟩
theorem co16 : compF Try.prog ⟨[], [], [], [], [], []⟩ false true Try.f16 = some ac16 := by kernel_rfl

/-- paideia/paideiaref.Place -/
def ac17 : AF := ⟨(.seq (.reg [⟨(some 4), none, .mov (.c (.int .i64 0))⟩])
 (.seq (.seq (.reg [⟨(some 5), none, .mov (.c (.int .i64 0))⟩])
 (.block 0 (.loop [0, 1, 5] [] (.seq (.seq (.reg [⟨(some 6), none, .mov (.t 5)⟩,
  ⟨(some 7), none, .mov (.t 0)⟩,
  ⟨(some 8), none, .len 1 (.t 7)⟩,
  ⟨(some 9), none, .bin .lss (.t 6) (.t 8)⟩])
 (.cond (.t 9) .skip
 (.exit 0)))
 (.seq (.block 1 (.seq (.reg [⟨(some 12), none, .mov (.t 0)⟩,
  ⟨(some 13), none, .mov (.t 5)⟩,
  ⟨(some 14), none, .iaddr 1 (.t 12) (.t 13)⟩,
  ⟨(some 15), none, .load none (.t 14)⟩,
  ⟨(some 16), none, .mov (.t 1)⟩,
  ⟨(some 17), none, .bin .eql (.t 15) (.t 16)⟩])
 (.cond (.t 17) (.seq (.reg [⟨(some 18), none, .mov (.t 5)⟩,
  ⟨(some 4), none, .mov (.t 18)⟩])
 .ret)
 .skip)))
 (.reg [⟨(some 10), none, .mov (.t 5)⟩,
  ⟨(some 11), none, .bin .add (.t 10) (.c (.int .i64 1))⟩,
  ⟨(some 5), none, .mov (.t 11)⟩]))))))
 (.seq (.reg [⟨(some 4), none, .mov (.c (.int .i64 (-1)))⟩])
 .ret))),
  [.t 4], false, true, 19⟩
theorem co17 : compF Try.prog ⟨[], [(2, [0, 1, 5], [])], [], [], [], []⟩ false true Try.f17 = some ac17 := by kernel_rfl

/-- (*paideia/term.free).term -/
def ac18 : AF := ⟨(.seq (.reg [⟨(some 2), none, .fbox (.t 0) 1⟩,
  ⟨(some 3), none, .fbox (.t 1) 9⟩])
 (.seq (.reg [⟨(some 9), none, .faddr 0 (.t 3)⟩,
  ⟨(some 10), none, .load none (.t 9)⟩])
 (.block 0 (.seq (.reg [⟨(some 30), none, .bin .eql (.t 10) (.c (.int .i64 1))⟩,
  ⟨(some 29), none, .mov (.t 30)⟩])
 (.cond (.t 29) (.seq (.reg [⟨(some 31), none, .load none (.t 2)⟩,
  ⟨(some 32), none, .nilck (.t 31)⟩,
  ⟨(some 33), none, .faddr 0 (.t 32)⟩,
  ⟨(some 34), none, .load none (.t 33)⟩,
  ⟨(some 35), none, .faddr 1 (.t 3)⟩,
  ⟨(some 36), none, .load none (.t 35)⟩,
  ⟨(some 37), none, .lookup .str (.int .i64 0) (.t 34) (.t 36) false⟩,
  ⟨(some 38), none, .bin .eql (.t 37) (.c (.int .i64 0))⟩,
  ⟨(some 39), none, .mov (.t 38)⟩,
  ⟨(some 40), (some (39, true)), .load none (.t 2)⟩,
  ⟨(some 41), (some (39, true)), .nilck (.t 40)⟩,
  ⟨(some 42), (some (39, true)), .faddr 1 (.t 41)⟩,
  ⟨(some 43), (some (39, true)), .load none (.t 42)⟩,
  ⟨(some 44), (some (39, true)), .faddr 1 (.t 3)⟩,
  ⟨(some 45), (some (39, true)), .load none (.t 44)⟩,
  ⟨(some 46), (some (39, true)), .lookup .str (.bool false) (.t 43) (.t 45) false⟩,
  ⟨(some 47), (some (39, true)), .not (.t 46)⟩,
  ⟨(some 48), none, .pick (.t 39) (.t 47) (.c (.bool false))⟩])
 (.cond (.t 48) (.seq (.reg [⟨(some 49), none, .load none (.t 2)⟩,
  ⟨(some 50), none, .nilck (.t 49)⟩,
  ⟨(some 51), none, .faddr 1 (.t 50)⟩,
  ⟨(some 52), none, .load none (.t 51)⟩,
  ⟨(some 53), none, .faddr 1 (.t 3)⟩,
  ⟨(some 54), none, .load none (.t 53)⟩,
  ⟨none, none, .mapset .str (.t 52) (.t 54) (.c (.bool true))⟩])
 (.reg [⟨(some 55), none, .loadL none (.t 2)⟩,
  ⟨(some 56), none, .load none (.t 2)⟩,
  ⟨(some 57), none, .nilck (.t 56)⟩,
  ⟨(some 58), none, .faddr 2 (.t 57)⟩,
  ⟨(some 59), none, .load none (.t 58)⟩,
  ⟨(some 60), none, .faddr 1 (.t 3)⟩,
  ⟨(some 61), none, .load none (.t 60)⟩,
  ⟨(some 62), none, .bslice [(.str [])] 1 [(0, (.t 61))]⟩,
  ⟨(some 63), none, .append 1 (.t 59) (.t 62)⟩,
  ⟨(some 64), none, .nilck (.t 55)⟩,
  ⟨(some 65), none, .faddr 2 (.t 64)⟩,
  ⟨none, none, .store 1 (.t 65) (.t 63)⟩]))
 .skip))
 (.seq (.reg [⟨(some 67), none, .bin .eql (.t 10) (.c (.int .i64 6))⟩,
  ⟨(some 66), none, .mov (.t 67)⟩])
 (.cond (.t 66) (.reg [⟨(some 68), none, .load none (.t 2)⟩,
  ⟨(some 69), none, .faddr 1 (.t 3)⟩,
  ⟨(some 70), none, .load none (.t 69)⟩,
  ⟨(some 71), none, .bslice [(.str [])] 1 [(0, (.t 70))]⟩,
  ⟨(some 72), none, .mkfn 24 [(.t 2), (.t 3)]⟩,
  ⟨(some 73), none, .call 0 [] (.c (.fn 23 [])) [(.t 68), (.t 71), (.t 72)]⟩])
 (.seq (.reg [⟨(some 75), none, .bin .eql (.t 10) (.c (.int .i64 9))⟩,
  ⟨(some 74), none, .mov (.t 75)⟩])
 (.cond (.t 74) (.seq (.reg [⟨(some 4), none, .mov (.c (.sl .clip []))⟩])
 (.seq (.seq (.reg [⟨(some 76), none, .faddr 8 (.t 3)⟩,
  ⟨(some 77), none, .load none (.t 76)⟩,
  ⟨(some 78), none, .len 1 (.t 77)⟩,
  ⟨(some 79), none, .mov (.c (.int .i64 0))⟩])
 (.block 3 (.loop [2, 3, 4, 77, 78, 79] [] (.seq (.reg [⟨(some 80), none, .bin .lss (.t 79) (.t 78)⟩])
 (.seq (.cond (.t 80) .skip
 (.exit 3))
 (.seq (.block 4 (.seq (.reg [⟨(some 81), none, .iaddr 13 (.t 77) (.t 79)⟩,
  ⟨(some 82), none, .load (some 13) (.t 81)⟩,
  ⟨(some 6), none, .alloc [(.str []), (.int .i64 0), (.str []), (.sl .clip []), (.int .i64 0), (.str []), (.int .i64 0), (.int .i64 0), (.str []), (.sl .clip []), (.sl .clip []), (.sl .clip []), (.sl .clip [])] false⟩,
  ⟨none, none, .store 13 (.t 6) (.t 82)⟩])
 (.reg [⟨(some 83), none, .mov (.t 4)⟩,
  ⟨(some 84), none, .faddr 0 (.t 6)⟩,
  ⟨(some 85), none, .load none (.t 84)⟩,
  ⟨(some 86), none, .bslice [(.str [])] 1 [(0, (.t 85))]⟩,
  ⟨(some 87), none, .append 1 (.t 83) (.t 86)⟩,
  ⟨(some 4), none, .mov (.t 87)⟩])))
 (.reg [⟨(some 88), none, .bin .add (.t 79) (.c (.int .i64 1))⟩,
  ⟨(some 79), none, .mov (.t 88)⟩])))))))
 (.reg [⟨(some 89), none, .load none (.t 2)⟩,
  ⟨(some 90), none, .mov (.t 4)⟩,
  ⟨(some 91), none, .mkfn 26 [(.t 3), (.t 2)]⟩,
  ⟨(some 92), none, .call 0 [] (.c (.fn 23 [])) [(.t 89), (.t 90), (.t 91)]⟩])))
 (.seq (.reg [⟨(some 11), none, .load none (.t 2)⟩,
  ⟨(some 12), none, .faddr 6 (.t 3)⟩,
  ⟨(some 13), none, .load none (.t 12)⟩,
  ⟨(some 14), none, .call 0 [] (.c (.fn 25 [])) [(.t 11), (.t 13)]⟩])
 (.seq (.reg [⟨(some 15), none, .faddr 7 (.t 3)⟩,
  ⟨(some 16), none, .load none (.t 15)⟩,
  ⟨(some 17), none, .len 1 (.t 16)⟩,
  ⟨(some 18), none, .mov (.c (.int .i64 0))⟩])
 (.block 1 (.loop [2, 16, 17, 18] [] (.seq (.reg [⟨(some 19), none, .bin .lss (.t 18) (.t 17)⟩])
 (.seq (.cond (.t 19) .skip
 (.exit 1))
 (.seq (.block 2 (.seq (.reg [⟨(some 20), none, .iaddr 11 (.t 16) (.t 18)⟩,
  ⟨(some 21), none, .load (some 11) (.t 20)⟩,
  ⟨(some 8), none, .alloc [(.str []), (.sl .clip []), (.int .i64 0), (.str []), (.int .i64 0), (.int .i64 0), (.str []), (.sl .clip []), (.sl .clip []), (.sl .clip []), (.sl .clip [])] true⟩,
  ⟨none, none, .store 11 (.t 8) (.t 21)⟩])
 (.reg [⟨(some 22), none, .loadL none (.t 2)⟩,
  ⟨(some 23), none, .faddr 1 (.t 8)⟩,
  ⟨(some 24), none, .load none (.t 23)⟩,
  ⟨(some 25), none, .call 0 [] (.c (.fn 27 [])) [(.t 24)]⟩,
  ⟨(some 26), none, .mkfn 28 [(.t 2), (.t 8)]⟩,
  ⟨(some 27), none, .call 0 [] (.c (.fn 23 [])) [(.t 22), (.t 25), (.t 26)]⟩])))
 (.reg [⟨(some 28), none, .bin .add (.t 18) (.c (.int .i64 1))⟩,
  ⟨(some 18), none, .mov (.t 28)⟩]))))))))))))))))),
  [], false, false, 93⟩
theorem co18 : compF Try.prog ⟨[8], [(4, [2, 16, 17, 18], []), (17, [2, 3, 4, 77, 78, 79], [])], [], [], [2, 3], []⟩ false false Try.f18 = some ac18 := by kernel_rfl

/-- paideia/paideiaworld.Number -/
def ac19 : AF := ⟨(.seq (.reg [⟨(some 4), none, .mov (.c (.int .i64 0))⟩])
 (.seq (.reg [⟨(some 6), none, .mov (.t 0)⟩,
  ⟨(some 7), none, .mov (.t 1)⟩,
  ⟨(some 8), none, .bin .rem (.t 6) (.t 7)⟩,
  ⟨(some 5), none, .mov (.t 8)⟩])
 (.seq (.seq (.reg [⟨(some 9), none, .mov (.t 5)⟩,
  ⟨(some 10), none, .bin .lss (.t 9) (.c (.int .i64 0))⟩])
 (.cond (.t 10) (.reg [⟨(some 11), none, .mov (.t 5)⟩,
  ⟨(some 12), none, .mov (.t 1)⟩,
  ⟨(some 13), none, .bin .add (.t 11) (.t 12)⟩,
  ⟨(some 5), none, .mov (.t 13)⟩])
 .skip))
 (.seq (.reg [⟨(some 14), none, .mov (.t 5)⟩,
  ⟨(some 4), none, .mov (.t 14)⟩])
 .ret)))),
  [.t 4], false, true, 15⟩
theorem co19 : compF Try.prog ⟨[], [], [], [], [], []⟩ false true Try.f19 = some ac19 := by kernel_rfl

/-- paideia/paideiaref4.Var -/
def ac20 : AF := ⟨(.seq (.reg [⟨(some 2), none, .alloc [(.int .i64 0), (.str []), (.sl .clip [])] false⟩])
 (.seq (.reg [⟨(some 3), none, .mov (.t 0)⟩,
  ⟨(some 4), none, .build [(.int .i64 0), (.str []), (.sl .clip [])] [(0, 1, (.c (.int .i64 1))), (1, 1, (.t 3))]⟩,
  ⟨none, none, .store 3 (.t 2) (.t 4)⟩])
 .ret)),
  [.cell 2 (some 3)], false, true, 5⟩
theorem co20 : compF Try.prog ⟨[], [], [], [], [], []⟩ false true Try.f20 = some ac20 := by kernel_rfl

/-- paideia/paideiaref4.Con -/
def ac21 : AF := ⟨(.seq (.reg [⟨(some 4), none, .alloc [(.int .i64 0), (.str []), (.sl .clip [])] false⟩])
 (.seq (.reg [⟨(some 5), none, .mov (.t 0)⟩,
  ⟨(some 6), none, .mov (.t 1)⟩,
  ⟨(some 7), none, .build [(.int .i64 0), (.str []), (.sl .clip [])] [(0, 1, (.c (.int .i64 2))), (1, 1, (.t 5)), (2, 1, (.t 6))]⟩,
  ⟨none, none, .store 3 (.t 4) (.t 7)⟩])
 .ret)),
  [.cell 4 (some 3)], false, true, 8⟩
theorem co21 : compF Try.prog ⟨[], [], [], [], [], []⟩ false true Try.f21 = some ac21 := by kernel_rfl

/-- paideia/paideiaref4.Fun2 -/
def ac22 : AF := ⟨(.seq (.reg [⟨(some 2), none, .box (.t 0) 3 false⟩,
  ⟨(some 3), none, .box (.t 1) 3 false⟩,
  ⟨(some 4), none, .alloc [(.int .i64 0), (.str []), (.sl .clip [])] false⟩])
 (.seq (.reg [⟨(some 5), none, .load (some 3) (.t 2)⟩,
  ⟨(some 6), none, .load (some 3) (.t 3)⟩,
  ⟨(some 7), none, .bslice [(.int .i64 0), (.str []), (.sl .clip [])] 2 [(0, (.t 5)), (1, (.t 6))]⟩,
  ⟨(some 8), none, .build [(.int .i64 0), (.str []), (.sl .clip [])] [(0, 1, (.c (.int .i64 3))), (2, 1, (.t 7))]⟩,
  ⟨none, none, .store 3 (.t 4) (.t 8)⟩])
 .ret)),
  [.cell 4 (some 3)], false, true, 9⟩
theorem co22 : compF Try.prog ⟨[], [], [], [], [], []⟩ false true Try.f22 = some ac22 := by kernel_rfl

/-- (*paideia/term.free).with -/
def ac23 : AF := ⟨(.seq (.seq (.reg [⟨(some 10), none, .mov (.t 1)⟩,
  ⟨(some 11), none, .len 1 (.t 10)⟩,
  ⟨(some 12), none, .mov (.c (.int .i64 0))⟩])
 (.block 0 (.loop [0, 1, 2, 10, 11, 12] [] (.seq (.reg [⟨(some 13), none, .bin .lss (.t 12) (.t 11)⟩])
 (.seq (.cond (.t 13) .skip
 (.exit 0))
 (.seq (.block 1 (.seq (.reg [⟨(some 14), none, .iaddr 1 (.t 10) (.t 12)⟩,
  ⟨(some 15), none, .load none (.t 14)⟩,
  ⟨(some 7), none, .mov (.t 15)⟩])
 (.reg [⟨(some 16), none, .mov (.t 0)⟩,
  ⟨(some 17), none, .nilck (.t 16)⟩,
  ⟨(some 18), none, .faddr 0 (.t 17)⟩,
  ⟨(some 19), none, .load none (.t 18)⟩,
  ⟨(some 20), none, .mov (.t 7)⟩,
  ⟨(some 21), none, .lookup .str (.int .i64 0) (.t 19) (.t 20) false⟩,
  ⟨(some 22), none, .bin .add (.t 21) (.c (.int .i64 1))⟩,
  ⟨none, none, .mapset .str (.t 19) (.t 20) (.t 22)⟩])))
 (.reg [⟨(some 23), none, .bin .add (.t 12) (.c (.int .i64 1))⟩,
  ⟨(some 12), none, .mov (.t 23)⟩])))))))
 (.seq (.reg [⟨(some 24), none, .mov (.t 2)⟩,
  ⟨(some 25), none, .call 0 [] (.t 24) []⟩])
 (.seq (.reg [⟨(some 26), none, .mov (.t 1)⟩,
  ⟨(some 27), none, .len 1 (.t 26)⟩,
  ⟨(some 28), none, .mov (.c (.int .i64 0))⟩])
 (.block 2 (.loop [0, 26, 27, 28] [] (.seq (.reg [⟨(some 29), none, .bin .lss (.t 28) (.t 27)⟩])
 (.seq (.cond (.t 29) .skip
 (.exit 2))
 (.seq (.block 3 (.seq (.reg [⟨(some 30), none, .iaddr 1 (.t 26) (.t 28)⟩,
  ⟨(some 31), none, .load none (.t 30)⟩,
  ⟨(some 9), none, .mov (.t 31)⟩])
 (.reg [⟨(some 32), none, .mov (.t 0)⟩,
  ⟨(some 33), none, .nilck (.t 32)⟩,
  ⟨(some 34), none, .faddr 0 (.t 33)⟩,
  ⟨(some 35), none, .load none (.t 34)⟩,
  ⟨(some 36), none, .mov (.t 9)⟩,
  ⟨(some 37), none, .lookup .str (.int .i64 0) (.t 35) (.t 36) false⟩,
  ⟨(some 38), none, .bin .sub (.t 37) (.c (.int .i64 1))⟩,
  ⟨none, none, .mapset .str (.t 35) (.t 36) (.t 38)⟩])))
 (.reg [⟨(some 39), none, .bin .add (.t 28) (.c (.int .i64 1))⟩,
  ⟨(some 28), none, .mov (.t 39)⟩]))))))))),
  [], false, false, 40⟩
theorem co23 : compF Try.prog ⟨[], [(1, [0, 1, 2, 10, 11, 12], []), (7, [0, 26, 27, 28], [])], [], [], [], []⟩ false false Try.f23 = some ac23 := by kernel_rfl

/-- (*paideia/term.free).term$1 -/
def ac24 : AF := ⟨(.reg [⟨(some 2), none, .load none (.t 0)⟩,
  ⟨(some 3), none, .faddr 6 (.t 1)⟩,
  ⟨(some 4), none, .load none (.t 3)⟩,
  ⟨(some 5), none, .call 0 [] (.c (.fn 25 [])) [(.t 2), (.t 4)]⟩]),
  [], false, false, 6⟩
theorem co24 : compF Try.prog ⟨[], [], [], [], [], []⟩ false false Try.f24 = some ac24 := by kernel_rfl

/-- (*paideia/term.free).all -/
def ac25 : AF := ⟨(.seq (.reg [⟨(some 6), none, .mov (.t 1)⟩,
  ⟨(some 7), none, .len 1 (.t 6)⟩,
  ⟨(some 8), none, .mov (.c (.int .i64 0))⟩])
 (.block 0 (.loop [0, 6, 7, 8] [] (.seq (.reg [⟨(some 9), none, .bin .lss (.t 8) (.t 7)⟩])
 (.seq (.cond (.t 9) .skip
 (.exit 0))
 (.seq (.block 1 (.seq (.reg [⟨(some 10), none, .iaddr 9 (.t 6) (.t 8)⟩,
  ⟨(some 11), none, .load (some 9) (.t 10)⟩,
  ⟨(some 5), none, .alloc [(.int .i64 0), (.str []), (.int .i64 0), (.int .i64 0), (.str []), (.sl .clip []), (.sl .clip []), (.sl .clip []), (.sl .clip [])] false⟩,
  ⟨none, none, .store 9 (.t 5) (.t 11)⟩])
 (.reg [⟨(some 12), none, .mov (.t 0)⟩,
  ⟨(some 13), none, .load (some 9) (.t 5)⟩,
  ⟨(some 14), none, .call 0 [] (.c (.fn 18 [])) [(.t 12), (.t 13)]⟩])))
 (.reg [⟨(some 15), none, .bin .add (.t 8) (.c (.int .i64 1))⟩,
  ⟨(some 8), none, .mov (.t 15)⟩]))))))),
  [], false, false, 16⟩
theorem co25 : compF Try.prog ⟨[], [(1, [0, 6, 7, 8], [])], [], [], [], []⟩ false false Try.f25 = some ac25 := by kernel_rfl

/-- (*paideia/term.free).term$2 -/
def ac26 : AF := ⟨(.seq (.seq (.reg [⟨(some 4), none, .faddr 8 (.t 0)⟩,
  ⟨(some 5), none, .load none (.t 4)⟩,
  ⟨(some 6), none, .len 1 (.t 5)⟩,
  ⟨(some 7), none, .mov (.c (.int .i64 0))⟩])
 (.block 0 (.loop [0, 1, 5, 6, 7] [] (.seq (.reg [⟨(some 8), none, .bin .lss (.t 7) (.t 6)⟩])
 (.seq (.cond (.t 8) .skip
 (.exit 0))
 (.seq (.block 1 (.seq (.reg [⟨(some 9), none, .iaddr 13 (.t 5) (.t 7)⟩,
  ⟨(some 10), none, .load (some 13) (.t 9)⟩,
  ⟨(some 3), none, .alloc [(.str []), (.int .i64 0), (.str []), (.sl .clip []), (.int .i64 0), (.str []), (.int .i64 0), (.int .i64 0), (.str []), (.sl .clip []), (.sl .clip []), (.sl .clip []), (.sl .clip [])] false⟩,
  ⟨none, none, .store 13 (.t 3) (.t 10)⟩])
 (.reg [⟨(some 11), none, .load none (.t 1)⟩,
  ⟨(some 12), none, .faddr 4 (.t 3)⟩,
  ⟨(some 13), none, .load (some 9) (.t 12)⟩,
  ⟨(some 14), none, .call 0 [] (.c (.fn 18 [])) [(.t 11), (.t 13)]⟩])))
 (.reg [⟨(some 15), none, .bin .add (.t 7) (.c (.int .i64 1))⟩,
  ⟨(some 7), none, .mov (.t 15)⟩])))))))
 (.reg [⟨(some 16), none, .load none (.t 1)⟩,
  ⟨(some 17), none, .faddr 6 (.t 0)⟩,
  ⟨(some 18), none, .load none (.t 17)⟩,
  ⟨(some 19), none, .call 0 [] (.c (.fn 25 [])) [(.t 16), (.t 18)]⟩])),
  [], false, false, 20⟩
theorem co26 : compF Try.prog ⟨[], [(1, [0, 1, 5, 6, 7], [])], [], [], [], []⟩ false false Try.f26 = some ac26 := by kernel_rfl

/-- paideia/term.Bound -/
def ac27 : AF := ⟨(.seq (.reg [⟨(some 2), none, .mov (.c (.sl .clip []))⟩])
 (.seq (.reg [⟨(some 3), none, .mov (.c (.sl .clip []))⟩])
 (.seq (.seq (.reg [⟨(some 6), none, .mov (.t 0)⟩,
  ⟨(some 7), none, .len 1 (.t 6)⟩,
  ⟨(some 8), none, .mov (.c (.int .i64 0))⟩])
 (.block 0 (.loop [3, 6, 7, 8] [] (.seq (.reg [⟨(some 9), none, .bin .lss (.t 8) (.t 7)⟩])
 (.seq (.cond (.t 9) .skip
 (.exit 0))
 (.seq (.block 1 (.seq (.reg [⟨(some 10), none, .iaddr 1 (.t 6) (.t 8)⟩,
  ⟨(some 11), none, .load none (.t 10)⟩,
  ⟨(some 5), none, .mov (.t 11)⟩])
 (.seq (.reg [⟨(some 12), none, .mov (.t 5)⟩,
  ⟨(some 13), none, .bin .neq (.t 12) (.c (.str [95]))⟩])
 (.cond (.t 13) (.reg [⟨(some 14), none, .mov (.t 3)⟩,
  ⟨(some 15), none, .mov (.t 5)⟩,
  ⟨(some 16), none, .bslice [(.str [])] 1 [(0, (.t 15))]⟩,
  ⟨(some 17), none, .append 1 (.t 14) (.t 16)⟩,
  ⟨(some 3), none, .mov (.t 17)⟩])
 .skip))))
 (.reg [⟨(some 18), none, .bin .add (.t 8) (.c (.int .i64 1))⟩,
  ⟨(some 8), none, .mov (.t 18)⟩])))))))
 (.seq (.reg [⟨(some 19), none, .mov (.t 3)⟩,
  ⟨(some 2), none, .mov (.t 19)⟩])
 .ret)))),
  [.t 2], false, true, 20⟩
theorem co27 : compF Try.prog ⟨[], [(3, [3, 6, 7, 8], [])], [], [], [], []⟩ false true Try.f27 = some ac27 := by kernel_rfl

/-- (*paideia/term.free).term$3 -/
def ac28 : AF := ⟨(.reg [⟨(some 2), none, .load none (.t 0)⟩,
  ⟨(some 3), none, .faddr 2 (.t 1)⟩,
  ⟨(some 4), none, .load (some 9) (.t 3)⟩,
  ⟨(some 5), none, .call 0 [] (.c (.fn 18 [])) [(.t 2), (.t 4)]⟩]),
  [], false, false, 6⟩
theorem co28 : compF Try.prog ⟨[], [], [], [], [], []⟩ false false Try.f28 = some ac28 := by kernel_rfl



def ap1 : AP := fun f vr => match f, vr with
  | 28, 0 => some (.code ac28)
  | _, _ => none

theorem table1 : TableOk Try.prog ap1 [] := by
  intro f vr fd h
  unfold ap1 at h
  split at h
  · cases h; exact ⟨_, _, Try.func28, co28, by decide⟩
  · cases h

def ap0 : AP := fun f vr => match f, vr with
  | 3, 0 => some (.code ac3)
  | 4, 0 => some (.code ac4)
  | 5, 0 => some (.code ac5)
  | 6, 0 => some (.code ac6)
  | 7, 0 => some (.code ac7)
  | 8, 0 => some (.code ac8)
  | 9, 0 => some (.code ac9)
  | 10, 0 => some (.code ac10)
  | 11, 0 => some (.code ac11)
  | 12, 0 => some (.code ac12)
  | 13, 0 => some (.code ac13)
  | 14, 0 => some (.code ac14)
  | 15, 0 => some (.code ac15)
  | 16, 0 => some (.code ac16)
  | 17, 0 => some (.code ac17)
  | 18, 0 => some (.code ac18)
  | 19, 0 => some (.code ac19)
  | 20, 0 => some (.code ac20)
  | 21, 0 => some (.code ac21)
  | 22, 0 => some (.code ac22)
  | 23, 0 => some (.code ac23)
  | 24, 0 => some (.code ac24)
  | 25, 0 => some (.code ac25)
  | 26, 0 => some (.code ac26)
  | 27, 0 => some (.code ac27)
  | f, vr => ap1 f vr

theorem table0 : TableOk Try.prog ap0 [] := by
  intro f vr fd h
  unfold ap0 at h
  split at h
  · cases h; exact ⟨_, _, Try.func3, co3, by decide⟩
  · cases h; exact ⟨_, _, Try.func4, co4, by decide⟩
  · cases h; exact ⟨_, _, Try.func5, co5, by decide⟩
  · cases h; exact ⟨_, _, Try.func6, co6, by decide⟩
  · cases h; exact ⟨_, _, Try.func7, co7, by decide⟩
  · cases h; exact ⟨_, _, Try.func8, co8, by decide⟩
  · cases h; exact ⟨_, _, Try.func9, co9, by decide⟩
  · cases h; exact ⟨_, _, Try.func10, co10, by decide⟩
  · cases h; exact ⟨_, _, Try.func11, co11, by decide⟩
  · cases h; exact ⟨_, _, Try.func12, co12, by decide⟩
  · cases h; exact ⟨_, _, Try.func13, co13, by decide⟩
  · cases h; exact ⟨_, _, Try.func14, co14, by decide⟩
  · cases h; exact ⟨_, _, Try.func15, co15, by decide⟩
  · cases h; exact ⟨_, _, Try.func16, co16, by decide⟩
  · cases h; exact ⟨_, _, Try.func17, co17, by decide⟩
  · cases h; exact ⟨_, _, Try.func18, co18, by decide⟩
  · cases h; exact ⟨_, _, Try.func19, co19, by decide⟩
  · cases h; exact ⟨_, _, Try.func20, co20, by decide⟩
  · cases h; exact ⟨_, _, Try.func21, co21, by decide⟩
  · cases h; exact ⟨_, _, Try.func22, co22, by decide⟩
  · cases h; exact ⟨_, _, Try.func23, co23, by decide⟩
  · cases h; exact ⟨_, _, Try.func24, co24, by decide⟩
  · cases h; exact ⟨_, _, Try.func25, co25, by decide⟩
  · cases h; exact ⟨_, _, Try.func26, co26, by decide⟩
  · cases h; exact ⟨_, _, Try.func27, co27, by decide⟩
  · exact table1 _ _ _ h

def ap : AP := ap0
theorem tableOk : TableOk Try.prog ap [] := table0

end Go.Tt
