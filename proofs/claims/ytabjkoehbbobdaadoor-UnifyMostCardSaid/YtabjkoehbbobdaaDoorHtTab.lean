/- The seat's functions on the abstract machine. -/
import Derived.Test.YtabjkoehbbobdaaDoorAmX
import Derived.Test.YtabjkoehbbobdaaDoorAmZ
import Derived.Test.YtabjkoehbbobdaaDoorAmL
import Derived.Test.YtabjkoehbbobdaaDoorProg
namespace Go.Ht
open Go.Am Go.Proofs

set_option maxRecDepth 100000
/-- paideia/paideialaw6.UnifyMost -/
def ac4 : AF := ⟨(.seq (.reg [⟨(some 6), none, .mov (.c (.bool false))⟩])
 (.seq (.reg [⟨(some 19), none, .call 0 [] (.c (.fn 8 [])) []⟩,
  ⟨(some 7), none, .mov (.t 19)⟩])
 (.seq (.seq (.reg [⟨(some 20), none, .mov (.t 7)⟩,
  ⟨(some 21), none, .not (.t 20)⟩])
 (.cond (.t 21) (.seq (.reg [⟨(some 6), none, .mov (.c (.bool false))⟩])
 .ret)
 .skip))
 (.seq (.seq (.reg [⟨(some 22), none, .mov (.t 0)⟩,
  ⟨(some 23), none, .len 1 (.t 22)⟩,
  ⟨(some 24), none, .bin .gtr (.t 23) (.c (.int .i64 60))⟩,
  ⟨(some 25), none, .mov (.t 24)⟩,
  ⟨(some 26), (some (25, false)), .mov (.t 1)⟩,
  ⟨(some 27), (some (25, false)), .len 1 (.t 26)⟩,
  ⟨(some 28), (some (25, false)), .bin .gtr (.t 27) (.c (.int .i64 60))⟩,
  ⟨(some 29), none, .pick (.t 25) (.c (.bool true)) (.t 28)⟩,
  ⟨(some 30), none, .mov (.t 29)⟩,
  ⟨(some 31), (some (30, false)), .mov (.t 2)⟩,
  ⟨(some 32), (some (30, false)), .len 1 (.t 31)⟩,
  ⟨(some 33), (some (30, false)), .bin .gtr (.t 32) (.c (.int .i64 60))⟩,
  ⟨(some 34), none, .pick (.t 30) (.c (.bool true)) (.t 33)⟩])
 (.cond (.t 34) (.seq (.reg [⟨(some 35), none, .mov (.t 7)⟩,
  ⟨(some 6), none, .mov (.t 35)⟩])
 .ret)
 .skip))
 (.seq (.reg [⟨(some 36), none, .mov (.t 0)⟩,
  ⟨(some 37), none, .build [(.sl .clip []), (.int .i64 0)] [(0, 1, (.t 36))]⟩,
  ⟨(some 38), none, .box (.t 37) 2 true⟩,
  ⟨(some 39), none, .call 0 [] (.c (.fn 9 [])) [(.t 38), (.c (.int .i64 3))]⟩,
  ⟨(some 8), none, .alloc [(.int .i64 0), (.str []), (.sl .clip [])] false⟩,
  ⟨none, none, .store 3 (.t 8) (.t 39)⟩])
 (.seq (.reg [⟨(some 40), none, .mov (.t 1)⟩,
  ⟨(some 41), none, .build [(.sl .clip []), (.int .i64 0)] [(0, 1, (.t 40))]⟩,
  ⟨(some 42), none, .box (.t 41) 2 true⟩,
  ⟨(some 9), none, .mov (.t 42)⟩])
 (.seq (.reg [⟨(some 43), none, .mov (.t 2)⟩,
  ⟨(some 44), none, .build [(.sl .clip []), (.int .i64 0)] [(0, 1, (.t 43))]⟩,
  ⟨(some 45), none, .box (.t 44) 2 true⟩,
  ⟨(some 10), none, .mov (.t 45)⟩])
 (.seq (.reg [⟨(some 46), none, .mov (.t 9)⟩,
  ⟨(some 47), none, .call 0 [] (.c (.fn 18 [])) [(.t 46)]⟩,
  ⟨(some 48), none, .build [(.str []), (.int .i64 0), (.str []), (.sl .clip [])] [(0, 1, (.c (.str [97]))), (1, 3, (.t 47))]⟩,
  ⟨(some 49), none, .mov (.t 9)⟩,
  ⟨(some 50), none, .call 0 [] (.c (.fn 18 [])) [(.t 49)]⟩,
  ⟨(some 51), none, .build [(.str []), (.int .i64 0), (.str []), (.sl .clip [])] [(0, 1, (.c (.str [98]))), (1, 3, (.t 50))]⟩,
  ⟨(some 52), none, .mov (.t 9)⟩,
  ⟨(some 53), none, .call 0 [] (.c (.fn 18 [])) [(.t 52)]⟩,
  ⟨(some 54), none, .build [(.str []), (.int .i64 0), (.str []), (.sl .clip [])] [(0, 1, (.c (.str [99]))), (1, 3, (.t 53))]⟩,
  ⟨(some 55), none, .bslice [(.str []), (.int .i64 0), (.str []), (.sl .clip [])] 3 [(0, (.t 48)), (1, (.t 51)), (2, (.t 54))]⟩,
  ⟨(some 11), none, .mov (.t 55)⟩])
 (.seq (.reg [⟨(some 56), none, .mov (.t 11)⟩,
  ⟨(some 57), none, .load (some 3) (.t 8)⟩,
  ⟨(some 58), none, .call 0 [] (.c (.fn 15 [])) [(.t 56), (.t 57)]⟩,
  ⟨(some 12), none, .alloc [(.int .i64 0), (.str []), (.sl .clip [])] false⟩,
  ⟨none, none, .store 3 (.t 12) (.t 58)⟩])
 (.seq (.reg [⟨(some 59), none, .load (some 3) (.t 12)⟩,
  ⟨(some 60), none, .mov (.t 10)⟩,
  ⟨(some 61), none, .call 0 [] (.c (.fn 19 [])) [(.t 59), (.t 60)]⟩,
  ⟨(some 13), none, .alloc [(.int .i64 0), (.str []), (.sl .clip [])] false⟩,
  ⟨none, none, .store 3 (.t 13) (.t 61)⟩])
 (.seq (.reg [⟨(some 63), none, .load (some 3) (.t 8)⟩,
  ⟨(some 64), none, .load (some 3) (.t 13)⟩,
  ⟨(some 65), none, .call 0 [] (.c (.fn 10 [])) [(.t 63), (.t 64)]⟩,
  ⟨(some 62), none, .mov (.t 65)⟩,
  ⟨(some 66), none, .extract (.t 62) 0⟩,
  ⟨(some 67), none, .extract (.t 62) 1⟩,
  ⟨(some 14), none, .alloc [(.map none)] false⟩,
  ⟨none, none, .store 1 (.t 14) (.t 66)⟩,
  ⟨(some 15), none, .mov (.t 67)⟩])
 (.seq (.seq (.reg [⟨(some 68), none, .mov (.t 15)⟩,
  ⟨(some 69), none, .eqnil .iface true (.t 68)⟩])
 (.cond (.t 69) (.seq (.reg [⟨(some 6), none, .mov (.c (.bool false))⟩])
 .ret)
 .skip))
 (.seq (.reg [⟨(some 70), none, .load (some 1) (.t 14)⟩,
  ⟨(some 71), none, .load (some 3) (.t 8)⟩,
  ⟨(some 72), none, .call 0 [] (.c (.fn 14 [])) [(.t 70), (.t 71)]⟩,
  ⟨(some 16), none, .alloc [(.int .i64 0), (.str []), (.sl .clip [])] false⟩,
  ⟨none, none, .store 3 (.t 16) (.t 72)⟩])
 (.seq (.reg [⟨(some 74), none, .load (some 3) (.t 16)⟩,
  ⟨(some 75), none, .load (some 3) (.t 12)⟩,
  ⟨(some 76), none, .call 0 [] (.c (.fn 20 [])) [(.t 74), (.t 75)]⟩,
  ⟨(some 73), none, .mov (.t 76)⟩,
  ⟨(some 77), none, .extract (.t 73) 0⟩,
  ⟨(some 78), none, .extract (.t 73) 1⟩,
  ⟨(some 17), none, .mov (.t 77)⟩,
  ⟨(some 18), none, .mov (.t 78)⟩])
 (.seq (.reg [⟨(some 79), none, .mov (.t 7)⟩,
  ⟨(some 80), none, .mov (.t 79)⟩,
  ⟨(some 81), (some (80, true)), .mov (.t 18)⟩,
  ⟨(some 82), none, .pick (.t 80) (.t 81) (.c (.bool false))⟩,
  ⟨(some 6), none, .mov (.t 82)⟩])
 .ret))))))))))))))),
  [.t 6], false, true, 83⟩
theorem co4 : compF Tryd.prog ⟨[38, 42, 45], [], [], [], [], []⟩ false true Tryd.f4 = some ac4 := by kernel_rfl

/-- paideia/paideialaw6.UnifyRows -/
def ac5 : AF := ⟨(.seq (.reg [⟨(some 6), none, .mov (.c (.bool false))⟩])
 (.seq (.reg [⟨(some 21), none, .call 0 [] (.c (.fn 8 [])) []⟩,
  ⟨(some 7), none, .mov (.t 21)⟩])
 (.seq (.seq (.reg [⟨(some 22), none, .mov (.t 7)⟩,
  ⟨(some 23), none, .not (.t 22)⟩])
 (.cond (.t 23) (.seq (.reg [⟨(some 6), none, .mov (.c (.bool false))⟩])
 .ret)
 .skip))
 (.seq (.reg [⟨(some 24), none, .mov (.t 0)⟩,
  ⟨(some 25), none, .call 0 [] (.c (.fn 21 [])) [(.t 24), (.c (.int .i64 20))]⟩,
  ⟨(some 26), none, .bin .add (.t 25) (.c (.int .i64 1))⟩,
  ⟨(some 0), none, .mov (.t 26)⟩])
 (.seq (.seq (.reg [⟨(some 27), none, .mov (.t 1)⟩,
  ⟨(some 28), none, .len 1 (.t 27)⟩,
  ⟨(some 29), none, .mov (.t 0)⟩,
  ⟨(some 30), none, .bin .lss (.t 28) (.t 29)⟩,
  ⟨(some 31), none, .mov (.t 30)⟩,
  ⟨(some 32), (some (31, false)), .mov (.t 2)⟩,
  ⟨(some 33), (some (31, false)), .len 1 (.t 32)⟩,
  ⟨(some 34), (some (31, false)), .bin .gtr (.t 33) (.c (.int .i64 40))⟩,
  ⟨(some 35), none, .pick (.t 31) (.c (.bool true)) (.t 34)⟩])
 (.cond (.t 35) (.seq (.reg [⟨(some 36), none, .mov (.t 7)⟩,
  ⟨(some 6), none, .mov (.t 36)⟩])
 .ret)
 .skip))
 (.seq (.reg [⟨(some 8), none, .mov (.c (.sl .clip []))⟩])
 (.seq (.seq (.reg [⟨(some 9), none, .mov (.c (.int .i64 0))⟩])
 (.block 0 (.loop [0, 1, 2, 7, 8, 9] [] (.seq (.seq (.reg [⟨(some 37), none, .mov (.t 9)⟩,
  ⟨(some 38), none, .mov (.t 0)⟩,
  ⟨(some 39), none, .bin .lss (.t 37) (.t 38)⟩])
 (.cond (.t 39) .skip
 (.exit 0)))
 (.seq (.block 1 (.seq (.reg [⟨(some 42), none, .mov (.t 9)⟩,
  ⟨(some 43), none, .bin .add (.c (.int .i64 97)) (.t 42)⟩,
  ⟨(some 44), none, .conv (.int .u8) (.t 43)⟩,
  ⟨(some 45), none, .bslice [(.int .u8 0)] 1 [(0, (.t 44))]⟩,
  ⟨(some 46), none, .conv .text (.t 45)⟩,
  ⟨(some 47), none, .bin .add (.c (.str [118])) (.t 46)⟩,
  ⟨(some 48), none, .build [(.int .i64 0), (.str []), (.sl .clip [])] [(0, 1, (.c (.int .i64 1))), (1, 1, (.t 47))]⟩,
  ⟨(some 10), none, .alloc [(.int .i64 0), (.str []), (.sl .clip [])] false⟩,
  ⟨none, none, .store 3 (.t 10) (.t 48)⟩])
 (.seq (.reg [⟨(some 49), none, .mov (.t 9)⟩,
  ⟨(some 50), none, .bin .add (.c (.int .i64 97)) (.t 49)⟩,
  ⟨(some 51), none, .bin .add (.t 50) (.c (.int .i64 1))⟩,
  ⟨(some 52), none, .conv (.int .u8) (.t 51)⟩,
  ⟨(some 53), none, .bslice [(.int .u8 0)] 1 [(0, (.t 52))]⟩,
  ⟨(some 54), none, .conv .text (.t 53)⟩,
  ⟨(some 55), none, .bin .add (.c (.str [118])) (.t 54)⟩,
  ⟨(some 56), none, .build [(.int .i64 0), (.str []), (.sl .clip [])] [(0, 1, (.c (.int .i64 1))), (1, 1, (.t 55))]⟩,
  ⟨(some 11), none, .alloc [(.int .i64 0), (.str []), (.sl .clip [])] false⟩,
  ⟨none, none, .store 3 (.t 11) (.t 56)⟩])
 (.seq (.seq (.reg [⟨(some 57), none, .mov (.t 1)⟩,
  ⟨(some 58), none, .mov (.t 9)⟩,
  ⟨(some 59), none, .iaddr 1 (.t 57) (.t 58)⟩,
  ⟨(some 60), none, .load none (.t 59)⟩])
 (.cond (.t 60) (.reg [⟨(some 61), none, .load (some 3) (.t 11)⟩,
  ⟨(some 62), none, .load (some 3) (.t 10)⟩,
  ⟨none, none, .store 3 (.t 10) (.t 61)⟩,
  ⟨none, none, .store 3 (.t 11) (.t 62)⟩])
 .skip))
 (.reg [⟨(some 63), none, .mov (.t 8)⟩,
  ⟨(some 64), none, .load (some 3) (.t 10)⟩,
  ⟨(some 65), none, .load (some 3) (.t 11)⟩,
  ⟨(some 66), none, .build [(.int .i64 0), (.str []), (.sl .clip []), (.int .i64 0), (.str []), (.sl .clip [])] [(0, 3, (.t 64)), (3, 3, (.t 65))]⟩,
  ⟨(some 67), none, .bslice [(.int .i64 0), (.str []), (.sl .clip []), (.int .i64 0), (.str []), (.sl .clip [])] 1 [(0, (.t 66))]⟩,
  ⟨(some 68), none, .append 6 (.t 63) (.t 67)⟩,
  ⟨(some 8), none, .mov (.t 68)⟩])))))
 (.reg [⟨(some 40), none, .mov (.t 9)⟩,
  ⟨(some 41), none, .bin .add (.t 40) (.c (.int .i64 1))⟩,
  ⟨(some 9), none, .mov (.t 41)⟩]))))))
 (.seq (.reg [⟨(some 69), none, .mov (.t 2)⟩,
  ⟨(some 70), none, .build [(.sl .clip []), (.int .i64 0)] [(0, 1, (.t 69))]⟩,
  ⟨(some 71), none, .box (.t 70) 2 true⟩,
  ⟨(some 72), none, .call 0 [] (.c (.fn 9 [])) [(.t 71), (.c (.int .i64 2))]⟩,
  ⟨(some 12), none, .alloc [(.int .i64 0), (.str []), (.sl .clip [])] false⟩,
  ⟨none, none, .store 3 (.t 12) (.t 72)⟩])
 (.seq (.reg [⟨(some 73), none, .mov (.t 0)⟩,
  ⟨(some 74), none, .bin .add (.c (.int .i64 97)) (.t 73)⟩,
  ⟨(some 75), none, .conv (.int .u8) (.t 74)⟩,
  ⟨(some 76), none, .bslice [(.int .u8 0)] 1 [(0, (.t 75))]⟩,
  ⟨(some 77), none, .conv .text (.t 76)⟩,
  ⟨(some 78), none, .bin .add (.c (.str [118])) (.t 77)⟩,
  ⟨(some 79), none, .build [(.int .i64 0), (.str []), (.sl .clip [])] [(0, 1, (.c (.int .i64 1))), (1, 1, (.t 78))]⟩,
  ⟨(some 13), none, .alloc [(.int .i64 0), (.str []), (.sl .clip [])] false⟩,
  ⟨none, none, .store 3 (.t 13) (.t 79)⟩])
 (.seq (.reg [⟨(some 81), none, .mov (.t 8)⟩,
  ⟨(some 82), none, .call 0 [] (.c (.fn 16 [])) [(.t 81)]⟩,
  ⟨(some 80), none, .mov (.t 82)⟩,
  ⟨(some 83), none, .extract (.t 80) 0⟩,
  ⟨(some 84), none, .extract (.t 80) 1⟩,
  ⟨(some 14), none, .alloc [(.map none)] false⟩,
  ⟨none, none, .store 1 (.t 14) (.t 83)⟩,
  ⟨(some 15), none, .mov (.t 84)⟩])
 (.seq (.reg [⟨(some 86), none, .mov (.t 8)⟩,
  ⟨(some 87), none, .load (some 3) (.t 13)⟩,
  ⟨(some 88), none, .load (some 3) (.t 12)⟩,
  ⟨(some 89), none, .build [(.int .i64 0), (.str []), (.sl .clip []), (.int .i64 0), (.str []), (.sl .clip [])] [(0, 3, (.t 87)), (3, 3, (.t 88))]⟩,
  ⟨(some 90), none, .bslice [(.int .i64 0), (.str []), (.sl .clip []), (.int .i64 0), (.str []), (.sl .clip [])] 1 [(0, (.t 89))]⟩,
  ⟨(some 91), none, .append 6 (.t 86) (.t 90)⟩,
  ⟨(some 92), none, .call 0 [] (.c (.fn 16 [])) [(.t 91)]⟩,
  ⟨(some 85), none, .mov (.t 92)⟩,
  ⟨(some 93), none, .extract (.t 85) 0⟩,
  ⟨(some 94), none, .extract (.t 85) 1⟩,
  ⟨(some 16), none, .alloc [(.map none)] false⟩,
  ⟨none, none, .store 1 (.t 16) (.t 93)⟩,
  ⟨(some 17), none, .mov (.t 94)⟩])
 (.seq (.seq (.reg [⟨(some 95), none, .mov (.t 15)⟩,
  ⟨(some 96), none, .eqnil .iface true (.t 95)⟩,
  ⟨(some 97), none, .mov (.t 96)⟩,
  ⟨(some 98), (some (97, false)), .mov (.t 17)⟩,
  ⟨(some 99), (some (97, false)), .eqnil .iface true (.t 98)⟩,
  ⟨(some 100), none, .pick (.t 97) (.c (.bool true)) (.t 99)⟩,
  ⟨(some 101), none, .mov (.t 100)⟩,
  ⟨(some 102), (some (101, false)), .load (some 1) (.t 14)⟩,
  ⟨(some 103), (some (101, false)), .call 0 [] (.c (.fn 22 [])) [(.t 102)]⟩,
  ⟨(some 104), (some (101, false)), .mov (.t 0)⟩,
  ⟨(some 105), (some (101, false)), .bin .neq (.t 103) (.t 104)⟩,
  ⟨(some 106), none, .pick (.t 101) (.c (.bool true)) (.t 105)⟩])
 (.cond (.t 106) (.seq (.reg [⟨(some 6), none, .mov (.c (.bool false))⟩])
 .ret)
 .skip))
 (.seq (.reg [⟨(some 107), none, .load (some 1) (.t 14)⟩,
  ⟨(some 108), none, .load (some 3) (.t 13)⟩,
  ⟨(some 109), none, .call 0 [] (.c (.fn 14 [])) [(.t 107), (.t 108)]⟩,
  ⟨(some 18), none, .alloc [(.int .i64 0), (.str []), (.sl .clip [])] false⟩,
  ⟨none, none, .store 3 (.t 18) (.t 109)⟩])
 (.seq (.seq (.reg [⟨(some 19), none, .mov (.c (.int .i64 0))⟩])
 (.block 2 (.loop [0, 7, 19] [12, 14, 16, 18] (.seq (.seq (.reg [⟨(some 110), none, .mov (.t 19)⟩,
  ⟨(some 111), none, .mov (.t 0)⟩,
  ⟨(some 112), none, .bin .leq (.t 110) (.t 111)⟩])
 (.cond (.t 112) .skip
 (.exit 2)))
 (.seq (.block 3 (.seq (.reg [⟨(some 115), none, .mov (.t 19)⟩,
  ⟨(some 116), none, .bin .add (.c (.int .i64 97)) (.t 115)⟩,
  ⟨(some 117), none, .conv (.int .u8) (.t 116)⟩,
  ⟨(some 118), none, .bslice [(.int .u8 0)] 1 [(0, (.t 117))]⟩,
  ⟨(some 119), none, .conv .text (.t 118)⟩,
  ⟨(some 120), none, .bin .add (.c (.str [118])) (.t 119)⟩,
  ⟨(some 121), none, .build [(.int .i64 0), (.str []), (.sl .clip [])] [(0, 1, (.c (.int .i64 1))), (1, 1, (.t 120))]⟩,
  ⟨(some 20), none, .alloc [(.int .i64 0), (.str []), (.sl .clip [])] false⟩,
  ⟨none, none, .store 3 (.t 20) (.t 121)⟩])
 (.seq (.reg [⟨(some 122), none, .load (some 1) (.t 14)⟩,
  ⟨(some 123), none, .load (some 3) (.t 20)⟩,
  ⟨(some 124), none, .call 0 [] (.c (.fn 14 [])) [(.t 122), (.t 123)]⟩,
  ⟨(some 125), none, .loadL (some 3) (.t 18)⟩,
  ⟨(some 126), none, .call 0 [] (.c (.fn 13 [])) [(.t 124), (.t 125)]⟩,
  ⟨(some 127), none, .not (.t 126)⟩,
  ⟨(some 128), none, .mov (.t 127)⟩,
  ⟨(some 129), (some (128, false)), .load (some 1) (.t 16)⟩,
  ⟨(some 130), (some (128, false)), .load (some 3) (.t 20)⟩,
  ⟨(some 131), (some (128, false)), .call 0 [] (.c (.fn 14 [])) [(.t 129), (.t 130)]⟩,
  ⟨(some 132), (some (128, false)), .loadL (some 3) (.t 12)⟩,
  ⟨(some 133), (some (128, false)), .call 0 [] (.c (.fn 13 [])) [(.t 131), (.t 132)]⟩,
  ⟨(some 134), (some (128, false)), .not (.t 133)⟩,
  ⟨(some 135), none, .pick (.t 128) (.c (.bool true)) (.t 134)⟩])
 (.cond (.t 135) (.seq (.reg [⟨(some 6), none, .mov (.c (.bool false))⟩])
 .ret)
 .skip))))
 (.reg [⟨(some 113), none, .mov (.t 19)⟩,
  ⟨(some 114), none, .bin .add (.t 113) (.c (.int .i64 1))⟩,
  ⟨(some 19), none, .mov (.t 114)⟩]))))))
 (.seq (.reg [⟨(some 136), none, .mov (.t 7)⟩,
  ⟨(some 137), none, .mov (.t 136)⟩,
  ⟨(some 138), (some (137, true)), .faddr 0 (.t 18)⟩,
  ⟨(some 139), (some (137, true)), .load none (.t 138)⟩,
  ⟨(some 140), (some (137, true)), .bin .eql (.t 139) (.c (.int .i64 1))⟩,
  ⟨(some 141), none, .pick (.t 137) (.t 140) (.c (.bool false))⟩,
  ⟨(some 6), none, .mov (.t 141)⟩])
 .ret))))))))))))))),
  [.t 6], false, true, 142⟩
theorem co5 : compF Tryd.prog ⟨[71], [(9, [0, 1, 2, 7, 8, 9], []), (24, [0, 7, 19], [12, 14, 16, 18])], [], [], [], []⟩ false true Tryd.f5 = some ac5 := by kernel_rfl

/-- paideia/paideialaw6.first -/
def ac8 : AF := ⟨(.seq (.reg [⟨(some 0), none, .mov (.c (.bool false))⟩])
 (.seq (.reg [⟨(some 4), none, .build [(.int .i64 0), (.str []), (.sl .clip [])] [(0, 1, (.c (.int .i64 1))), (1, 1, (.c (.str [97])))]⟩,
  ⟨(some 1), none, .alloc [(.int .i64 0), (.str []), (.sl .clip [])] false⟩,
  ⟨none, none, .store 3 (.t 1) (.t 4)⟩])
 (.seq (.reg [⟨(some 6), none, .load (some 3) (.t 1)⟩,
  ⟨(some 7), none, .build [(.int .i64 0), (.str []), (.sl .clip [])] [(0, 1, (.c (.int .i64 2))), (1, 1, (.c (.str [73, 110, 116])))]⟩,
  ⟨(some 8), none, .call 0 [] (.c (.fn 10 [])) [(.t 6), (.t 7)]⟩,
  ⟨(some 5), none, .mov (.t 8)⟩,
  ⟨(some 9), none, .extract (.t 5) 0⟩,
  ⟨(some 10), none, .extract (.t 5) 1⟩,
  ⟨(some 2), none, .alloc [(.map none)] false⟩,
  ⟨none, none, .store 1 (.t 2) (.t 9)⟩,
  ⟨(some 3), none, .mov (.t 10)⟩])
 (.seq (.reg [⟨(some 11), none, .mov (.t 3)⟩,
  ⟨(some 12), none, .eqnil .iface false (.t 11)⟩,
  ⟨(some 13), none, .mov (.t 12)⟩,
  ⟨(some 14), (some (13, true)), .load (some 1) (.t 2)⟩,
  ⟨(some 15), (some (13, true)), .call 0 [] (.c (.fn 22 [])) [(.t 14)]⟩,
  ⟨(some 16), (some (13, true)), .bin .eql (.t 15) (.c (.int .i64 1))⟩,
  ⟨(some 17), none, .pick (.t 13) (.t 16) (.c (.bool false))⟩,
  ⟨(some 0), none, .mov (.t 17)⟩])
 .ret)))),
  [.t 0], false, true, 18⟩
theorem co8 : compF Tryd.prog ⟨[], [], [], [], [], []⟩ false true Tryd.f8 = some ac8 := by kernel_rfl

/-- paideia/paideiamake.Type -/
def ac9 : AF := ⟨(.seq (.reg [⟨(some 4), none, .alloc [(.int .i64 0), (.str []), (.sl .clip [])] false⟩])
 (.seq (.reg [⟨(some 8), none, .mov (.t 0)⟩,
  ⟨(some 9), none, .call 0 [] (.c (.fn 34 [])) [(.t 8), (.c (.int .i64 9))]⟩,
  ⟨(some 5), none, .mov (.t 9)⟩])
 (.seq (.seq (.reg [⟨(some 10), none, .mov (.t 1)⟩,
  ⟨(some 11), none, .bin .lss (.t 10) (.c (.int .i64 1))⟩])
 (.cond (.t 11) (.reg [⟨(some 12), none, .mov (.t 5)⟩,
  ⟨(some 13), none, .bin .rem (.t 12) (.c (.int .i64 5))⟩,
  ⟨(some 5), none, .mov (.t 13)⟩])
 .skip))
 (.seq (.seq (.reg [⟨(some 14), none, .mov (.t 5)⟩])
 (.block 0 (.seq (.seq (.reg [⟨(some 16), none, .bin .eql (.t 14) (.c (.int .i64 0))⟩,
  ⟨(some 15), none, .mov (.t 16)⟩])
 (.cond (.t 15) .skip
 (.seq (.reg [⟨(some 17), none, .bin .eql (.t 14) (.c (.int .i64 1))⟩,
  ⟨(some 15), none, .mov (.t 17)⟩])
 (.cond (.t 15) .skip
 (.reg [⟨(some 18), none, .bin .eql (.t 14) (.c (.int .i64 2))⟩,
  ⟨(some 15), none, .mov (.t 18)⟩])))))
 (.cond (.t 15) (.seq (.reg [⟨(some 19), none, .bslice [(.str [])] 3 [(0, (.c (.str [97]))), (1, (.c (.str [98]))), (2, (.c (.str [99])))]⟩,
  ⟨(some 20), none, .mov (.t 5)⟩,
  ⟨(some 21), none, .iaddr 1 (.t 19) (.t 20)⟩,
  ⟨(some 22), none, .load none (.t 21)⟩,
  ⟨(some 23), none, .call 0 [] (.c (.fn 35 [])) [(.t 22)]⟩,
  ⟨none, none, .store 3 (.t 4) (.t 23)⟩])
 .ret)
 (.seq (.reg [⟨(some 25), none, .bin .eql (.t 14) (.c (.int .i64 3))⟩,
  ⟨(some 24), none, .mov (.t 25)⟩])
 (.cond (.t 24) (.seq (.reg [⟨(some 26), none, .call 0 [] (.c (.fn 36 [])) [(.c (.str [73, 110, 116])), (.c (.sl .clip []))]⟩,
  ⟨none, none, .store 3 (.t 4) (.t 26)⟩])
 .ret)
 (.seq (.reg [⟨(some 28), none, .bin .eql (.t 14) (.c (.int .i64 4))⟩,
  ⟨(some 27), none, .mov (.t 28)⟩])
 (.cond (.t 27) (.seq (.reg [⟨(some 29), none, .call 0 [] (.c (.fn 36 [])) [(.c (.str [66, 111, 111, 108])), (.c (.sl .clip []))]⟩,
  ⟨none, none, .store 3 (.t 4) (.t 29)⟩])
 .ret)
 (.seq (.reg [⟨(some 31), none, .bin .eql (.t 14) (.c (.int .i64 5))⟩,
  ⟨(some 30), none, .mov (.t 31)⟩])
 (.cond (.t 30) (.seq (.reg [⟨(some 32), none, .mov (.t 0)⟩,
  ⟨(some 33), none, .mov (.t 1)⟩,
  ⟨(some 34), none, .bin .sub (.t 33) (.c (.int .i64 1))⟩,
  ⟨(some 35), none, .call 0 [] (.c (.fn 9 [])) [(.t 32), (.t 34)]⟩,
  ⟨(some 36), none, .bslice [(.int .i64 0), (.str []), (.sl .clip [])] 1 [(0, (.t 35))]⟩,
  ⟨(some 37), none, .call 0 [] (.c (.fn 36 [])) [(.c (.str [76, 105, 115, 116])), (.t 36)]⟩,
  ⟨none, none, .store 3 (.t 4) (.t 37)⟩])
 .ret)
 (.seq (.reg [⟨(some 39), none, .bin .eql (.t 14) (.c (.int .i64 6))⟩,
  ⟨(some 38), none, .mov (.t 39)⟩])
 (.cond (.t 38) (.seq (.reg [⟨(some 40), none, .mov (.t 0)⟩,
  ⟨(some 41), none, .mov (.t 1)⟩,
  ⟨(some 42), none, .bin .sub (.t 41) (.c (.int .i64 1))⟩,
  ⟨(some 43), none, .call 0 [] (.c (.fn 9 [])) [(.t 40), (.t 42)]⟩,
  ⟨(some 6), none, .alloc [(.int .i64 0), (.str []), (.sl .clip [])] false⟩,
  ⟨none, none, .store 3 (.t 6) (.t 43)⟩])
 (.seq (.reg [⟨(some 44), none, .loadL (some 3) (.t 6)⟩,
  ⟨(some 45), none, .mov (.t 0)⟩,
  ⟨(some 46), none, .mov (.t 1)⟩,
  ⟨(some 47), none, .bin .sub (.t 46) (.c (.int .i64 1))⟩,
  ⟨(some 48), none, .call 0 [] (.c (.fn 9 [])) [(.t 45), (.t 47)]⟩,
  ⟨(some 49), none, .bslice [(.int .i64 0), (.str []), (.sl .clip [])] 2 [(0, (.t 44)), (1, (.t 48))]⟩,
  ⟨(some 50), none, .call 0 [] (.c (.fn 36 [])) [(.c (.str [80, 97, 105, 114])), (.t 49)]⟩,
  ⟨none, none, .store 3 (.t 4) (.t 50)⟩])
 .ret))
 .skip))))))))))))
 (.seq (.reg [⟨(some 51), none, .mov (.t 0)⟩,
  ⟨(some 52), none, .mov (.t 1)⟩,
  ⟨(some 53), none, .bin .sub (.t 52) (.c (.int .i64 1))⟩,
  ⟨(some 54), none, .call 0 [] (.c (.fn 9 [])) [(.t 51), (.t 53)]⟩,
  ⟨(some 7), none, .alloc [(.int .i64 0), (.str []), (.sl .clip [])] false⟩,
  ⟨none, none, .store 3 (.t 7) (.t 54)⟩])
 (.seq (.reg [⟨(some 55), none, .loadL (some 3) (.t 7)⟩,
  ⟨(some 56), none, .mov (.t 0)⟩,
  ⟨(some 57), none, .mov (.t 1)⟩,
  ⟨(some 58), none, .bin .sub (.t 57) (.c (.int .i64 1))⟩,
  ⟨(some 59), none, .call 0 [] (.c (.fn 9 [])) [(.t 56), (.t 58)]⟩,
  ⟨(some 60), none, .call 0 [] (.c (.fn 37 [])) [(.t 55), (.t 59)]⟩,
  ⟨none, none, .store 3 (.t 4) (.t 60)⟩])
 .ret)))))),
  [.cell 4 (some 3)], false, true, 61⟩
theorem co9 : compF Tryd.prog ⟨[], [], [], [], [], []⟩ false true Tryd.f9 = some ac9 := by kernel_rfl

/-- paideia/unify.Unify -/
def ac10 : AF := ⟨(.seq (.reg [⟨(some 2), none, .box (.t 0) 3 false⟩,
  ⟨(some 3), none, .box (.t 1) 3 false⟩,
  ⟨(some 4), none, .alloc [(.map none)] false⟩,
  ⟨(some 5), none, .mov (.c .nili)⟩])
 (.seq (.reg [⟨(some 6), none, .load (some 3) (.t 2)⟩,
  ⟨(some 7), none, .load (some 3) (.t 3)⟩,
  ⟨(some 8), none, .build [(.int .i64 0), (.str []), (.sl .clip []), (.int .i64 0), (.str []), (.sl .clip [])] [(0, 3, (.t 6)), (3, 3, (.t 7))]⟩,
  ⟨(some 9), none, .bslice [(.int .i64 0), (.str []), (.sl .clip []), (.int .i64 0), (.str []), (.sl .clip [])] 1 [(0, (.t 8))]⟩,
  ⟨(some 10), none, .call 0 [] (.c (.fn 16 [])) [(.t 9)]⟩,
  ⟨(some 11), none, .extract (.t 10) 0⟩,
  ⟨(some 12), none, .extract (.t 10) 1⟩,
  ⟨none, none, .store 1 (.t 4) (.t 11)⟩,
  ⟨(some 5), none, .mov (.t 12)⟩])
 .ret)),
  [.cell 4 (some 1), .t 5], false, false, 13⟩
theorem co10 : compF Tryd.prog ⟨[], [], [], [], [], []⟩ false false Tryd.f10 = some ac10 := by kernel_rfl

/-- paideia/paideiaref.SameType -/
def ac13 : AF := ⟨(.seq (.reg [⟨(some 2), none, .box (.t 0) 3 false⟩,
  ⟨(some 3), none, .box (.t 1) 3 false⟩,
  ⟨(some 4), none, .mov (.c (.bool false))⟩])
 (.seq (.reg [⟨(some 5), none, .faddr 0 (.t 2)⟩,
  ⟨(some 6), none, .load none (.t 5)⟩,
  ⟨(some 7), none, .faddr 0 (.t 3)⟩,
  ⟨(some 8), none, .load none (.t 7)⟩,
  ⟨(some 9), none, .bin .eql (.t 6) (.t 8)⟩,
  ⟨(some 10), none, .mov (.t 9)⟩,
  ⟨(some 11), (some (10, true)), .faddr 1 (.t 2)⟩,
  ⟨(some 12), (some (10, true)), .load none (.t 11)⟩,
  ⟨(some 13), (some (10, true)), .faddr 1 (.t 3)⟩,
  ⟨(some 14), (some (10, true)), .load none (.t 13)⟩,
  ⟨(some 15), (some (10, true)), .bin .eql (.t 12) (.t 14)⟩,
  ⟨(some 16), none, .pick (.t 10) (.t 15) (.c (.bool false))⟩,
  ⟨(some 17), none, .mov (.t 16)⟩,
  ⟨(some 18), (some (17, true)), .faddr 2 (.t 2)⟩,
  ⟨(some 19), (some (17, true)), .load none (.t 18)⟩,
  ⟨(some 20), (some (17, true)), .faddr 2 (.t 3)⟩,
  ⟨(some 21), (some (17, true)), .load none (.t 20)⟩,
  ⟨(some 22), (some (17, true)), .call 0 [] (.c (.fn 41 [])) [(.t 19), (.t 21)]⟩,
  ⟨(some 23), none, .pick (.t 17) (.t 22) (.c (.bool false))⟩,
  ⟨(some 4), none, .mov (.t 23)⟩])
 .ret)),
  [.t 4], false, true, 24⟩
theorem co13 : compF Tryd.prog ⟨[], [], [], [], [], []⟩ false true Tryd.f13 = some ac13 := by kernel_rfl

/-- (paideia/subst.Subst).Apply -/
def ac14 : AF := ⟨(.seq (.reg [⟨(some 2), none, .box (.t 0) 1 false⟩,
  ⟨(some 3), none, .box (.t 1) 3 false⟩,
  ⟨(some 4), none, .alloc [(.int .i64 0), (.str []), (.sl .clip [])] false⟩])
 (.seq (.seq (.reg [⟨(some 10), none, .faddr 0 (.t 3)⟩,
  ⟨(some 11), none, .load none (.t 10)⟩,
  ⟨(some 12), none, .bin .eql (.t 11) (.c (.int .i64 1))⟩])
 (.cond (.t 12) (.seq (.reg [⟨(some 14), none, .faddr 0 (.t 2)⟩,
  ⟨(some 15), none, .load none (.t 14)⟩,
  ⟨(some 16), none, .faddr 1 (.t 3)⟩,
  ⟨(some 17), none, .load none (.t 16)⟩,
  ⟨(some 18), none, .lookup .str (.agg [(.int .i64 0), (.str []), (.sl .clip [])]) (.t 15) (.t 17) true⟩,
  ⟨(some 13), none, .mov (.t 18)⟩,
  ⟨(some 19), none, .extract (.t 13) 0⟩,
  ⟨(some 20), none, .extract (.t 13) 1⟩,
  ⟨(some 5), none, .alloc [(.int .i64 0), (.str []), (.sl .clip [])] false⟩,
  ⟨none, none, .store 3 (.t 5) (.t 19)⟩,
  ⟨(some 6), none, .mov (.t 20)⟩])
 (.seq (.reg [⟨(some 21), none, .mov (.t 6)⟩])
 (.cond (.t 21) (.seq (.reg [⟨(some 22), none, .load (some 3) (.t 5)⟩,
  ⟨(some 23), none, .call 0 [] (.c (.fn 42 [])) [(.t 22)]⟩,
  ⟨none, none, .store 3 (.t 4) (.t 23)⟩])
 .ret)
 .skip)))
 .skip))
 (.seq (.reg [⟨(some 24), none, .faddr 0 (.t 3)⟩,
  ⟨(some 25), none, .load none (.t 24)⟩,
  ⟨(some 26), none, .faddr 1 (.t 3)⟩,
  ⟨(some 27), none, .load none (.t 26)⟩,
  ⟨(some 28), none, .build [(.int .i64 0), (.str []), (.sl .clip [])] [(0, 1, (.t 25)), (1, 1, (.t 27))]⟩,
  ⟨(some 7), none, .alloc [(.int .i64 0), (.str []), (.sl .clip [])] false⟩,
  ⟨none, none, .store 3 (.t 7) (.t 28)⟩])
 (.seq (.seq (.reg [⟨(some 29), none, .faddr 2 (.t 3)⟩,
  ⟨(some 30), none, .load none (.t 29)⟩,
  ⟨(some 31), none, .len 1 (.t 30)⟩,
  ⟨(some 32), none, .mov (.c (.int .i64 0))⟩])
 (.block 0 (.loop [30, 31, 32] [2, 4, 7] (.seq (.reg [⟨(some 33), none, .bin .lss (.t 32) (.t 31)⟩])
 (.seq (.cond (.t 33) .skip
 (.exit 0))
 (.seq (.block 1 (.seq (.reg [⟨(some 34), none, .iaddr 3 (.t 30) (.t 32)⟩,
  ⟨(some 35), none, .load (some 3) (.t 34)⟩,
  ⟨(some 9), none, .alloc [(.int .i64 0), (.str []), (.sl .clip [])] false⟩,
  ⟨none, none, .store 3 (.t 9) (.t 35)⟩])
 (.reg [⟨(some 36), none, .faddr 2 (.t 7)⟩,
  ⟨(some 37), none, .loadL none (.t 36)⟩,
  ⟨(some 38), none, .load (some 1) (.t 2)⟩,
  ⟨(some 39), none, .load (some 3) (.t 9)⟩,
  ⟨(some 40), none, .call 0 [] (.c (.fn 14 [])) [(.t 38), (.t 39)]⟩,
  ⟨(some 41), none, .bslice [(.int .i64 0), (.str []), (.sl .clip [])] 1 [(0, (.t 40))]⟩,
  ⟨(some 42), none, .append 3 (.t 37) (.t 41)⟩,
  ⟨(some 43), none, .faddr 2 (.t 7)⟩,
  ⟨none, none, .store 1 (.t 43) (.t 42)⟩])))
 (.reg [⟨(some 44), none, .bin .add (.t 32) (.c (.int .i64 1))⟩,
  ⟨(some 32), none, .mov (.t 44)⟩])))))))
 (.seq (.reg [⟨(some 45), none, .load (some 3) (.t 7)⟩,
  ⟨none, none, .store 3 (.t 4) (.t 45)⟩])
 .ret))))),
  [.cell 4 (some 3)], false, true, 46⟩
theorem co14 : compF Tryd.prog ⟨[], [(7, [30, 31, 32], [2, 4, 7])], [], [], [], []⟩ false true Tryd.f14 = some ac14 := by kernel_rfl

/-- paideia/paideiaref4.Apply -/
def ac15 : AF := ⟨(.seq (.reg [⟨(some 3), none, .box (.t 1) 3 false⟩,
  ⟨(some 4), none, .alloc [(.int .i64 0), (.str []), (.sl .clip [])] false⟩])
 (.seq (.seq (.reg [⟨(some 9), none, .faddr 0 (.t 3)⟩,
  ⟨(some 10), none, .load none (.t 9)⟩,
  ⟨(some 11), none, .bin .eql (.t 10) (.c (.int .i64 1))⟩])
 (.cond (.t 11) (.seq (.reg [⟨(some 13), none, .mov (.t 0)⟩,
  ⟨(some 14), none, .faddr 1 (.t 3)⟩,
  ⟨(some 15), none, .load none (.t 14)⟩,
  ⟨(some 16), none, .call 0 [] (.c (.fn 43 [])) [(.t 13), (.t 15)]⟩,
  ⟨(some 12), none, .mov (.t 16)⟩,
  ⟨(some 17), none, .extract (.t 12) 0⟩,
  ⟨(some 18), none, .extract (.t 12) 1⟩,
  ⟨(some 5), none, .alloc [(.int .i64 0), (.str []), (.sl .clip [])] false⟩,
  ⟨none, none, .store 3 (.t 5) (.t 17)⟩,
  ⟨(some 6), none, .mov (.t 18)⟩])
 (.seq (.seq (.reg [⟨(some 19), none, .mov (.t 6)⟩])
 (.cond (.t 19) (.seq (.reg [⟨(some 20), none, .load (some 3) (.t 5)⟩,
  ⟨none, none, .store 3 (.t 4) (.t 20)⟩])
 .ret)
 .skip))
 (.seq (.reg [⟨(some 21), none, .load (some 3) (.t 3)⟩,
  ⟨none, none, .store 3 (.t 4) (.t 21)⟩])
 .ret)))
 .skip))
 (.seq (.reg [⟨(some 7), none, .mov (.c (.sl .clip []))⟩])
 (.seq (.seq (.reg [⟨(some 8), none, .mov (.c (.int .i64 0))⟩])
 (.block 0 (.loop [0, 7, 8] [3, 4] (.seq (.seq (.reg [⟨(some 22), none, .mov (.t 8)⟩,
  ⟨(some 23), none, .faddr 2 (.t 3)⟩,
  ⟨(some 24), none, .load none (.t 23)⟩,
  ⟨(some 25), none, .len 1 (.t 24)⟩,
  ⟨(some 26), none, .bin .lss (.t 22) (.t 25)⟩])
 (.cond (.t 26) .skip
 (.exit 0)))
 (.seq (.block 1 (.reg [⟨(some 29), none, .mov (.t 7)⟩,
  ⟨(some 30), none, .mov (.t 0)⟩,
  ⟨(some 31), none, .faddr 2 (.t 3)⟩,
  ⟨(some 32), none, .load none (.t 31)⟩,
  ⟨(some 33), none, .mov (.t 8)⟩,
  ⟨(some 34), none, .iaddr 3 (.t 32) (.t 33)⟩,
  ⟨(some 35), none, .load (some 3) (.t 34)⟩,
  ⟨(some 36), none, .call 0 [] (.c (.fn 15 [])) [(.t 30), (.t 35)]⟩,
  ⟨(some 37), none, .bslice [(.int .i64 0), (.str []), (.sl .clip [])] 1 [(0, (.t 36))]⟩,
  ⟨(some 38), none, .append 3 (.t 29) (.t 37)⟩,
  ⟨(some 7), none, .mov (.t 38)⟩]))
 (.reg [⟨(some 27), none, .mov (.t 8)⟩,
  ⟨(some 28), none, .bin .add (.t 27) (.c (.int .i64 1))⟩,
  ⟨(some 8), none, .mov (.t 28)⟩]))))))
 (.seq (.reg [⟨(some 39), none, .mov (.t 7)⟩,
  ⟨(some 40), none, .faddr 2 (.t 3)⟩,
  ⟨none, none, .store 1 (.t 40) (.t 39)⟩])
 (.seq (.reg [⟨(some 41), none, .load (some 3) (.t 3)⟩,
  ⟨none, none, .store 3 (.t 4) (.t 41)⟩])
 .ret)))))),
  [.cell 4 (some 3)], false, true, 42⟩
theorem co15 : compF Tryd.prog ⟨[], [(8, [0, 7, 8], [3, 4])], [], [], [], []⟩ false true Tryd.f15 = some ac15 := by kernel_rfl

/-- paideia/unify.All -/
def ac16 : AF := ⟨(.seq (.reg [⟨(some 2), none, .alloc [(.map none)] false⟩,
  ⟨(some 3), none, .mov (.c .nili)⟩])
 (.seq (.reg [⟨(some 4), none, .alloc [(.map none)] false⟩])
 (.seq (.reg [⟨(some 5), none, .mov (.c .nili)⟩])
 (.seq (.seq (.reg [⟨(some 8), none, .mov (.t 0)⟩,
  ⟨(some 9), none, .len 1 (.t 8)⟩,
  ⟨(some 10), none, .mov (.c (.int .i64 0))⟩])
 (.block 0 (.loop [8, 9, 10] [2, 4] (.seq (.reg [⟨(some 11), none, .bin .lss (.t 10) (.t 9)⟩])
 (.seq (.cond (.t 11) .skip
 (.exit 0))
 (.seq (.block 1 (.seq (.reg [⟨(some 12), none, .iaddr 6 (.t 8) (.t 10)⟩,
  ⟨(some 13), none, .load (some 6) (.t 12)⟩,
  ⟨(some 7), none, .alloc [(.int .i64 0), (.str []), (.sl .clip []), (.int .i64 0), (.str []), (.sl .clip [])] false⟩,
  ⟨none, none, .store 6 (.t 7) (.t 13)⟩])
 (.seq (.reg [⟨(some 15), none, .load (some 1) (.t 4)⟩,
  ⟨(some 16), none, .faddr 0 (.t 7)⟩,
  ⟨(some 17), none, .load (some 3) (.t 16)⟩,
  ⟨(some 18), none, .faddr 3 (.t 7)⟩,
  ⟨(some 19), none, .load (some 3) (.t 18)⟩,
  ⟨(some 20), none, .call 0 [] (.c (.fn 44 [])) [(.t 15), (.t 17), (.t 19)]⟩,
  ⟨(some 14), none, .mov (.t 20)⟩,
  ⟨(some 21), none, .extract (.t 14) 0⟩,
  ⟨(some 22), none, .extract (.t 14) 1⟩,
  ⟨none, none, .store 1 (.t 4) (.t 21)⟩,
  ⟨(some 5), none, .mov (.t 22)⟩])
 (.seq (.reg [⟨(some 23), none, .mov (.t 5)⟩,
  ⟨(some 24), none, .eqnil .iface true (.t 23)⟩])
 (.cond (.t 24) (.seq (.reg [⟨(some 25), none, .build [(.map none)] []⟩,
  ⟨(some 26), none, .mov (.t 5)⟩,
  ⟨none, none, .store 1 (.t 2) (.t 25)⟩,
  ⟨(some 3), none, .mov (.t 26)⟩])
 .ret)
 .skip)))))
 (.reg [⟨(some 27), none, .bin .add (.t 10) (.c (.int .i64 1))⟩,
  ⟨(some 10), none, .mov (.t 27)⟩])))))))
 (.seq (.reg [⟨(some 28), none, .load (some 1) (.t 4)⟩,
  ⟨none, none, .store 1 (.t 2) (.t 28)⟩,
  ⟨(some 3), none, .mov (.c .nili)⟩])
 .ret))))),
  [.cell 2 (some 1), .t 3], false, false, 29⟩
theorem co16 : compF Tryd.prog ⟨[], [(4, [8, 9, 10], [2, 4])], [], [], [], []⟩ false false Tryd.f16 = some ac16 := by kernel_rfl

/-- paideia/paideialaw6.closed -/
def ac18 : AF := ⟨(.seq (.reg [⟨(some 2), none, .alloc [(.int .i64 0), (.str []), (.sl .clip [])] false⟩])
 (.seq (.reg [⟨(some 5), none, .mov (.t 0)⟩,
  ⟨(some 6), none, .call 0 [] (.c (.fn 9 [])) [(.t 5), (.c (.int .i64 2))]⟩,
  ⟨(some 3), none, .alloc [(.int .i64 0), (.str []), (.sl .clip [])] false⟩,
  ⟨none, none, .store 3 (.t 3) (.t 6)⟩])
 (.seq (.reg [⟨(some 7), none, .call 0 [] (.c (.fn 36 [])) [(.c (.str [73, 110, 116])), (.c (.sl .clip []))]⟩,
  ⟨(some 4), none, .alloc [(.int .i64 0), (.str []), (.sl .clip [])] false⟩,
  ⟨none, none, .store 3 (.t 4) (.t 7)⟩])
 (.seq (.reg [⟨(some 8), none, .load (some 3) (.t 4)⟩,
  ⟨(some 9), none, .build [(.str []), (.int .i64 0), (.str []), (.sl .clip [])] [(0, 1, (.c (.str [97]))), (1, 3, (.t 8))]⟩,
  ⟨(some 10), none, .load (some 3) (.t 4)⟩,
  ⟨(some 11), none, .build [(.str []), (.int .i64 0), (.str []), (.sl .clip [])] [(0, 1, (.c (.str [98]))), (1, 3, (.t 10))]⟩,
  ⟨(some 12), none, .load (some 3) (.t 4)⟩,
  ⟨(some 13), none, .build [(.str []), (.int .i64 0), (.str []), (.sl .clip [])] [(0, 1, (.c (.str [99]))), (1, 3, (.t 12))]⟩,
  ⟨(some 14), none, .bslice [(.str []), (.int .i64 0), (.str []), (.sl .clip [])] 3 [(0, (.t 9)), (1, (.t 11)), (2, (.t 13))]⟩,
  ⟨(some 15), none, .load (some 3) (.t 3)⟩,
  ⟨(some 16), none, .call 0 [] (.c (.fn 15 [])) [(.t 14), (.t 15)]⟩,
  ⟨none, none, .store 3 (.t 2) (.t 16)⟩])
 .ret)))),
  [.cell 2 (some 3)], false, true, 17⟩
theorem co18 : compF Tryd.prog ⟨[], [], [], [], [], []⟩ false true Tryd.f18 = some ac18 := by kernel_rfl

/-- paideia/paideialaw6.hole -/
def ac19 : AF := ⟨(.seq (.reg [⟨(some 2), none, .box (.t 0) 3 false⟩,
  ⟨(some 4), none, .alloc [(.int .i64 0), (.str []), (.sl .clip [])] false⟩])
 (.seq (.seq (.reg [⟨(some 7), none, .mov (.t 1)⟩,
  ⟨(some 8), none, .call 0 [] (.c (.fn 34 [])) [(.t 7), (.c (.int .i64 4))]⟩,
  ⟨(some 9), none, .bin .eql (.t 8) (.c (.int .i64 0))⟩])
 (.cond (.t 9) (.seq (.reg [⟨(some 10), none, .call 0 [] (.c (.fn 35 [])) [(.c (.str [104]))]⟩,
  ⟨none, none, .store 3 (.t 4) (.t 10)⟩])
 .ret)
 .skip))
 (.seq (.seq (.reg [⟨(some 11), none, .faddr 2 (.t 2)⟩,
  ⟨(some 12), none, .load none (.t 11)⟩,
  ⟨(some 13), none, .len 1 (.t 12)⟩,
  ⟨(some 14), none, .bin .eql (.t 13) (.c (.int .i64 0))⟩])
 (.cond (.t 14) (.seq (.reg [⟨(some 15), none, .load (some 3) (.t 2)⟩,
  ⟨none, none, .store 3 (.t 4) (.t 15)⟩])
 .ret)
 .skip))
 (.seq (.reg [⟨(some 16), none, .mov (.t 1)⟩,
  ⟨(some 17), none, .faddr 2 (.t 2)⟩,
  ⟨(some 18), none, .load none (.t 17)⟩,
  ⟨(some 19), none, .len 1 (.t 18)⟩,
  ⟨(some 20), none, .call 0 [] (.c (.fn 34 [])) [(.t 16), (.t 19)]⟩,
  ⟨(some 5), none, .mov (.t 20)⟩])
 (.seq (.reg [⟨(some 21), none, .faddr 2 (.t 2)⟩,
  ⟨(some 22), none, .load none (.t 21)⟩,
  ⟨(some 23), none, .call 1 [] (.c (.fn 45 [])) [(.t 22)]⟩,
  ⟨(some 6), none, .mov (.t 23)⟩])
 (.seq (.reg [⟨(some 24), none, .mov (.t 6)⟩,
  ⟨(some 25), none, .mov (.t 5)⟩,
  ⟨(some 26), none, .mov (.t 6)⟩,
  ⟨(some 27), none, .mov (.t 5)⟩,
  ⟨(some 28), none, .iaddr 3 (.t 26) (.t 27)⟩,
  ⟨(some 29), none, .load (some 3) (.t 28)⟩,
  ⟨(some 30), none, .mov (.t 1)⟩,
  ⟨(some 31), none, .call 0 [] (.c (.fn 19 [])) [(.t 29), (.t 30)]⟩,
  ⟨(some 32), none, .iaddr 3 (.t 24) (.t 25)⟩,
  ⟨none, none, .store 3 (.t 32) (.t 31)⟩])
 (.seq (.reg [⟨(some 33), none, .mov (.t 6)⟩,
  ⟨(some 34), none, .faddr 2 (.t 2)⟩,
  ⟨none, none, .store 1 (.t 34) (.t 33)⟩])
 (.seq (.reg [⟨(some 35), none, .load (some 3) (.t 2)⟩,
  ⟨none, none, .store 3 (.t 4) (.t 35)⟩])
 .ret)))))))),
  [.cell 4 (some 3)], false, true, 36⟩
theorem co19 : compF Tryd.prog ⟨[], [], [(45, 1, [])], [], [], []⟩ false true Tryd.f19 = some ac19 := by kernel_rfl

/-- paideia/paideiaref4.Match -/
def ac20 : AF := ⟨(.seq (.reg [⟨(some 2), none, .box (.t 0) 3 false⟩,
  ⟨(some 3), none, .box (.t 1) 3 false⟩,
  ⟨(some 4), none, .mov (.c (.sl .clip []))⟩,
  ⟨(some 5), none, .mov (.c (.bool false))⟩])
 (.seq (.reg [⟨(some 6), none, .load (some 3) (.t 2)⟩,
  ⟨(some 7), none, .load (some 3) (.t 3)⟩,
  ⟨(some 8), none, .call 0 [] (.c (.fn 46 [])) [(.c (.sl .clip [])), (.t 6), (.t 7)]⟩,
  ⟨(some 9), none, .extract (.t 8) 0⟩,
  ⟨(some 10), none, .extract (.t 8) 1⟩,
  ⟨(some 4), none, .mov (.t 9)⟩,
  ⟨(some 5), none, .mov (.t 10)⟩])
 .ret)),
  [.t 4, .t 5], false, true, 11⟩
theorem co20 : compF Tryd.prog ⟨[], [], [], [], [], []⟩ false true Tryd.f20 = some ac20 := by kernel_rfl

/-- paideia/paideiaworld.Number -/
def ac21 : AF := ⟨(.seq (.reg [⟨(some 4), none, .mov (.c (.int .i64 0))⟩])
 (.seq (.reg [⟨(some 6), none, .mov (.t 0)⟩,
  ⟨(some 7), none, .mov (.t 1)⟩,
  ⟨(some 8), none, .bin .rem (.t 6) (.t 7)⟩,
  ⟨(some 5), none, .mov (.t 8)⟩])
 (.seq (.seq (.reg [⟨(some 9), none, .mov (.t 5)⟩,
  ⟨(some 10), none, .bin .lss (.t 9) (.c (.int .i64 0))⟩])
 (.cond (.t 10) (.reg [⟨(some 11), none, .mov (.t 5)⟩,
  ⟨(some 12), none, .mov (.t 1)⟩,
  ⟨(some 13), none, .bin .add (.t 11) (.t 12)⟩,
  ⟨(some 5), none, .mov (.t 13)⟩])
 .skip))
 (.seq (.reg [⟨(some 14), none, .mov (.t 5)⟩,
  ⟨(some 4), none, .mov (.t 14)⟩])
 .ret)))),
  [.t 4], false, true, 15⟩
theorem co21 : compF Tryd.prog ⟨[], [], [], [], [], []⟩ false true Tryd.f21 = some ac21 := by kernel_rfl

/-- (paideia/subst.Subst).Len -/
def ac22 : AF := ⟨(.seq (.reg [⟨(some 1), none, .box (.t 0) 1 false⟩,
  ⟨(some 2), none, .mov (.c (.int .i64 0))⟩])
 (.seq (.reg [⟨(some 3), none, .faddr 0 (.t 1)⟩,
  ⟨(some 4), none, .load none (.t 3)⟩,
  ⟨(some 5), none, .len 2 (.t 4)⟩,
  ⟨(some 2), none, .mov (.t 5)⟩])
 .ret)),
  [.t 2], false, true, 6⟩
theorem co22 : compF Tryd.prog ⟨[], [], [], [], [], []⟩ false true Tryd.f22 = some ac22 := by kernel_rfl

/-- (*paideia/paideiamake.Seq).Next -/
def ac34 : AF := ⟨(.seq (.reg [⟨(some 4), none, .mov (.c (.int .i64 0))⟩])
 (.seq (.reg [⟨(some 5), none, .mov (.c (.int .i64 0))⟩])
 (.seq (.seq (.reg [⟨(some 6), none, .mov (.t 0)⟩,
  ⟨(some 7), none, .nilck (.t 6)⟩,
  ⟨(some 8), none, .faddr 1 (.t 7)⟩,
  ⟨(some 9), none, .load none (.t 8)⟩,
  ⟨(some 10), none, .mov (.t 0)⟩,
  ⟨(some 11), none, .nilck (.t 10)⟩,
  ⟨(some 12), none, .faddr 0 (.t 11)⟩,
  ⟨(some 13), none, .load none (.t 12)⟩,
  ⟨(some 14), none, .len 1 (.t 13)⟩,
  ⟨(some 15), none, .bin .lss (.t 9) (.t 14)⟩])
 (.cond (.t 15) (.reg [⟨(some 16), none, .mov (.t 0)⟩,
  ⟨(some 17), none, .nilck (.t 16)⟩,
  ⟨(some 18), none, .faddr 0 (.t 17)⟩,
  ⟨(some 19), none, .load none (.t 18)⟩,
  ⟨(some 20), none, .mov (.t 0)⟩,
  ⟨(some 21), none, .nilck (.t 20)⟩,
  ⟨(some 22), none, .faddr 1 (.t 21)⟩,
  ⟨(some 23), none, .load none (.t 22)⟩,
  ⟨(some 24), none, .iaddr 1 (.t 19) (.t 23)⟩,
  ⟨(some 25), none, .load none (.t 24)⟩,
  ⟨(some 5), none, .mov (.t 25)⟩])
 .skip))
 (.seq (.reg [⟨(some 26), none, .mov (.t 0)⟩,
  ⟨(some 27), none, .mov (.t 0)⟩,
  ⟨(some 28), none, .nilck (.t 27)⟩,
  ⟨(some 29), none, .faddr 1 (.t 28)⟩,
  ⟨(some 30), none, .load none (.t 29)⟩,
  ⟨(some 31), none, .bin .add (.t 30) (.c (.int .i64 1))⟩,
  ⟨(some 32), none, .nilck (.t 26)⟩,
  ⟨(some 33), none, .faddr 1 (.t 32)⟩,
  ⟨none, none, .store 1 (.t 33) (.t 31)⟩])
 (.seq (.reg [⟨(some 34), none, .mov (.t 5)⟩,
  ⟨(some 35), none, .mov (.t 1)⟩,
  ⟨(some 36), none, .call 0 [] (.c (.fn 21 [])) [(.t 34), (.t 35)]⟩,
  ⟨(some 4), none, .mov (.t 36)⟩])
 .ret))))),
  [.t 4], false, true, 37⟩
theorem co34 : compF Tryd.prog ⟨[], [], [], [], [], []⟩ false true Tryd.f34 = some ac34 := by kernel_rfl

/-- paideia/paideiaref4.Var -/
def ac35 : AF := ⟨(.seq (.reg [⟨(some 2), none, .alloc [(.int .i64 0), (.str []), (.sl .clip [])] false⟩])
 (.seq (.reg [⟨(some 3), none, .mov (.t 0)⟩,
  ⟨(some 4), none, .build [(.int .i64 0), (.str []), (.sl .clip [])] [(0, 1, (.c (.int .i64 1))), (1, 1, (.t 3))]⟩,
  ⟨none, none, .store 3 (.t 2) (.t 4)⟩])
 .ret)),
  [.cell 2 (some 3)], false, true, 5⟩
theorem co35 : compF Tryd.prog ⟨[], [], [], [], [], []⟩ false true Tryd.f35 = some ac35 := by kernel_rfl

/-- paideia/paideiaref4.Con -/
def ac36 : AF := ⟨(.seq (.reg [⟨(some 4), none, .alloc [(.int .i64 0), (.str []), (.sl .clip [])] false⟩])
 (.seq (.reg [⟨(some 5), none, .mov (.t 0)⟩,
  ⟨(some 6), none, .mov (.t 1)⟩,
  ⟨(some 7), none, .build [(.int .i64 0), (.str []), (.sl .clip [])] [(0, 1, (.c (.int .i64 2))), (1, 1, (.t 5)), (2, 1, (.t 6))]⟩,
  ⟨none, none, .store 3 (.t 4) (.t 7)⟩])
 .ret)),
  [.cell 4 (some 3)], false, true, 8⟩
theorem co36 : compF Tryd.prog ⟨[], [], [], [], [], []⟩ false true Tryd.f36 = some ac36 := by kernel_rfl

/-- paideia/paideiaref4.Fun2 -/
def ac37 : AF := ⟨(.seq (.reg [⟨(some 2), none, .box (.t 0) 3 false⟩,
  ⟨(some 3), none, .box (.t 1) 3 false⟩,
  ⟨(some 4), none, .alloc [(.int .i64 0), (.str []), (.sl .clip [])] false⟩])
 (.seq (.reg [⟨(some 5), none, .load (some 3) (.t 2)⟩,
  ⟨(some 6), none, .load (some 3) (.t 3)⟩,
  ⟨(some 7), none, .bslice [(.int .i64 0), (.str []), (.sl .clip [])] 2 [(0, (.t 5)), (1, (.t 6))]⟩,
  ⟨(some 8), none, .build [(.int .i64 0), (.str []), (.sl .clip [])] [(0, 1, (.c (.int .i64 3))), (2, 1, (.t 7))]⟩,
  ⟨none, none, .store 3 (.t 4) (.t 8)⟩])
 .ret)),
  [.cell 4 (some 3)], false, true, 9⟩
theorem co37 : compF Tryd.prog ⟨[], [], [], [], [], []⟩ false true Tryd.f37 = some ac37 := by kernel_rfl

/-- paideia/paideiaref.SameTypes -/
def ac41 : AF := ⟨(.seq (.reg [⟨(some 4), none, .mov (.c (.bool false))⟩])
 (.seq (.seq (.reg [⟨(some 7), none, .mov (.t 0)⟩,
  ⟨(some 8), none, .len 1 (.t 7)⟩,
  ⟨(some 9), none, .mov (.t 1)⟩,
  ⟨(some 10), none, .len 1 (.t 9)⟩,
  ⟨(some 11), none, .bin .neq (.t 8) (.t 10)⟩])
 (.cond (.t 11) (.seq (.reg [⟨(some 4), none, .mov (.c (.bool false))⟩])
 .ret)
 .skip))
 (.seq (.seq (.reg [⟨(some 5), none, .mov (.c (.int .i64 0))⟩])
 (.block 0 (.loop [0, 1, 5] [] (.seq (.seq (.reg [⟨(some 12), none, .mov (.t 5)⟩,
  ⟨(some 13), none, .mov (.t 0)⟩,
  ⟨(some 14), none, .len 1 (.t 13)⟩,
  ⟨(some 15), none, .bin .lss (.t 12) (.t 14)⟩])
 (.cond (.t 15) .skip
 (.exit 0)))
 (.seq (.block 1 (.seq (.reg [⟨(some 18), none, .mov (.t 0)⟩,
  ⟨(some 19), none, .mov (.t 5)⟩,
  ⟨(some 20), none, .iaddr 3 (.t 18) (.t 19)⟩,
  ⟨(some 21), none, .load (some 3) (.t 20)⟩,
  ⟨(some 22), none, .mov (.t 1)⟩,
  ⟨(some 23), none, .mov (.t 5)⟩,
  ⟨(some 24), none, .iaddr 3 (.t 22) (.t 23)⟩,
  ⟨(some 25), none, .load (some 3) (.t 24)⟩,
  ⟨(some 26), none, .call 0 [] (.c (.fn 13 [])) [(.t 21), (.t 25)]⟩,
  ⟨(some 6), none, .mov (.t 26)⟩])
 (.seq (.reg [⟨(some 27), none, .mov (.t 6)⟩,
  ⟨(some 28), none, .not (.t 27)⟩])
 (.cond (.t 28) (.seq (.reg [⟨(some 4), none, .mov (.c (.bool false))⟩])
 .ret)
 .skip))))
 (.reg [⟨(some 16), none, .mov (.t 5)⟩,
  ⟨(some 17), none, .bin .add (.t 16) (.c (.int .i64 1))⟩,
  ⟨(some 5), none, .mov (.t 17)⟩]))))))
 (.seq (.reg [⟨(some 4), none, .mov (.c (.bool true))⟩])
 .ret)))),
  [.t 4], false, true, 29⟩
theorem co41 : compF Tryd.prog ⟨[], [(4, [0, 1, 5], [])], [], [], [], []⟩ false true Tryd.f41 = some ac41 := by kernel_rfl

/-- paideia/types.Clone -/
def ac42 : AF := ⟨(.seq (.reg [⟨(some 1), none, .box (.t 0) 3 false⟩,
  ⟨(some 2), none, .alloc [(.int .i64 0), (.str []), (.sl .clip [])] false⟩])
 (.seq (.reg [⟨(some 6), none, .faddr 0 (.t 1)⟩,
  ⟨(some 7), none, .load none (.t 6)⟩,
  ⟨(some 8), none, .faddr 1 (.t 1)⟩,
  ⟨(some 9), none, .load none (.t 8)⟩,
  ⟨(some 10), none, .build [(.int .i64 0), (.str []), (.sl .clip [])] [(0, 1, (.t 7)), (1, 1, (.t 9))]⟩,
  ⟨(some 3), none, .alloc [(.int .i64 0), (.str []), (.sl .clip [])] false⟩,
  ⟨none, none, .store 3 (.t 3) (.t 10)⟩])
 (.seq (.seq (.reg [⟨(some 11), none, .faddr 2 (.t 1)⟩,
  ⟨(some 12), none, .load none (.t 11)⟩,
  ⟨(some 13), none, .len 1 (.t 12)⟩,
  ⟨(some 14), none, .mov (.c (.int .i64 0))⟩])
 (.block 0 (.loop [12, 13, 14] [2, 3] (.seq (.reg [⟨(some 15), none, .bin .lss (.t 14) (.t 13)⟩])
 (.seq (.cond (.t 15) .skip
 (.exit 0))
 (.seq (.block 1 (.seq (.reg [⟨(some 16), none, .iaddr 3 (.t 12) (.t 14)⟩,
  ⟨(some 17), none, .load (some 3) (.t 16)⟩,
  ⟨(some 5), none, .alloc [(.int .i64 0), (.str []), (.sl .clip [])] false⟩,
  ⟨none, none, .store 3 (.t 5) (.t 17)⟩])
 (.reg [⟨(some 18), none, .faddr 2 (.t 3)⟩,
  ⟨(some 19), none, .loadL none (.t 18)⟩,
  ⟨(some 20), none, .load (some 3) (.t 5)⟩,
  ⟨(some 21), none, .call 0 [] (.c (.fn 42 [])) [(.t 20)]⟩,
  ⟨(some 22), none, .bslice [(.int .i64 0), (.str []), (.sl .clip [])] 1 [(0, (.t 21))]⟩,
  ⟨(some 23), none, .append 3 (.t 19) (.t 22)⟩,
  ⟨(some 24), none, .faddr 2 (.t 3)⟩,
  ⟨none, none, .store 1 (.t 24) (.t 23)⟩])))
 (.reg [⟨(some 25), none, .bin .add (.t 14) (.c (.int .i64 1))⟩,
  ⟨(some 14), none, .mov (.t 25)⟩])))))))
 (.seq (.reg [⟨(some 26), none, .load (some 3) (.t 3)⟩,
  ⟨none, none, .store 3 (.t 2) (.t 26)⟩])
 .ret)))),
  [.cell 2 (some 3)], false, true, 27⟩
theorem co42 : compF Tryd.prog ⟨[], [(3, [12, 13, 14], [2, 3])], [], [], [], []⟩ false true Tryd.f42 = some ac42 := by kernel_rfl

/-- paideia/paideiaref4.get -/
def ac43 : AF := ⟨(.seq (.reg [⟨(some 4), none, .alloc [(.int .i64 0), (.str []), (.sl .clip [])] false⟩,
  ⟨(some 5), none, .mov (.c (.bool false))⟩])
 (.seq (.seq (.reg [⟨(some 6), none, .mov (.c (.int .i64 0))⟩])
 (.block 0 (.loop [0, 1, 6] [4] (.seq (.seq (.reg [⟨(some 7), none, .mov (.t 6)⟩,
  ⟨(some 8), none, .mov (.t 0)⟩,
  ⟨(some 9), none, .len 1 (.t 8)⟩,
  ⟨(some 10), none, .bin .lss (.t 7) (.t 9)⟩])
 (.cond (.t 10) .skip
 (.exit 0)))
 (.seq (.block 1 (.seq (.reg [⟨(some 13), none, .mov (.t 0)⟩,
  ⟨(some 14), none, .mov (.t 6)⟩,
  ⟨(some 15), none, .iaddr 4 (.t 13) (.t 14)⟩,
  ⟨(some 16), none, .faddr 0 (.t 15)⟩,
  ⟨(some 17), none, .load none (.t 16)⟩,
  ⟨(some 18), none, .mov (.t 1)⟩,
  ⟨(some 19), none, .bin .eql (.t 17) (.t 18)⟩])
 (.cond (.t 19) (.seq (.reg [⟨(some 20), none, .mov (.t 0)⟩,
  ⟨(some 21), none, .mov (.t 6)⟩,
  ⟨(some 22), none, .iaddr 4 (.t 20) (.t 21)⟩,
  ⟨(some 23), none, .faddr 1 (.t 22)⟩,
  ⟨(some 24), none, .load (some 3) (.t 23)⟩,
  ⟨none, none, .store 3 (.t 4) (.t 24)⟩,
  ⟨(some 5), none, .mov (.c (.bool true))⟩])
 .ret)
 .skip)))
 (.reg [⟨(some 11), none, .mov (.t 6)⟩,
  ⟨(some 12), none, .bin .add (.t 11) (.c (.int .i64 1))⟩,
  ⟨(some 6), none, .mov (.t 12)⟩]))))))
 (.seq (.reg [⟨(some 25), none, .build [(.int .i64 0), (.str []), (.sl .clip [])] []⟩,
  ⟨none, none, .store 3 (.t 4) (.t 25)⟩,
  ⟨(some 5), none, .mov (.c (.bool false))⟩])
 .ret))),
  [.cell 4 (some 3), .t 5], false, true, 26⟩
theorem co43 : compF Tryd.prog ⟨[], [(2, [0, 1, 6], [4])], [], [], [], []⟩ false true Tryd.f43 = some ac43 := by kernel_rfl

/-- paideia/unify.one -/
def ac44 : AF := ⟨(.seq (.reg [⟨(some 3), none, .box (.t 0) 1 false⟩,
  ⟨(some 4), none, .box (.t 1) 3 false⟩,
  ⟨(some 5), none, .box (.t 2) 3 false⟩,
  ⟨(some 6), none, .alloc [(.map none)] false⟩,
  ⟨(some 7), none, .mov (.c .nili)⟩])
 (.seq (.reg [⟨(some 10), none, .load (some 1) (.t 3)⟩,
  ⟨(some 11), none, .load (some 3) (.t 4)⟩,
  ⟨(some 12), none, .call 0 [] (.c (.fn 14 [])) [(.t 10), (.t 11)]⟩,
  ⟨(some 13), none, .loadL (some 1) (.t 3)⟩,
  ⟨(some 14), none, .loadL (some 3) (.t 5)⟩,
  ⟨(some 15), none, .call 0 [] (.c (.fn 14 [])) [(.t 13), (.t 14)]⟩,
  ⟨none, none, .store 3 (.t 4) (.t 12)⟩,
  ⟨none, none, .store 3 (.t 5) (.t 15)⟩])
 (.seq (.block 0 (.seq (.reg [⟨(some 17), none, .faddr 0 (.t 4)⟩,
  ⟨(some 18), none, .load none (.t 17)⟩,
  ⟨(some 19), none, .bin .eql (.t 18) (.c (.int .i64 1))⟩,
  ⟨(some 20), none, .mov (.t 19)⟩,
  ⟨(some 21), (some (20, true)), .faddr 0 (.t 5)⟩,
  ⟨(some 22), (some (20, true)), .load none (.t 21)⟩,
  ⟨(some 23), (some (20, true)), .bin .eql (.t 22) (.c (.int .i64 1))⟩,
  ⟨(some 24), none, .pick (.t 20) (.t 23) (.c (.bool false))⟩,
  ⟨(some 25), none, .mov (.t 24)⟩,
  ⟨(some 26), (some (25, true)), .faddr 1 (.t 4)⟩,
  ⟨(some 27), (some (25, true)), .load none (.t 26)⟩,
  ⟨(some 28), (some (25, true)), .faddr 1 (.t 5)⟩,
  ⟨(some 29), (some (25, true)), .load none (.t 28)⟩,
  ⟨(some 30), (some (25, true)), .bin .eql (.t 27) (.t 29)⟩,
  ⟨(some 31), none, .pick (.t 25) (.t 30) (.c (.bool false))⟩,
  ⟨(some 16), none, .mov (.t 31)⟩])
 (.cond (.t 16) (.seq (.reg [⟨(some 32), none, .load (some 1) (.t 3)⟩,
  ⟨none, none, .store 1 (.t 6) (.t 32)⟩,
  ⟨(some 7), none, .mov (.c .nili)⟩])
 .ret)
 (.seq (.reg [⟨(some 34), none, .faddr 0 (.t 4)⟩,
  ⟨(some 35), none, .load none (.t 34)⟩,
  ⟨(some 36), none, .bin .eql (.t 35) (.c (.int .i64 1))⟩,
  ⟨(some 33), none, .mov (.t 36)⟩])
 (.cond (.t 33) (.seq (.reg [⟨(some 37), none, .load (some 1) (.t 3)⟩,
  ⟨(some 38), none, .faddr 1 (.t 4)⟩,
  ⟨(some 39), none, .load none (.t 38)⟩,
  ⟨(some 40), none, .load (some 3) (.t 5)⟩,
  ⟨(some 41), none, .call 0 [] (.c (.fn 55 [])) [(.t 37), (.t 39), (.t 40)]⟩,
  ⟨(some 42), none, .extract (.t 41) 0⟩,
  ⟨(some 43), none, .extract (.t 41) 1⟩,
  ⟨none, none, .store 1 (.t 6) (.t 42)⟩,
  ⟨(some 7), none, .mov (.t 43)⟩])
 .ret)
 (.seq (.reg [⟨(some 45), none, .faddr 0 (.t 5)⟩,
  ⟨(some 46), none, .load none (.t 45)⟩,
  ⟨(some 47), none, .bin .eql (.t 46) (.c (.int .i64 1))⟩,
  ⟨(some 44), none, .mov (.t 47)⟩])
 (.cond (.t 44) (.seq (.reg [⟨(some 48), none, .load (some 1) (.t 3)⟩,
  ⟨(some 49), none, .faddr 1 (.t 5)⟩,
  ⟨(some 50), none, .load none (.t 49)⟩,
  ⟨(some 51), none, .load (some 3) (.t 4)⟩,
  ⟨(some 52), none, .call 0 [] (.c (.fn 55 [])) [(.t 48), (.t 50), (.t 51)]⟩,
  ⟨(some 53), none, .extract (.t 52) 0⟩,
  ⟨(some 54), none, .extract (.t 52) 1⟩,
  ⟨none, none, .store 1 (.t 6) (.t 53)⟩,
  ⟨(some 7), none, .mov (.t 54)⟩])
 .ret)
 (.seq (.reg [⟨(some 56), none, .faddr 0 (.t 4)⟩,
  ⟨(some 57), none, .load none (.t 56)⟩,
  ⟨(some 58), none, .faddr 0 (.t 5)⟩,
  ⟨(some 59), none, .load none (.t 58)⟩,
  ⟨(some 60), none, .bin .neq (.t 57) (.t 59)⟩,
  ⟨(some 61), none, .mov (.t 60)⟩,
  ⟨(some 62), (some (61, false)), .faddr 1 (.t 4)⟩,
  ⟨(some 63), (some (61, false)), .load none (.t 62)⟩,
  ⟨(some 64), (some (61, false)), .faddr 1 (.t 5)⟩,
  ⟨(some 65), (some (61, false)), .load none (.t 64)⟩,
  ⟨(some 66), (some (61, false)), .bin .neq (.t 63) (.t 65)⟩,
  ⟨(some 67), none, .pick (.t 61) (.c (.bool true)) (.t 66)⟩,
  ⟨(some 68), none, .mov (.t 67)⟩,
  ⟨(some 69), (some (68, false)), .faddr 2 (.t 4)⟩,
  ⟨(some 70), (some (68, false)), .load none (.t 69)⟩,
  ⟨(some 71), (some (68, false)), .len 1 (.t 70)⟩,
  ⟨(some 72), (some (68, false)), .faddr 2 (.t 5)⟩,
  ⟨(some 73), (some (68, false)), .load none (.t 72)⟩,
  ⟨(some 74), (some (68, false)), .len 1 (.t 73)⟩,
  ⟨(some 75), (some (68, false)), .bin .neq (.t 71) (.t 74)⟩,
  ⟨(some 76), none, .pick (.t 68) (.c (.bool true)) (.t 75)⟩,
  ⟨(some 55), none, .mov (.t 76)⟩])
 (.cond (.t 55) (.seq (.reg [⟨(some 77), none, .build [(.map none)] []⟩,
  ⟨(some 78), none, .gload 0⟩,
  ⟨none, none, .store 1 (.t 6) (.t 77)⟩,
  ⟨(some 7), none, .mov (.t 78)⟩])
 .ret)
 .skip)))))))))
 (.seq (.reg [⟨(some 8), none, .mov (.c .nili)⟩])
 (.seq (.seq (.reg [⟨(some 79), none, .faddr 2 (.t 4)⟩,
  ⟨(some 80), none, .load none (.t 79)⟩,
  ⟨(some 81), none, .len 1 (.t 80)⟩,
  ⟨(some 82), none, .mov (.c (.int .i64 0))⟩])
 (.block 1 (.loop [81, 82] [3, 4, 5, 6] (.seq (.reg [⟨(some 83), none, .bin .lss (.t 82) (.t 81)⟩])
 (.seq (.cond (.t 83) .skip
 (.exit 1))
 (.seq (.block 2 (.seq (.reg [⟨(some 84), none, .mov (.t 82)⟩,
  ⟨(some 9), none, .mov (.t 84)⟩])
 (.seq (.reg [⟨(some 86), none, .load (some 1) (.t 3)⟩,
  ⟨(some 87), none, .faddr 2 (.t 4)⟩,
  ⟨(some 88), none, .load none (.t 87)⟩,
  ⟨(some 89), none, .mov (.t 9)⟩,
  ⟨(some 90), none, .iaddr 3 (.t 88) (.t 89)⟩,
  ⟨(some 91), none, .load (some 3) (.t 90)⟩,
  ⟨(some 92), none, .faddr 2 (.t 5)⟩,
  ⟨(some 93), none, .load none (.t 92)⟩,
  ⟨(some 94), none, .mov (.t 9)⟩,
  ⟨(some 95), none, .iaddr 3 (.t 93) (.t 94)⟩,
  ⟨(some 96), none, .load (some 3) (.t 95)⟩,
  ⟨(some 97), none, .call 0 [] (.c (.fn 44 [])) [(.t 86), (.t 91), (.t 96)]⟩,
  ⟨(some 85), none, .mov (.t 97)⟩,
  ⟨(some 98), none, .extract (.t 85) 0⟩,
  ⟨(some 99), none, .extract (.t 85) 1⟩,
  ⟨none, none, .store 1 (.t 3) (.t 98)⟩,
  ⟨(some 8), none, .mov (.t 99)⟩])
 (.seq (.reg [⟨(some 100), none, .mov (.t 8)⟩,
  ⟨(some 101), none, .eqnil .iface true (.t 100)⟩])
 (.cond (.t 101) (.seq (.reg [⟨(some 102), none, .build [(.map none)] []⟩,
  ⟨(some 103), none, .mov (.t 8)⟩,
  ⟨none, none, .store 1 (.t 6) (.t 102)⟩,
  ⟨(some 7), none, .mov (.t 103)⟩])
 .ret)
 .skip)))))
 (.reg [⟨(some 104), none, .bin .add (.t 82) (.c (.int .i64 1))⟩,
  ⟨(some 82), none, .mov (.t 104)⟩])))))))
 (.seq (.reg [⟨(some 105), none, .load (some 1) (.t 3)⟩,
  ⟨none, none, .store 1 (.t 6) (.t 105)⟩,
  ⟨(some 7), none, .mov (.c .nili)⟩])
 .ret)))))),
  [.cell 6 (some 1), .t 7], false, false, 106⟩
theorem co44 : compF Tryd.prog ⟨[], [(12, [81, 82], [3, 4, 5, 6])], [], [0], [], []⟩ false false Tryd.f44 = some ac44 := by kernel_rfl

/-- paideia/paideiaref.Types -/
def ac45v1 : AF := ⟨(.seq (.reg [⟨(some 2), none, .mov (.c (.sl .clip []))⟩])
 (.seq (.reg [⟨(some 5), none, .mov (.t 0)⟩,
  ⟨(some 6), none, .len 1 (.t 5)⟩,
  ⟨(some 7), none, .mkarr [(.int .i64 0), (.str []), (.sl .clip [])] (.c (.int .i64 0)) (.t 6)⟩,
  ⟨(some 3), none, .mov (.t 7)⟩])
 (.seq (.seq (.reg [⟨(some 4), none, .mov (.c (.int .i64 0))⟩])
 (.block 0 (.loop [0, 3, 4] [] (.seq (.seq (.reg [⟨(some 8), none, .mov (.t 4)⟩,
  ⟨(some 9), none, .mov (.t 0)⟩,
  ⟨(some 10), none, .len 1 (.t 9)⟩,
  ⟨(some 11), none, .bin .lss (.t 8) (.t 10)⟩])
 (.cond (.t 11) .skip
 (.exit 0)))
 (.seq (.block 1 (.reg [⟨(some 14), none, .mov (.t 3)⟩,
  ⟨(some 15), none, .mov (.t 0)⟩,
  ⟨(some 16), none, .mov (.t 4)⟩,
  ⟨(some 17), none, .iaddr 3 (.t 15) (.t 16)⟩,
  ⟨(some 18), none, .load (some 3) (.t 17)⟩,
  ⟨(some 19), none, .bslice [(.int .i64 0), (.str []), (.sl .clip [])] 1 [(0, (.t 18))]⟩,
  ⟨(some 20), none, .appm 3 [(.int .i64 0), (.str []), (.sl .clip [])] (.t 14) (.t 19)⟩,
  ⟨(some 3), none, .mov (.t 20)⟩]))
 (.reg [⟨(some 12), none, .mov (.t 4)⟩,
  ⟨(some 13), none, .bin .add (.t 12) (.c (.int .i64 1))⟩,
  ⟨(some 4), none, .mov (.t 13)⟩]))))))
 (.seq (.reg [⟨(some 21), none, .mov (.t 3)⟩,
  ⟨(some 2), none, .mov (.t 21)⟩])
 .ret)))),
  [.t 2], true, false, 22⟩
theorem co45v1 : compF Tryd.prog ⟨[], [(3, [0, 3, 4], [])], [], [], [], [7, 20]⟩ true false Tryd.f45 = some ac45v1 := by kernel_rfl

/-- paideia/paideiaref4.match -/
def ac46 : AF := ⟨(.seq (.reg [⟨(some 4), none, .box (.t 1) 3 false⟩,
  ⟨(some 5), none, .box (.t 2) 3 false⟩,
  ⟨(some 6), none, .mov (.c (.sl .clip []))⟩,
  ⟨(some 7), none, .mov (.c (.bool false))⟩])
 (.seq (.seq (.reg [⟨(some 12), none, .faddr 0 (.t 4)⟩,
  ⟨(some 13), none, .load none (.t 12)⟩,
  ⟨(some 14), none, .bin .eql (.t 13) (.c (.int .i64 1))⟩])
 (.cond (.t 14) (.seq (.reg [⟨(some 16), none, .mov (.t 0)⟩,
  ⟨(some 17), none, .faddr 1 (.t 4)⟩,
  ⟨(some 18), none, .load none (.t 17)⟩,
  ⟨(some 19), none, .call 0 [] (.c (.fn 43 [])) [(.t 16), (.t 18)]⟩,
  ⟨(some 15), none, .mov (.t 19)⟩,
  ⟨(some 20), none, .extract (.t 15) 0⟩,
  ⟨(some 21), none, .extract (.t 15) 1⟩,
  ⟨(some 8), none, .alloc [(.int .i64 0), (.str []), (.sl .clip [])] false⟩,
  ⟨none, none, .store 3 (.t 8) (.t 20)⟩,
  ⟨(some 9), none, .mov (.t 21)⟩])
 (.seq (.seq (.reg [⟨(some 22), none, .mov (.t 9)⟩])
 (.cond (.t 22) (.seq (.reg [⟨(some 23), none, .mov (.t 0)⟩,
  ⟨(some 24), none, .load (some 3) (.t 8)⟩,
  ⟨(some 25), none, .load (some 3) (.t 5)⟩,
  ⟨(some 26), none, .call 0 [] (.c (.fn 13 [])) [(.t 24), (.t 25)]⟩,
  ⟨(some 6), none, .mov (.t 23)⟩,
  ⟨(some 7), none, .mov (.t 26)⟩])
 .ret)
 .skip))
 (.seq (.reg [⟨(some 27), none, .bslice [(.str []), (.int .i64 0), (.str []), (.sl .clip [])] 0 []⟩,
  ⟨(some 28), none, .mov (.t 0)⟩,
  ⟨(some 29), none, .append 4 (.t 27) (.t 28)⟩,
  ⟨(some 30), none, .faddr 1 (.t 4)⟩,
  ⟨(some 31), none, .loadL none (.t 30)⟩,
  ⟨(some 32), none, .loadL (some 3) (.t 5)⟩,
  ⟨(some 33), none, .build [(.str []), (.int .i64 0), (.str []), (.sl .clip [])] [(0, 1, (.t 31)), (1, 3, (.t 32))]⟩,
  ⟨(some 34), none, .bslice [(.str []), (.int .i64 0), (.str []), (.sl .clip [])] 1 [(0, (.t 33))]⟩,
  ⟨(some 35), none, .append 4 (.t 29) (.t 34)⟩,
  ⟨(some 6), none, .mov (.t 35)⟩,
  ⟨(some 7), none, .mov (.c (.bool true))⟩])
 .ret)))
 .skip))
 (.seq (.seq (.reg [⟨(some 36), none, .faddr 0 (.t 4)⟩,
  ⟨(some 37), none, .load none (.t 36)⟩,
  ⟨(some 38), none, .faddr 0 (.t 5)⟩,
  ⟨(some 39), none, .load none (.t 38)⟩,
  ⟨(some 40), none, .bin .neq (.t 37) (.t 39)⟩,
  ⟨(some 41), none, .mov (.t 40)⟩,
  ⟨(some 42), (some (41, false)), .faddr 1 (.t 4)⟩,
  ⟨(some 43), (some (41, false)), .load none (.t 42)⟩,
  ⟨(some 44), (some (41, false)), .faddr 1 (.t 5)⟩,
  ⟨(some 45), (some (41, false)), .load none (.t 44)⟩,
  ⟨(some 46), (some (41, false)), .bin .neq (.t 43) (.t 45)⟩,
  ⟨(some 47), none, .pick (.t 41) (.c (.bool true)) (.t 46)⟩,
  ⟨(some 48), none, .mov (.t 47)⟩,
  ⟨(some 49), (some (48, false)), .faddr 2 (.t 4)⟩,
  ⟨(some 50), (some (48, false)), .load none (.t 49)⟩,
  ⟨(some 51), (some (48, false)), .len 1 (.t 50)⟩,
  ⟨(some 52), (some (48, false)), .faddr 2 (.t 5)⟩,
  ⟨(some 53), (some (48, false)), .load none (.t 52)⟩,
  ⟨(some 54), (some (48, false)), .len 1 (.t 53)⟩,
  ⟨(some 55), (some (48, false)), .bin .neq (.t 51) (.t 54)⟩,
  ⟨(some 56), none, .pick (.t 48) (.c (.bool true)) (.t 55)⟩])
 (.cond (.t 56) (.seq (.reg [⟨(some 6), none, .mov (.c (.sl .clip []))⟩,
  ⟨(some 7), none, .mov (.c (.bool false))⟩])
 .ret)
 .skip))
 (.seq (.reg [⟨(some 10), none, .mov (.c (.bool true))⟩])
 (.seq (.seq (.reg [⟨(some 11), none, .mov (.c (.int .i64 0))⟩])
 (.block 0 (.loop [0, 10, 11] [4, 5] (.seq (.seq (.reg [⟨(some 57), none, .mov (.t 11)⟩,
  ⟨(some 58), none, .faddr 2 (.t 4)⟩,
  ⟨(some 59), none, .load none (.t 58)⟩,
  ⟨(some 60), none, .len 1 (.t 59)⟩,
  ⟨(some 61), none, .bin .lss (.t 57) (.t 60)⟩,
  ⟨(some 62), none, .mov (.t 61)⟩,
  ⟨(some 63), (some (62, true)), .mov (.t 10)⟩,
  ⟨(some 64), none, .pick (.t 62) (.t 63) (.c (.bool false))⟩])
 (.cond (.t 64) .skip
 (.exit 0)))
 (.seq (.block 1 (.reg [⟨(some 68), none, .mov (.t 0)⟩,
  ⟨(some 69), none, .faddr 2 (.t 4)⟩,
  ⟨(some 70), none, .load none (.t 69)⟩,
  ⟨(some 71), none, .mov (.t 11)⟩,
  ⟨(some 72), none, .iaddr 3 (.t 70) (.t 71)⟩,
  ⟨(some 73), none, .load (some 3) (.t 72)⟩,
  ⟨(some 74), none, .faddr 2 (.t 5)⟩,
  ⟨(some 75), none, .load none (.t 74)⟩,
  ⟨(some 76), none, .mov (.t 11)⟩,
  ⟨(some 77), none, .iaddr 3 (.t 75) (.t 76)⟩,
  ⟨(some 78), none, .load (some 3) (.t 77)⟩,
  ⟨(some 79), none, .call 0 [] (.c (.fn 46 [])) [(.t 68), (.t 73), (.t 78)]⟩,
  ⟨(some 67), none, .mov (.t 79)⟩,
  ⟨(some 80), none, .extract (.t 67) 0⟩,
  ⟨(some 81), none, .extract (.t 67) 1⟩,
  ⟨(some 0), none, .mov (.t 80)⟩,
  ⟨(some 10), none, .mov (.t 81)⟩]))
 (.reg [⟨(some 65), none, .mov (.t 11)⟩,
  ⟨(some 66), none, .bin .add (.t 65) (.c (.int .i64 1))⟩,
  ⟨(some 11), none, .mov (.t 66)⟩]))))))
 (.seq (.reg [⟨(some 82), none, .mov (.t 0)⟩,
  ⟨(some 83), none, .mov (.t 10)⟩,
  ⟨(some 6), none, .mov (.t 82)⟩,
  ⟨(some 7), none, .mov (.t 83)⟩])
 .ret)))))),
  [.t 6, .t 7], false, true, 84⟩
theorem co46 : compF Tryd.prog ⟨[], [(10, [0, 10, 11], [4, 5])], [], [], [], []⟩ false true Tryd.f46 = some ac46 := by kernel_rfl

/-- paideia/unify.bind -/
def ac55 : AF := ⟨(.seq (.reg [⟨(some 3), none, .box (.t 0) 1 false⟩,
  ⟨(some 5), none, .box (.t 2) 3 false⟩,
  ⟨(some 6), none, .alloc [(.map none)] false⟩,
  ⟨(some 7), none, .mov (.c .nili)⟩])
 (.seq (.seq (.reg [⟨(some 8), none, .load (some 3) (.t 5)⟩,
  ⟨(some 9), none, .mov (.t 1)⟩,
  ⟨(some 10), none, .call 0 [] (.c (.fn 69 [])) [(.t 8), (.t 9)]⟩])
 (.cond (.t 10) (.seq (.reg [⟨(some 11), none, .build [(.map none)] []⟩,
  ⟨(some 12), none, .gload 1⟩,
  ⟨none, none, .store 1 (.t 6) (.t 11)⟩,
  ⟨(some 7), none, .mov (.t 12)⟩])
 .ret)
 .skip))
 (.seq (.reg [⟨(some 13), none, .loadL (some 1) (.t 3)⟩,
  ⟨(some 14), none, .mov (.t 1)⟩,
  ⟨(some 15), none, .load (some 3) (.t 5)⟩,
  ⟨(some 16), none, .build [(.str []), (.int .i64 0), (.str []), (.sl .clip [])] [(0, 1, (.t 14)), (1, 3, (.t 15))]⟩,
  ⟨(some 17), none, .bslice [(.str []), (.int .i64 0), (.str []), (.sl .clip [])] 1 [(0, (.t 16))]⟩,
  ⟨(some 18), none, .call 0 [] (.c (.fn 71 [])) [(.t 17)]⟩,
  ⟨(some 19), none, .call 0 [] (.c (.fn 70 [])) [(.t 13), (.t 18)]⟩,
  ⟨none, none, .store 1 (.t 6) (.t 19)⟩,
  ⟨(some 7), none, .mov (.c .nili)⟩])
 .ret))),
  [.cell 6 (some 1), .t 7], false, false, 20⟩
theorem co55 : compF Tryd.prog ⟨[], [], [], [1], [], []⟩ false false Tryd.f55 = some ac55 := by kernel_rfl

/-- paideia/types.Has -/
def ac69 : AF := ⟨(.seq (.reg [⟨(some 2), none, .box (.t 0) 3 false⟩,
  ⟨(some 3), none, .box (.t 1) 1 true⟩,
  ⟨(some 4), none, .mov (.c (.bool false))⟩])
 (.seq (.seq (.reg [⟨(some 5), none, .faddr 0 (.t 2)⟩,
  ⟨(some 6), none, .load none (.t 5)⟩,
  ⟨(some 7), none, .bin .eql (.t 6) (.c (.int .i64 1))⟩,
  ⟨(some 8), none, .mov (.t 7)⟩,
  ⟨(some 9), (some (8, true)), .faddr 1 (.t 2)⟩,
  ⟨(some 10), (some (8, true)), .load none (.t 9)⟩,
  ⟨(some 11), (some (8, true)), .load none (.t 3)⟩,
  ⟨(some 12), (some (8, true)), .bin .eql (.t 10) (.t 11)⟩,
  ⟨(some 13), none, .pick (.t 8) (.t 12) (.c (.bool false))⟩])
 (.cond (.t 13) (.seq (.reg [⟨(some 4), none, .mov (.c (.bool true))⟩])
 .ret)
 .skip))
 (.seq (.seq (.reg [⟨(some 14), none, .faddr 0 (.t 2)⟩,
  ⟨(some 15), none, .load none (.t 14)⟩,
  ⟨(some 16), none, .bin .eql (.t 15) (.c (.int .i64 4))⟩,
  ⟨(some 17), none, .mov (.t 16)⟩,
  ⟨(some 18), (some (17, true)), .faddr 1 (.t 2)⟩,
  ⟨(some 19), (some (17, true)), .load none (.t 18)⟩,
  ⟨(some 20), (some (17, true)), .load none (.t 3)⟩,
  ⟨(some 21), (some (17, true)), .bin .eql (.t 19) (.t 20)⟩,
  ⟨(some 22), none, .pick (.t 17) (.t 21) (.c (.bool false))⟩])
 (.cond (.t 22) (.seq (.reg [⟨(some 4), none, .mov (.c (.bool false))⟩])
 .ret)
 .skip))
 (.seq (.reg [⟨(some 23), none, .faddr 2 (.t 2)⟩,
  ⟨(some 24), none, .load none (.t 23)⟩,
  ⟨(some 25), none, .mkfn 82 [(.t 3)]⟩,
  ⟨(some 26), none, .call 0 [] (.c (.fn 81 [])) [(.t 24), (.t 25)]⟩,
  ⟨(some 4), none, .mov (.t 26)⟩])
 .ret)))),
  [.t 4], false, true, 27⟩
theorem co69 : compF Tryd.prog ⟨[3], [], [], [], [], []⟩ false true Tryd.f69 = some ac69 := by kernel_rfl

/-- (paideia/subst.Subst).Then -/
def ac70 : AF := ⟨(.seq (.reg [⟨(some 2), none, .box (.t 0) 1 false⟩,
  ⟨(some 3), none, .box (.t 1) 1 false⟩,
  ⟨(some 4), none, .alloc [(.map none)] false⟩])
 (.seq (.reg [⟨(some 10), none, .mkmap⟩,
  ⟨(some 11), none, .build [(.map none)] [(0, 1, (.t 10))]⟩,
  ⟨(some 5), none, .alloc [(.map none)] false⟩,
  ⟨none, none, .store 1 (.t 5) (.t 11)⟩])
 (.seq (.seq (.reg [⟨(some 12), none, .faddr 0 (.t 3)⟩,
  ⟨(some 13), none, .load none (.t 12)⟩,
  ⟨(some 14), none, .range (.t 13)⟩])
 (.block 0 (.loop [14] [2, 3, 4, 5] (.seq (.reg [⟨(some 15), none, .next (.t 14)⟩,
  ⟨(some 16), none, .extract (.t 15) 0⟩])
 (.seq (.cond (.t 16) .skip
 (.exit 0))
 (.block 1 (.seq (.reg [⟨(some 17), none, .entry (.t 14)⟩,
  ⟨(some 18), none, .extract (.t 17) 0⟩,
  ⟨(some 19), none, .extract (.t 17) 1⟩,
  ⟨(some 7), none, .alloc [(.int .i64 0), (.str []), (.sl .clip [])] false⟩,
  ⟨(some 6), none, .mov (.t 18)⟩,
  ⟨none, none, .store 3 (.t 7) (.t 19)⟩])
 (.reg [⟨(some 20), none, .load (some 1) (.t 5)⟩,
  ⟨(some 21), none, .mov (.t 6)⟩,
  ⟨(some 22), none, .load (some 3) (.t 7)⟩,
  ⟨(some 23), none, .call 0 [] (.c (.fn 83 [])) [(.t 20), (.t 21), (.t 22)]⟩]))))))))
 (.seq (.seq (.reg [⟨(some 24), none, .faddr 0 (.t 2)⟩,
  ⟨(some 25), none, .load none (.t 24)⟩,
  ⟨(some 26), none, .range (.t 25)⟩])
 (.block 2 (.loop [26] [3, 4, 5] (.seq (.reg [⟨(some 27), none, .next (.t 26)⟩,
  ⟨(some 28), none, .extract (.t 27) 0⟩])
 (.seq (.cond (.t 28) .skip
 (.exit 2))
 (.block 3 (.seq (.reg [⟨(some 29), none, .entry (.t 26)⟩,
  ⟨(some 30), none, .extract (.t 29) 0⟩,
  ⟨(some 31), none, .extract (.t 29) 1⟩,
  ⟨(some 9), none, .alloc [(.int .i64 0), (.str []), (.sl .clip [])] false⟩,
  ⟨(some 8), none, .mov (.t 30)⟩,
  ⟨none, none, .store 3 (.t 9) (.t 31)⟩])
 (.seq (.reg [⟨(some 32), none, .faddr 0 (.t 5)⟩,
  ⟨(some 33), none, .load none (.t 32)⟩,
  ⟨(some 34), none, .mov (.t 8)⟩,
  ⟨none, none, .delete .str (.t 33) (.t 34)⟩])
 (.reg [⟨(some 35), none, .loadL (some 1) (.t 5)⟩,
  ⟨(some 36), none, .mov (.t 8)⟩,
  ⟨(some 37), none, .load (some 1) (.t 3)⟩,
  ⟨(some 38), none, .load (some 3) (.t 9)⟩,
  ⟨(some 39), none, .call 0 [] (.c (.fn 14 [])) [(.t 37), (.t 38)]⟩,
  ⟨(some 40), none, .call 0 [] (.c (.fn 83 [])) [(.t 35), (.t 36), (.t 39)]⟩])))))))))
 (.seq (.reg [⟨(some 41), none, .load (some 1) (.t 5)⟩,
  ⟨none, none, .store 1 (.t 4) (.t 41)⟩])
 .ret))))),
  [.cell 4 (some 1)], false, false, 42⟩
theorem co70 : compF Tryd.prog ⟨[], [(3, [14], [2, 3, 4, 5]), (7, [26], [3, 4, 5])], [], [], [], []⟩ false false Tryd.f70 = some ac70 := by kernel_rfl

/-- paideia/subst.Of -/
def ac71 : AF := ⟨(.seq (.reg [⟨(some 2), none, .alloc [(.map none)] false⟩])
 (.seq (.reg [⟨(some 7), none, .mkmap⟩,
  ⟨(some 8), none, .build [(.map none)] [(0, 1, (.t 7))]⟩,
  ⟨(some 3), none, .alloc [(.map none)] false⟩,
  ⟨none, none, .store 1 (.t 3) (.t 8)⟩])
 (.seq (.reg [⟨(some 9), none, .mkmap⟩,
  ⟨(some 4), none, .mov (.t 9)⟩])
 (.seq (.seq (.reg [⟨(some 10), none, .mov (.t 0)⟩,
  ⟨(some 11), none, .len 1 (.t 10)⟩,
  ⟨(some 12), none, .mov (.c (.int .i64 0))⟩])
 (.block 0 (.loop [4, 10, 11, 12] [2, 3] (.seq (.reg [⟨(some 13), none, .bin .lss (.t 12) (.t 11)⟩])
 (.seq (.cond (.t 13) .skip
 (.exit 0))
 (.seq (.block 1 (.seq (.reg [⟨(some 14), none, .iaddr 4 (.t 10) (.t 12)⟩,
  ⟨(some 15), none, .load (some 4) (.t 14)⟩,
  ⟨(some 6), none, .alloc [(.str []), (.int .i64 0), (.str []), (.sl .clip [])] false⟩,
  ⟨none, none, .store 4 (.t 6) (.t 15)⟩])
 (.seq (.reg [⟨(some 16), none, .mov (.t 4)⟩,
  ⟨(some 17), none, .faddr 0 (.t 6)⟩,
  ⟨(some 18), none, .load none (.t 17)⟩,
  ⟨(some 19), none, .lookup .str (.bool false) (.t 16) (.t 18) false⟩,
  ⟨(some 20), none, .not (.t 19)⟩])
 (.cond (.t 20) (.seq (.reg [⟨(some 21), none, .mov (.t 4)⟩,
  ⟨(some 22), none, .faddr 0 (.t 6)⟩,
  ⟨(some 23), none, .load none (.t 22)⟩,
  ⟨none, none, .mapset .str (.t 21) (.t 23) (.c (.bool true))⟩])
 (.reg [⟨(some 24), none, .load (some 1) (.t 3)⟩,
  ⟨(some 25), none, .faddr 0 (.t 6)⟩,
  ⟨(some 26), none, .load none (.t 25)⟩,
  ⟨(some 27), none, .faddr 1 (.t 6)⟩,
  ⟨(some 28), none, .load (some 3) (.t 27)⟩,
  ⟨(some 29), none, .call 0 [] (.c (.fn 83 [])) [(.t 24), (.t 26), (.t 28)]⟩]))
 .skip))))
 (.reg [⟨(some 30), none, .bin .add (.t 12) (.c (.int .i64 1))⟩,
  ⟨(some 12), none, .mov (.t 30)⟩])))))))
 (.seq (.reg [⟨(some 31), none, .load (some 1) (.t 3)⟩,
  ⟨none, none, .store 1 (.t 2) (.t 31)⟩])
 .ret))))),
  [.cell 2 (some 1)], false, false, 32⟩
theorem co71 : compF Tryd.prog ⟨[], [(4, [4, 10, 11, 12], [2, 3])], [], [], [], []⟩ false false Tryd.f71 = some ac71 := by kernel_rfl

/-- slices.ContainsFunc[[]paideia/api.Type,paideia/api.Type] -/
def ac81 : AF := ⟨(.seq (.reg [⟨(some 4), none, .mov (.c (.bool false))⟩])
 (.seq (.reg [⟨(some 5), none, .mov (.t 0)⟩,
  ⟨(some 6), none, .mov (.t 1)⟩,
  ⟨(some 7), none, .call 0 [] (.c (.fn 90 [])) [(.t 5), (.t 6)]⟩,
  ⟨(some 8), none, .bin .geq (.t 7) (.c (.int .i64 0))⟩,
  ⟨(some 4), none, .mov (.t 8)⟩])
 .ret)),
  [.t 4], false, true, 9⟩
theorem co81 : compF Tryd.prog ⟨[], [], [], [], [], []⟩ false true Tryd.f81 = some ac81 := by kernel_rfl

/-- paideia/types.Has$1 -/
def ac82 : AF := ⟨(.seq (.reg [⟨(some 2), none, .box (.t 0) 3 false⟩,
  ⟨(some 3), none, .mov (.c (.bool false))⟩])
 (.seq (.reg [⟨(some 4), none, .load (some 3) (.t 2)⟩,
  ⟨(some 5), none, .load none (.t 1)⟩,
  ⟨(some 6), none, .call 0 [] (.c (.fn 69 [])) [(.t 4), (.t 5)]⟩,
  ⟨(some 3), none, .mov (.t 6)⟩])
 .ret)),
  [.t 3], false, true, 7⟩
theorem co82 : compF Tryd.prog ⟨[], [], [], [], [], []⟩ false true Tryd.f82 = some ac82 := by kernel_rfl

/-- (paideia/subst.Subst).put -/
def ac83 : AF := ⟨(.seq (.reg [⟨(some 3), none, .box (.t 0) 1 false⟩,
  ⟨(some 5), none, .box (.t 2) 3 false⟩])
 (.seq (.reg [⟨(some 6), none, .faddr 0 (.t 5)⟩,
  ⟨(some 7), none, .load none (.t 6)⟩,
  ⟨(some 8), none, .bin .neq (.t 7) (.c (.int .i64 1))⟩,
  ⟨(some 9), none, .mov (.t 8)⟩,
  ⟨(some 10), (some (9, false)), .faddr 1 (.t 5)⟩,
  ⟨(some 11), (some (9, false)), .load none (.t 10)⟩,
  ⟨(some 12), (some (9, false)), .mov (.t 1)⟩,
  ⟨(some 13), (some (9, false)), .bin .neq (.t 11) (.t 12)⟩,
  ⟨(some 14), none, .pick (.t 9) (.c (.bool true)) (.t 13)⟩])
 (.cond (.t 14) (.reg [⟨(some 15), none, .faddr 0 (.t 3)⟩,
  ⟨(some 16), none, .loadL none (.t 15)⟩,
  ⟨(some 17), none, .mov (.t 1)⟩,
  ⟨(some 18), none, .load (some 3) (.t 5)⟩,
  ⟨(some 19), none, .call 0 [] (.c (.fn 42 [])) [(.t 18)]⟩,
  ⟨none, none, .mapset .str (.t 16) (.t 17) (.t 19)⟩])
 .skip))),
  [], false, false, 20⟩
theorem co83 : compF Tryd.prog ⟨[], [], [], [], [], []⟩ false false Tryd.f83 = some ac83 := by kernel_rfl

/-- slices.IndexFunc[[]paideia/api.Type,paideia/api.Type] -/
def ac90 : AF := ⟨(.seq (.reg [⟨(some 4), none, .mov (.c (.int .i64 0))⟩])
 (.seq (.seq (.reg [⟨(some 6), none, .mov (.t 0)⟩,
  ⟨(some 7), none, .len 1 (.t 6)⟩,
  ⟨(some 8), none, .mov (.c (.int .i64 0))⟩])
 (.block 0 (.loop [0, 1, 7, 8] [] (.seq (.reg [⟨(some 9), none, .bin .lss (.t 8) (.t 7)⟩])
 (.seq (.cond (.t 9) .skip
 (.exit 0))
 (.seq (.block 1 (.seq (.reg [⟨(some 10), none, .mov (.t 8)⟩,
  ⟨(some 5), none, .mov (.t 10)⟩])
 (.seq (.reg [⟨(some 11), none, .mov (.t 1)⟩,
  ⟨(some 12), none, .mov (.t 0)⟩,
  ⟨(some 13), none, .mov (.t 5)⟩,
  ⟨(some 14), none, .iaddr 3 (.t 12) (.t 13)⟩,
  ⟨(some 15), none, .load (some 3) (.t 14)⟩,
  ⟨(some 16), none, .call 0 [] (.t 11) [(.t 15)]⟩])
 (.cond (.t 16) (.seq (.reg [⟨(some 17), none, .mov (.t 5)⟩,
  ⟨(some 4), none, .mov (.t 17)⟩])
 .ret)
 .skip))))
 (.reg [⟨(some 18), none, .bin .add (.t 8) (.c (.int .i64 1))⟩,
  ⟨(some 8), none, .mov (.t 18)⟩])))))))
 (.seq (.reg [⟨(some 4), none, .mov (.c (.int .i64 (-1)))⟩])
 .ret))),
  [.t 4], false, true, 19⟩
theorem co90 : compF Tryd.prog ⟨[], [(2, [0, 1, 7, 8], [])], [], [], [], []⟩ false true Tryd.f90 = some ac90 := by kernel_rfl



def ap1 : AP := fun f vr => match f, vr with
  | 69, 0 => some (.code ac69)
  | 70, 0 => some (.code ac70)
  | 71, 0 => some (.code ac71)
  | 81, 0 => some (.code ac81)
  | 82, 0 => some (.code ac82)
  | 83, 0 => some (.code ac83)
  | 90, 0 => some (.code ac90)
  | _, _ => none

theorem table1 : TableOk Tryd.prog ap1 [0,1] := by
  intro f vr fd h
  unfold ap1 at h
  split at h
  · cases h; exact ⟨_, _, Tryd.func69, co69, by decide⟩
  · cases h; exact ⟨_, _, Tryd.func70, co70, by decide⟩
  · cases h; exact ⟨_, _, Tryd.func71, co71, by decide⟩
  · cases h; exact ⟨_, _, Tryd.func81, co81, by decide⟩
  · cases h; exact ⟨_, _, Tryd.func82, co82, by decide⟩
  · cases h; exact ⟨_, _, Tryd.func83, co83, by decide⟩
  · cases h; exact ⟨_, _, Tryd.func90, co90, by decide⟩
  · cases h

def ap0 : AP := fun f vr => match f, vr with
  | 4, 0 => some (.code ac4)
  | 5, 0 => some (.code ac5)
  | 8, 0 => some (.code ac8)
  | 9, 0 => some (.code ac9)
  | 10, 0 => some (.code ac10)
  | 13, 0 => some (.code ac13)
  | 14, 0 => some (.code ac14)
  | 15, 0 => some (.code ac15)
  | 16, 0 => some (.code ac16)
  | 18, 0 => some (.code ac18)
  | 19, 0 => some (.codeF ac19)
  | 20, 0 => some (.code ac20)
  | 21, 0 => some (.code ac21)
  | 22, 0 => some (.code ac22)
  | 34, 0 => some (.code ac34)
  | 35, 0 => some (.code ac35)
  | 36, 0 => some (.code ac36)
  | 37, 0 => some (.code ac37)
  | 41, 0 => some (.code ac41)
  | 42, 0 => some (.code ac42)
  | 43, 0 => some (.code ac43)
  | 44, 0 => some (.code ac44)
  | 45, 1 => some (.code ac45v1)
  | 46, 0 => some (.code ac46)
  | 55, 0 => some (.code ac55)
  | f, vr => ap1 f vr

theorem table0 : TableOk Tryd.prog ap0 [0,1] := by
  intro f vr fd h
  unfold ap0 at h
  split at h
  · cases h; exact ⟨_, _, Tryd.func4, co4, by decide⟩
  · cases h; exact ⟨_, _, Tryd.func5, co5, by decide⟩
  · cases h; exact ⟨_, _, Tryd.func8, co8, by decide⟩
  · cases h; exact ⟨_, _, Tryd.func9, co9, by decide⟩
  · cases h; exact ⟨_, _, Tryd.func10, co10, by decide⟩
  · cases h; exact ⟨_, _, Tryd.func13, co13, by decide⟩
  · cases h; exact ⟨_, _, Tryd.func14, co14, by decide⟩
  · cases h; exact ⟨_, _, Tryd.func15, co15, by decide⟩
  · cases h; exact ⟨_, _, Tryd.func16, co16, by decide⟩
  · cases h; exact ⟨_, _, Tryd.func18, co18, by decide⟩
  · cases h; exact ⟨_, _, Tryd.func19, co19, by decide⟩
  · cases h; exact ⟨_, _, Tryd.func20, co20, by decide⟩
  · cases h; exact ⟨_, _, Tryd.func21, co21, by decide⟩
  · cases h; exact ⟨_, _, Tryd.func22, co22, by decide⟩
  · cases h; exact ⟨_, _, Tryd.func34, co34, by decide⟩
  · cases h; exact ⟨_, _, Tryd.func35, co35, by decide⟩
  · cases h; exact ⟨_, _, Tryd.func36, co36, by decide⟩
  · cases h; exact ⟨_, _, Tryd.func37, co37, by decide⟩
  · cases h; exact ⟨_, _, Tryd.func41, co41, by decide⟩
  · cases h; exact ⟨_, _, Tryd.func42, co42, by decide⟩
  · cases h; exact ⟨_, _, Tryd.func43, co43, by decide⟩
  · cases h; exact ⟨_, _, Tryd.func44, co44, by decide⟩
  · cases h; exact ⟨_, _, Tryd.func45, co45v1, by decide⟩
  · cases h; exact ⟨_, _, Tryd.func46, co46, by decide⟩
  · cases h; exact ⟨_, _, Tryd.func55, co55, by decide⟩
  · exact table1 _ _ _ h

def ap : AP := ap0
theorem tableOk : TableOk Tryd.prog ap [0,1] := table0

end Go.Ht
