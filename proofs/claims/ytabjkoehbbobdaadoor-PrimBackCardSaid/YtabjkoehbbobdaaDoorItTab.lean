/- The seat's functions on the abstract machine. -/
import Derived.Test.YtabjkoehbbobdaaDoorAmX
import Derived.Test.YtabjkoehbbobdaaDoorAmZ
import Derived.Test.YtabjkoehbbobdaaDoorAmL
import Derived.Test.YtabjkoehbbobdaaDoorAmU
import Derived.Test.YtabjkoehbbobdaaDoorAmI
import Derived.Test.YtabjkoehbbobdaaDoorItShelf
import Derived.Test.YtabjkoehbbobdaaDoorProg
namespace Go.It
open Go.Am Go.Proofs

set_option maxRecDepth 100000
/-- paideia/paideialaw23.PrimBack -/
def ac6 : AF := ⟨(.seq (.reg [⟨(some 4), none, .mov (.c (.bool false))⟩])
 (.seq (.reg [⟨(some 12), none, .call 0 [] (.c (.fn 23 [])) []⟩,
  ⟨(some 5), none, .mov (.t 12)⟩])
 (.seq (.seq (.reg [⟨(some 13), none, .mov (.t 5)⟩,
  ⟨(some 14), none, .not (.t 13)⟩])
 (.cond (.t 14) (.seq (.reg [⟨(some 4), none, .mov (.c (.bool false))⟩])
 .ret)
 .skip))
 (.seq (.reg [⟨(some 16), none, .mov (.t 0)⟩,
  ⟨(some 17), none, .call 0 [] (.c (.fn 25 [])) [(.t 16)]⟩,
  ⟨(some 18), none, .conv .bytes (.t 17)⟩,
  ⟨(some 19), none, .call 0 [] (.c (.fn 24 [])) [(.t 18)]⟩,
  ⟨(some 15), none, .mov (.t 19)⟩,
  ⟨(some 20), none, .extract (.t 15) 0⟩,
  ⟨(some 21), none, .extract (.t 15) 1⟩,
  ⟨(some 7), none, .alloc [(.int .i64 0), (.bool false), (.int .i64 0)] false⟩,
  ⟨(some 6), none, .mov (.t 20)⟩,
  ⟨none, none, .store 3 (.t 7) (.t 21)⟩])
 (.seq (.seq (.reg [⟨(some 22), none, .mov (.t 0)⟩,
  ⟨(some 23), none, .bin .geq (.t 22) (.c (.int .u8 32))⟩,
  ⟨(some 24), none, .mov (.t 23)⟩,
  ⟨(some 25), (some (24, true)), .mov (.t 0)⟩,
  ⟨(some 26), (some (24, true)), .bin .leq (.t 25) (.c (.int .u8 126))⟩,
  ⟨(some 27), none, .pick (.t 24) (.t 26) (.c (.bool false))⟩,
  ⟨(some 28), none, .mov (.t 27)⟩,
  ⟨(some 29), (some (28, false)), .mov (.t 0)⟩,
  ⟨(some 30), (some (28, false)), .bin .eql (.t 29) (.c (.int .u8 10))⟩,
  ⟨(some 31), none, .pick (.t 28) (.c (.bool true)) (.t 30)⟩])
 (.cond (.t 31) (.seq (.reg [⟨(some 32), none, .faddr 0 (.t 7)⟩,
  ⟨(some 33), none, .load none (.t 32)⟩,
  ⟨(some 34), none, .bin .neq (.t 33) (.c (.int .i64 0))⟩,
  ⟨(some 35), none, .mov (.t 34)⟩,
  ⟨(some 36), (some (35, false)), .mov (.t 6)⟩,
  ⟨(some 37), (some (35, false)), .len 1 (.t 36)⟩,
  ⟨(some 38), (some (35, false)), .bin .neq (.t 37) (.c (.int .i64 1))⟩,
  ⟨(some 39), none, .pick (.t 35) (.c (.bool true)) (.t 38)⟩,
  ⟨(some 40), none, .mov (.t 39)⟩,
  ⟨(some 41), (some (40, false)), .mov (.t 6)⟩,
  ⟨(some 42), (some (40, false)), .iaddr 4 (.t 41) (.c (.int .i64 0))⟩,
  ⟨(some 43), (some (40, false)), .faddr 3 (.t 42)⟩,
  ⟨(some 44), (some (40, false)), .load none (.t 43)⟩,
  ⟨(some 45), (some (40, false)), .mov (.t 0)⟩,
  ⟨(some 46), (some (40, false)), .conv (.int .i64) (.t 45)⟩,
  ⟨(some 47), (some (40, false)), .bin .neq (.t 44) (.t 46)⟩,
  ⟨(some 48), none, .pick (.t 40) (.c (.bool true)) (.t 47)⟩])
 (.cond (.t 48) (.seq (.reg [⟨(some 4), none, .mov (.c (.bool false))⟩])
 .ret)
 .skip))
 .skip))
 (.seq (.seq (.reg [⟨(some 49), none, .mov (.t 1)⟩,
  ⟨(some 50), none, .bin .lss (.t 49) (.c (.int .i64 0))⟩])
 (.cond (.t 50) (.reg [⟨(some 51), none, .mov (.t 1)⟩,
  ⟨(some 52), none, .bin .add (.t 51) (.c (.int .i64 1))⟩,
  ⟨(some 53), none, .neg (.t 52)⟩,
  ⟨(some 1), none, .mov (.t 53)⟩])
 .skip))
 (.seq (.reg [⟨(some 54), none, .mov (.t 1)⟩,
  ⟨(some 55), none, .bin .rem (.t 54) (.c (.int .i64 1000000000000000))⟩,
  ⟨(some 1), none, .mov (.t 55)⟩])
 (.seq (.reg [⟨(some 57), none, .mov (.t 1)⟩,
  ⟨(some 58), none, .call 0 [] (.c (.fn 26 [])) [(.c (.str [112, 114, 105, 109, 73, 110, 116, 83, 104, 111, 119])), (.t 57)]⟩,
  ⟨(some 56), none, .mov (.t 58)⟩,
  ⟨(some 59), none, .extract (.t 56) 0⟩,
  ⟨(some 60), none, .extract (.t 56) 1⟩,
  ⟨(some 8), none, .mov (.t 59)⟩,
  ⟨(some 9), none, .mov (.t 60)⟩])
 (.seq (.reg [⟨(some 62), none, .mov (.t 8)⟩,
  ⟨(some 63), none, .conv .bytes (.t 62)⟩,
  ⟨(some 64), none, .call 0 [] (.c (.fn 24 [])) [(.t 63)]⟩,
  ⟨(some 61), none, .mov (.t 64)⟩,
  ⟨(some 65), none, .extract (.t 61) 0⟩,
  ⟨(some 66), none, .extract (.t 61) 1⟩,
  ⟨(some 11), none, .alloc [(.int .i64 0), (.bool false), (.int .i64 0)] false⟩,
  ⟨(some 10), none, .mov (.t 65)⟩,
  ⟨none, none, .store 3 (.t 11) (.t 66)⟩])
 (.seq (.reg [⟨(some 67), none, .mov (.t 5)⟩,
  ⟨(some 68), none, .mov (.t 67)⟩,
  ⟨(some 69), (some (68, true)), .mov (.t 9)⟩,
  ⟨(some 70), none, .pick (.t 68) (.t 69) (.c (.bool false))⟩,
  ⟨(some 71), none, .mov (.t 70)⟩,
  ⟨(some 72), (some (71, true)), .faddr 0 (.t 11)⟩,
  ⟨(some 73), (some (71, true)), .load none (.t 72)⟩,
  ⟨(some 74), (some (71, true)), .bin .eql (.t 73) (.c (.int .i64 0))⟩,
  ⟨(some 75), none, .pick (.t 71) (.t 74) (.c (.bool false))⟩,
  ⟨(some 76), none, .mov (.t 75)⟩,
  ⟨(some 77), (some (76, true)), .mov (.t 10)⟩,
  ⟨(some 78), (some (76, true)), .len 1 (.t 77)⟩,
  ⟨(some 79), (some (76, true)), .bin .eql (.t 78) (.c (.int .i64 1))⟩,
  ⟨(some 80), none, .pick (.t 76) (.t 79) (.c (.bool false))⟩,
  ⟨(some 81), none, .mov (.t 80)⟩,
  ⟨(some 82), (some (81, true)), .mov (.t 10)⟩,
  ⟨(some 83), (some (81, true)), .iaddr 4 (.t 82) (.c (.int .i64 0))⟩,
  ⟨(some 84), (some (81, true)), .faddr 3 (.t 83)⟩,
  ⟨(some 85), (some (81, true)), .load none (.t 84)⟩,
  ⟨(some 86), (some (81, true)), .mov (.t 1)⟩,
  ⟨(some 87), (some (81, true)), .bin .eql (.t 85) (.t 86)⟩,
  ⟨(some 88), none, .pick (.t 81) (.t 87) (.c (.bool false))⟩,
  ⟨(some 4), none, .mov (.t 88)⟩])
 .ret)))))))))),
  [.t 4], false, true, 89⟩
theorem co6 : compF Tryd.prog ⟨[], [], [], [], [], []⟩ false true Tryd.f6 = some ac6 := by kernel_rfl

/-- paideia/paideialaw23.PrimSays -/
def ac7 : AF := ⟨(.seq (.reg [⟨(some 8), none, .mov (.c (.bool false))⟩])
 (.seq (.reg [⟨(some 24), none, .call 0 [] (.c (.fn 23 [])) []⟩,
  ⟨(some 9), none, .mov (.t 24)⟩])
 (.seq (.seq (.reg [⟨(some 25), none, .mov (.t 9)⟩,
  ⟨(some 26), none, .not (.t 25)⟩])
 (.cond (.t 26) (.seq (.reg [⟨(some 8), none, .mov (.c (.bool false))⟩])
 .ret)
 .skip))
 (.seq (.seq (.reg [⟨(some 27), none, .mov (.t 0)⟩,
  ⟨(some 28), none, .len 0 (.t 27)⟩,
  ⟨(some 29), none, .bin .gtr (.t 28) (.c (.int .i64 60))⟩])
 (.cond (.t 29) (.seq (.reg [⟨(some 30), none, .mov (.t 9)⟩,
  ⟨(some 8), none, .mov (.t 30)⟩])
 .ret)
 .skip))
 (.seq (.reg [⟨(some 31), none, .call 0 [] (.c (.fn 27 [])) []⟩,
  ⟨(some 32), none, .mov (.t 0)⟩,
  ⟨(some 33), none, .bslice [(.str [])] 1 [(0, (.t 32))]⟩,
  ⟨(some 34), none, .append 1 (.t 31) (.t 33)⟩,
  ⟨(some 10), none, .mov (.t 34)⟩])
 (.seq (.seq (.reg [⟨(some 11), none, .mov (.c (.int .i64 0))⟩])
 (.block 0 (.loop [1, 2, 3, 9, 10, 11] [] (.seq (.seq (.reg [⟨(some 35), none, .mov (.t 11)⟩,
  ⟨(some 36), none, .mov (.t 10)⟩,
  ⟨(some 37), none, .len 1 (.t 36)⟩,
  ⟨(some 38), none, .bin .lss (.t 35) (.t 37)⟩])
 (.cond (.t 38) .skip
 (.exit 0)))
 (.seq (.block 1 (.seq (.reg [⟨(some 42), none, .mov (.t 10)⟩,
  ⟨(some 43), none, .mov (.t 11)⟩,
  ⟨(some 44), none, .iaddr 1 (.t 42) (.t 43)⟩,
  ⟨(some 45), none, .load none (.t 44)⟩,
  ⟨(some 46), none, .mov (.t 1)⟩,
  ⟨(some 47), none, .mov (.t 2)⟩,
  ⟨(some 48), none, .call 0 [] (.c (.fn 28 [])) [(.t 45), (.t 46), (.t 47)]⟩,
  ⟨(some 41), none, .mov (.t 48)⟩,
  ⟨(some 49), none, .extract (.t 41) 0⟩,
  ⟨(some 50), none, .extract (.t 41) 1⟩,
  ⟨(some 12), none, .mov (.t 49)⟩,
  ⟨(some 13), none, .mov (.t 50)⟩])
 (.seq (.reg [⟨(some 52), none, .mov (.t 10)⟩,
  ⟨(some 53), none, .mov (.t 11)⟩,
  ⟨(some 54), none, .iaddr 1 (.t 52) (.t 53)⟩,
  ⟨(some 55), none, .load none (.t 54)⟩,
  ⟨(some 56), none, .mov (.t 1)⟩,
  ⟨(some 57), none, .mov (.t 2)⟩,
  ⟨(some 58), none, .call 0 [] (.c (.fn 29 [])) [(.t 55), (.t 56), (.t 57)]⟩,
  ⟨(some 51), none, .mov (.t 58)⟩,
  ⟨(some 59), none, .extract (.t 51) 0⟩,
  ⟨(some 60), none, .extract (.t 51) 1⟩,
  ⟨(some 14), none, .mov (.t 59)⟩,
  ⟨(some 15), none, .mov (.t 60)⟩])
 (.seq (.reg [⟨(some 62), none, .mov (.t 10)⟩,
  ⟨(some 63), none, .mov (.t 11)⟩,
  ⟨(some 64), none, .iaddr 1 (.t 62) (.t 63)⟩,
  ⟨(some 65), none, .load none (.t 64)⟩,
  ⟨(some 66), none, .mov (.t 1)⟩,
  ⟨(some 67), none, .mov (.t 2)⟩,
  ⟨(some 68), none, .call 0 [] (.c (.fn 30 [])) [(.t 65), (.t 66), (.t 67)]⟩,
  ⟨(some 61), none, .mov (.t 68)⟩,
  ⟨(some 69), none, .extract (.t 61) 0⟩,
  ⟨(some 70), none, .extract (.t 61) 1⟩,
  ⟨(some 16), none, .mov (.t 69)⟩,
  ⟨(some 17), none, .mov (.t 70)⟩])
 (.seq (.reg [⟨(some 72), none, .mov (.t 10)⟩,
  ⟨(some 73), none, .mov (.t 11)⟩,
  ⟨(some 74), none, .iaddr 1 (.t 72) (.t 73)⟩,
  ⟨(some 75), none, .load none (.t 74)⟩,
  ⟨(some 76), none, .mov (.t 1)⟩,
  ⟨(some 77), none, .mov (.t 2)⟩,
  ⟨(some 78), none, .call 0 [] (.c (.fn 31 [])) [(.t 75), (.t 76), (.t 77)]⟩,
  ⟨(some 71), none, .mov (.t 78)⟩,
  ⟨(some 79), none, .extract (.t 71) 0⟩,
  ⟨(some 80), none, .extract (.t 71) 1⟩,
  ⟨(some 18), none, .mov (.t 79)⟩,
  ⟨(some 19), none, .mov (.t 80)⟩])
 (.seq (.reg [⟨(some 82), none, .mov (.t 10)⟩,
  ⟨(some 83), none, .mov (.t 11)⟩,
  ⟨(some 84), none, .iaddr 1 (.t 82) (.t 83)⟩,
  ⟨(some 85), none, .load none (.t 84)⟩,
  ⟨(some 86), none, .mov (.t 1)⟩,
  ⟨(some 87), none, .call 0 [] (.c (.fn 26 [])) [(.t 85), (.t 86)]⟩,
  ⟨(some 81), none, .mov (.t 87)⟩,
  ⟨(some 88), none, .extract (.t 81) 0⟩,
  ⟨(some 89), none, .extract (.t 81) 1⟩,
  ⟨(some 20), none, .mov (.t 88)⟩,
  ⟨(some 21), none, .mov (.t 89)⟩])
 (.seq (.reg [⟨(some 91), none, .mov (.t 10)⟩,
  ⟨(some 92), none, .mov (.t 11)⟩,
  ⟨(some 93), none, .iaddr 1 (.t 91) (.t 92)⟩,
  ⟨(some 94), none, .load none (.t 93)⟩,
  ⟨(some 95), none, .mov (.t 1)⟩,
  ⟨(some 96), none, .call 0 [] (.c (.fn 32 [])) [(.t 94), (.t 95)]⟩,
  ⟨(some 90), none, .mov (.t 96)⟩,
  ⟨(some 97), none, .extract (.t 90) 0⟩,
  ⟨(some 98), none, .extract (.t 90) 1⟩,
  ⟨(some 22), none, .mov (.t 97)⟩,
  ⟨(some 23), none, .mov (.t 98)⟩])
 (.seq (.reg [⟨(some 99), none, .mov (.t 12)⟩,
  ⟨(some 100), none, .mov (.t 14)⟩,
  ⟨(some 101), none, .bin .neq (.t 99) (.t 100)⟩,
  ⟨(some 102), none, .mov (.t 101)⟩,
  ⟨(some 103), (some (102, false)), .mov (.t 13)⟩,
  ⟨(some 104), (some (102, false)), .mov (.t 15)⟩,
  ⟨(some 105), (some (102, false)), .eqb true (.t 103) (.t 104)⟩,
  ⟨(some 106), none, .pick (.t 102) (.c (.bool true)) (.t 105)⟩,
  ⟨(some 107), none, .mov (.t 106)⟩,
  ⟨(some 108), (some (107, false)), .mov (.t 16)⟩,
  ⟨(some 109), (some (107, false)), .mov (.t 18)⟩,
  ⟨(some 110), (some (107, false)), .eqb true (.t 108) (.t 109)⟩,
  ⟨(some 111), none, .pick (.t 107) (.c (.bool true)) (.t 110)⟩,
  ⟨(some 112), none, .mov (.t 111)⟩,
  ⟨(some 113), (some (112, false)), .mov (.t 17)⟩,
  ⟨(some 114), (some (112, false)), .mov (.t 19)⟩,
  ⟨(some 115), (some (112, false)), .eqb true (.t 113) (.t 114)⟩,
  ⟨(some 116), none, .pick (.t 112) (.c (.bool true)) (.t 115)⟩,
  ⟨(some 117), none, .mov (.t 116)⟩,
  ⟨(some 118), (some (117, false)), .mov (.t 20)⟩,
  ⟨(some 119), (some (117, false)), .mov (.t 22)⟩,
  ⟨(some 120), (some (117, false)), .bin .neq (.t 118) (.t 119)⟩,
  ⟨(some 121), none, .pick (.t 117) (.c (.bool true)) (.t 120)⟩,
  ⟨(some 122), none, .mov (.t 121)⟩,
  ⟨(some 123), (some (122, false)), .mov (.t 21)⟩,
  ⟨(some 124), (some (122, false)), .mov (.t 23)⟩,
  ⟨(some 125), (some (122, false)), .eqb true (.t 123) (.t 124)⟩,
  ⟨(some 126), none, .pick (.t 122) (.c (.bool true)) (.t 125)⟩])
 (.cond (.t 126) (.seq (.reg [⟨(some 8), none, .mov (.c (.bool false))⟩])
 .ret)
 .skip)))))))))
 (.reg [⟨(some 39), none, .mov (.t 11)⟩,
  ⟨(some 40), none, .bin .add (.t 39) (.c (.int .i64 1))⟩,
  ⟨(some 11), none, .mov (.t 40)⟩]))))))
 (.seq (.reg [⟨(some 127), none, .mov (.t 9)⟩,
  ⟨(some 128), none, .mov (.t 127)⟩,
  ⟨(some 129), (some (128, true)), .mov (.t 3)⟩,
  ⟨(some 130), (some (128, true)), .call 0 [] (.c (.fn 25 [])) [(.t 129)]⟩,
  ⟨(some 131), (some (128, true)), .mov (.t 3)⟩,
  ⟨(some 132), (some (128, true)), .call 0 [] (.c (.fn 33 [])) [(.t 131)]⟩,
  ⟨(some 133), (some (128, true)), .bin .eql (.t 130) (.t 132)⟩,
  ⟨(some 134), none, .pick (.t 128) (.t 133) (.c (.bool false))⟩,
  ⟨(some 8), none, .mov (.t 134)⟩])
 .ret))))))),
  [.t 8], false, true, 135⟩
theorem co7 : compF Tryd.prog ⟨[], [(8, [1, 2, 3, 9, 10, 11], [])], [], [], [], []⟩ false true Tryd.f7 = some ac7 := by kernel_rfl

/-- paideia/paideialaw23.first -/
def ac23 : AF := ⟨(.seq (.reg [⟨(some 0), none, .mov (.c (.bool false))⟩])
 (.seq (.reg [⟨(some 4), none, .call 0 [] (.c (.fn 28 [])) [(.c (.str [112, 114, 105, 109, 73, 110, 116, 65, 100, 100])), (.c (.int .i64 1)), (.c (.int .i64 2))]⟩,
  ⟨(some 3), none, .mov (.t 4)⟩,
  ⟨(some 5), none, .extract (.t 3) 0⟩,
  ⟨(some 6), none, .extract (.t 3) 1⟩,
  ⟨(some 1), none, .mov (.t 5)⟩,
  ⟨(some 2), none, .mov (.t 6)⟩])
 (.seq (.reg [⟨(some 7), none, .mov (.t 2)⟩,
  ⟨(some 8), none, .mov (.t 7)⟩,
  ⟨(some 9), (some (8, true)), .mov (.t 1)⟩,
  ⟨(some 10), (some (8, true)), .bin .eql (.t 9) (.c (.int .i64 3))⟩,
  ⟨(some 11), none, .pick (.t 8) (.t 10) (.c (.bool false))⟩,
  ⟨(some 0), none, .mov (.t 11)⟩])
 .ret))),
  [.t 0], false, true, 12⟩
theorem co23 : compF Tryd.prog ⟨[], [], [], [], [], []⟩ false true Tryd.f23 = some ac23 := by kernel_rfl

/-- paideia/paideiaref1.Split -/
def ac24 : AF := ⟨(.seq (.reg [⟨(some 2), none, .mov (.c (.sl .clip []))⟩,
  ⟨(some 3), none, .alloc [(.int .i64 0), (.bool false), (.int .i64 0)] false⟩])
 (.seq (.seq (.reg [⟨(some 8), none, .mov (.t 0)⟩,
  ⟨(some 9), none, .len 1 (.t 8)⟩,
  ⟨(some 10), none, .bin .gtr (.t 9) (.c (.int .i64 20000))⟩])
 (.cond (.t 10) (.seq (.reg [⟨(some 11), none, .call 0 [] (.c (.fn 47 [])) [(.c (.int .i64 111)), (.c (.int .i64 20000))]⟩,
  ⟨(some 2), none, .mov (.c (.sl .clip []))⟩,
  ⟨none, none, .store 3 (.t 3) (.t 11)⟩])
 .ret)
 .skip))
 (.seq (.reg [⟨(some 4), none, .mov (.c (.sl .clip []))⟩])
 (.seq (.seq (.reg [⟨(some 5), none, .mov (.c (.int .i64 0))⟩])
 (.block 0 (.loop [0, 4, 5] [3] (.seq (.seq (.reg [⟨(some 12), none, .mov (.t 5)⟩,
  ⟨(some 13), none, .mov (.t 0)⟩,
  ⟨(some 14), none, .len 1 (.t 13)⟩,
  ⟨(some 15), none, .bin .lss (.t 12) (.t 14)⟩])
 (.cond (.t 15) .skip
 (.exit 0)))
 (.block 1 (.block 2 (.seq (.reg [⟨(some 37), none, .mov (.t 0)⟩,
  ⟨(some 38), none, .mov (.t 5)⟩,
  ⟨(some 39), none, .iaddr 1 (.t 37) (.t 38)⟩,
  ⟨(some 40), none, .load none (.t 39)⟩,
  ⟨(some 41), none, .bin .eql (.t 40) (.c (.int .u8 32))⟩,
  ⟨(some 42), none, .mov (.t 41)⟩,
  ⟨(some 43), (some (42, false)), .mov (.t 0)⟩,
  ⟨(some 44), (some (42, false)), .mov (.t 5)⟩,
  ⟨(some 45), (some (42, false)), .iaddr 1 (.t 43) (.t 44)⟩,
  ⟨(some 46), (some (42, false)), .load none (.t 45)⟩,
  ⟨(some 47), (some (42, false)), .bin .eql (.t 46) (.c (.int .u8 9))⟩,
  ⟨(some 48), none, .pick (.t 42) (.c (.bool true)) (.t 47)⟩,
  ⟨(some 49), none, .mov (.t 48)⟩,
  ⟨(some 50), (some (49, false)), .mov (.t 0)⟩,
  ⟨(some 51), (some (49, false)), .mov (.t 5)⟩,
  ⟨(some 52), (some (49, false)), .iaddr 1 (.t 50) (.t 51)⟩,
  ⟨(some 53), (some (49, false)), .load none (.t 52)⟩,
  ⟨(some 54), (some (49, false)), .bin .eql (.t 53) (.c (.int .u8 10))⟩,
  ⟨(some 55), none, .pick (.t 49) (.c (.bool true)) (.t 54)⟩,
  ⟨(some 56), none, .mov (.t 55)⟩,
  ⟨(some 57), (some (56, false)), .mov (.t 0)⟩,
  ⟨(some 58), (some (56, false)), .mov (.t 5)⟩,
  ⟨(some 59), (some (56, false)), .iaddr 1 (.t 57) (.t 58)⟩,
  ⟨(some 60), (some (56, false)), .load none (.t 59)⟩,
  ⟨(some 61), (some (56, false)), .bin .eql (.t 60) (.c (.int .u8 13))⟩,
  ⟨(some 62), none, .pick (.t 56) (.c (.bool true)) (.t 61)⟩,
  ⟨(some 36), none, .mov (.t 62)⟩])
 (.cond (.t 36) (.reg [⟨(some 63), none, .mov (.t 5)⟩,
  ⟨(some 64), none, .bin .add (.t 63) (.c (.int .i64 1))⟩,
  ⟨(some 5), none, .mov (.t 64)⟩])
 (.seq (.reg [⟨(some 66), none, .mov (.t 0)⟩,
  ⟨(some 67), none, .mov (.t 5)⟩,
  ⟨(some 68), none, .iaddr 1 (.t 66) (.t 67)⟩,
  ⟨(some 69), none, .load none (.t 68)⟩,
  ⟨(some 70), none, .bin .eql (.t 69) (.c (.int .u8 45))⟩,
  ⟨(some 71), none, .mov (.t 70)⟩,
  ⟨(some 72), (some (71, true)), .mov (.t 5)⟩,
  ⟨(some 73), (some (71, true)), .bin .add (.t 72) (.c (.int .i64 1))⟩,
  ⟨(some 74), (some (71, true)), .mov (.t 0)⟩,
  ⟨(some 75), (some (71, true)), .len 1 (.t 74)⟩,
  ⟨(some 76), (some (71, true)), .bin .lss (.t 73) (.t 75)⟩,
  ⟨(some 77), none, .pick (.t 71) (.t 76) (.c (.bool false))⟩,
  ⟨(some 78), none, .mov (.t 77)⟩,
  ⟨(some 79), (some (78, true)), .mov (.t 0)⟩,
  ⟨(some 80), (some (78, true)), .mov (.t 5)⟩,
  ⟨(some 81), (some (78, true)), .bin .add (.t 80) (.c (.int .i64 1))⟩,
  ⟨(some 82), (some (78, true)), .iaddr 1 (.t 79) (.t 81)⟩,
  ⟨(some 83), (some (78, true)), .load none (.t 82)⟩,
  ⟨(some 84), (some (78, true)), .bin .eql (.t 83) (.c (.int .u8 45))⟩,
  ⟨(some 85), none, .pick (.t 78) (.t 84) (.c (.bool false))⟩,
  ⟨(some 65), none, .mov (.t 85)⟩])
 (.cond (.t 65) (.block 3 (.loop [0, 4, 5] [3] (.seq (.seq (.reg [⟨(some 86), none, .mov (.t 5)⟩,
  ⟨(some 87), none, .mov (.t 0)⟩,
  ⟨(some 88), none, .len 1 (.t 87)⟩,
  ⟨(some 89), none, .bin .lss (.t 86) (.t 88)⟩,
  ⟨(some 90), none, .mov (.t 89)⟩,
  ⟨(some 91), (some (90, true)), .mov (.t 0)⟩,
  ⟨(some 92), (some (90, true)), .mov (.t 5)⟩,
  ⟨(some 93), (some (90, true)), .iaddr 1 (.t 91) (.t 92)⟩,
  ⟨(some 94), (some (90, true)), .load none (.t 93)⟩,
  ⟨(some 95), (some (90, true)), .bin .neq (.t 94) (.c (.int .u8 10))⟩,
  ⟨(some 96), none, .pick (.t 90) (.t 95) (.c (.bool false))⟩])
 (.cond (.t 96) .skip
 (.exit 3)))
 (.block 4 (.reg [⟨(some 97), none, .mov (.t 5)⟩,
  ⟨(some 98), none, .bin .add (.t 97) (.c (.int .i64 1))⟩,
  ⟨(some 5), none, .mov (.t 98)⟩])))))
 (.seq (.reg [⟨(some 17), none, .mov (.t 0)⟩,
  ⟨(some 18), none, .mov (.t 5)⟩,
  ⟨(some 19), none, .slice 1 (.t 17) (some (.t 18)) none none⟩,
  ⟨(some 20), none, .call 0 [] (.c (.fn 48 [])) [(.t 19)]⟩,
  ⟨(some 16), none, .mov (.t 20)⟩,
  ⟨(some 21), none, .extract (.t 16) 0⟩,
  ⟨(some 22), none, .extract (.t 16) 1⟩,
  ⟨(some 6), none, .alloc [(.int .i64 0), (.int .i64 0), (.str []), (.int .i64 0)] false⟩,
  ⟨none, none, .store 4 (.t 6) (.t 21)⟩,
  ⟨(some 7), none, .mov (.t 22)⟩])
 (.seq (.seq (.reg [⟨(some 23), none, .mov (.t 7)⟩,
  ⟨(some 24), none, .bin .eql (.t 23) (.c (.int .i64 0))⟩])
 (.cond (.t 24) (.seq (.reg [⟨(some 25), none, .mov (.t 5)⟩,
  ⟨(some 26), none, .call 0 [] (.c (.fn 47 [])) [(.c (.int .i64 101)), (.t 25)]⟩,
  ⟨(some 2), none, .mov (.c (.sl .clip []))⟩,
  ⟨none, none, .store 3 (.t 3) (.t 26)⟩])
 .ret)
 .skip))
 (.seq (.reg [⟨(some 27), none, .mov (.t 5)⟩,
  ⟨(some 28), none, .faddr 1 (.t 6)⟩,
  ⟨none, none, .store 1 (.t 28) (.t 27)⟩])
 (.seq (.reg [⟨(some 29), none, .mov (.t 4)⟩,
  ⟨(some 30), none, .load (some 4) (.t 6)⟩,
  ⟨(some 31), none, .bslice [(.int .i64 0), (.int .i64 0), (.str []), (.int .i64 0)] 1 [(0, (.t 30))]⟩,
  ⟨(some 32), none, .append 4 (.t 29) (.t 31)⟩,
  ⟨(some 4), none, .mov (.t 32)⟩])
 (.reg [⟨(some 33), none, .mov (.t 5)⟩,
  ⟨(some 34), none, .mov (.t 7)⟩,
  ⟨(some 35), none, .bin .add (.t 33) (.t 34)⟩,
  ⟨(some 5), none, .mov (.t 35)⟩])))))))))))))))
 (.seq (.reg [⟨(some 99), none, .mov (.t 4)⟩,
  ⟨(some 100), none, .call 0 [] (.c (.fn 49 [])) []⟩,
  ⟨(some 2), none, .mov (.t 99)⟩,
  ⟨none, none, .store 3 (.t 3) (.t 100)⟩])
 .ret))))),
  [.t 2, .cell 3 (some 3)], false, true, 101⟩
theorem co24 : compF Tryd.prog ⟨[], [(5, [0, 4, 5], [3]), (15, [0, 4, 5], [3])], [], [], [], []⟩ false true Tryd.f24 = some ac24 := by kernel_rfl

/-- paideia/prim.Quote -/
def ac25 : AF := ⟨(.seq (.reg [⟨(some 2), none, .mov (.c (.str []))⟩])
 (.seq (.reg [⟨(some 3), none, .mov (.t 0)⟩,
  ⟨(some 4), none, .conv (.int .i64) (.t 3)⟩,
  ⟨(some 5), none, .call 0 [] (.c (.fn 50 [])) [(.t 4)]⟩,
  ⟨(some 2), none, .mov (.t 5)⟩])
 .ret)),
  [.t 2], false, true, 6⟩
theorem co25 : compF Tryd.prog ⟨[], [], [], [], [], []⟩ false true Tryd.f25 = some ac25 := by kernel_rfl

/-- paideia/prim.Text -/
def ac26 : AF := ⟨(.seq (.reg [⟨(some 4), none, .mov (.c (.str []))⟩,
  ⟨(some 5), none, .mov (.c (.bool false))⟩])
 (.seq (.seq (.reg [⟨(some 6), none, .mov (.t 0)⟩])
 (.block 0 (.seq (.reg [⟨(some 8), none, .bin .eql (.t 6) (.c (.str [112, 114, 105, 109, 73, 110, 116, 83, 104, 111, 119]))⟩,
  ⟨(some 7), none, .mov (.t 8)⟩])
 (.cond (.t 7) (.seq (.reg [⟨(some 9), none, .mov (.t 1)⟩,
  ⟨(some 10), none, .call 0 [] (.c (.fn 51 [])) [(.t 9), (.c (.int .i64 10))]⟩,
  ⟨(some 4), none, .mov (.t 10)⟩,
  ⟨(some 5), none, .mov (.c (.bool true))⟩])
 .ret)
 (.seq (.reg [⟨(some 12), none, .bin .eql (.t 6) (.c (.str [112, 114, 105, 109, 67, 104, 97, 114, 83, 104, 111, 119]))⟩,
  ⟨(some 11), none, .mov (.t 12)⟩])
 (.cond (.t 11) (.seq (.reg [⟨(some 13), none, .mov (.t 1)⟩,
  ⟨(some 14), none, .conv (.int .u8) (.t 13)⟩,
  ⟨(some 15), none, .call 0 [] (.c (.fn 25 [])) [(.t 14)]⟩,
  ⟨(some 4), none, .mov (.t 15)⟩,
  ⟨(some 5), none, .mov (.c (.bool true))⟩])
 .ret)
 .skip))))))
 (.seq (.reg [⟨(some 4), none, .mov (.c (.str []))⟩,
  ⟨(some 5), none, .mov (.c (.bool false))⟩])
 .ret))),
  [.t 4, .t 5], false, true, 16⟩
theorem co26 : compF Tryd.prog ⟨[], [], [], [], [], []⟩ false true Tryd.f26 = some ac26 := by kernel_rfl

/-- paideia/paideiaref21.Prims -/
def ac27 : AF := ⟨(.seq (.reg [⟨(some 0), none, .mov (.c (.sl .clip []))⟩])
 (.seq (.reg [⟨(some 1), none, .bslice [(.str [])] 9 [(0, (.c (.str [112, 114, 105, 109, 73, 110, 116, 69, 113]))), (1, (.c (.str [112, 114, 105, 109, 73, 110, 116, 76, 101, 115, 115]))), (2, (.c (.str [112, 114, 105, 109, 73, 110, 116, 65, 100, 100]))), (3, (.c (.str [112, 114, 105, 109, 73, 110, 116, 83, 117, 98]))), (4, (.c (.str [112, 114, 105, 109, 73, 110, 116, 77, 117, 108]))), (5, (.c (.str [112, 114, 105, 109, 73, 110, 116, 83, 104, 111, 119]))), (6, (.c (.str [112, 114, 105, 109, 67, 104, 97, 114, 69, 113]))), (7, (.c (.str [112, 114, 105, 109, 67, 104, 97, 114, 76, 101, 115, 115]))), (8, (.c (.str [112, 114, 105, 109, 67, 104, 97, 114, 83, 104, 111, 119])))]⟩,
  ⟨(some 0), none, .mov (.t 1)⟩])
 .ret)),
  [.t 0], true, true, 2⟩
theorem co27 : compF Tryd.prog ⟨[], [], [], [], [], []⟩ true true Tryd.f27 = some ac27 := by kernel_rfl

/-- paideia/prim.Number -/
def ac28 : AF := ⟨(.seq (.reg [⟨(some 6), none, .mov (.c (.int .i64 0))⟩,
  ⟨(some 7), none, .mov (.c (.bool false))⟩])
 (.seq (.seq (.reg [⟨(some 8), none, .mov (.t 0)⟩])
 (.block 0 (.seq (.reg [⟨(some 10), none, .bin .eql (.t 8) (.c (.str [112, 114, 105, 109, 73, 110, 116, 65, 100, 100]))⟩,
  ⟨(some 9), none, .mov (.t 10)⟩])
 (.cond (.t 9) (.seq (.reg [⟨(some 11), none, .mov (.t 1)⟩,
  ⟨(some 12), none, .mov (.t 2)⟩,
  ⟨(some 13), none, .bin .add (.t 11) (.t 12)⟩,
  ⟨(some 6), none, .mov (.t 13)⟩,
  ⟨(some 7), none, .mov (.c (.bool true))⟩])
 .ret)
 (.seq (.reg [⟨(some 15), none, .bin .eql (.t 8) (.c (.str [112, 114, 105, 109, 73, 110, 116, 83, 117, 98]))⟩,
  ⟨(some 14), none, .mov (.t 15)⟩])
 (.cond (.t 14) (.seq (.reg [⟨(some 16), none, .mov (.t 1)⟩,
  ⟨(some 17), none, .mov (.t 2)⟩,
  ⟨(some 18), none, .bin .sub (.t 16) (.t 17)⟩,
  ⟨(some 6), none, .mov (.t 18)⟩,
  ⟨(some 7), none, .mov (.c (.bool true))⟩])
 .ret)
 (.seq (.reg [⟨(some 20), none, .bin .eql (.t 8) (.c (.str [112, 114, 105, 109, 73, 110, 116, 77, 117, 108]))⟩,
  ⟨(some 19), none, .mov (.t 20)⟩])
 (.cond (.t 19) (.seq (.reg [⟨(some 21), none, .mov (.t 1)⟩,
  ⟨(some 22), none, .mov (.t 2)⟩,
  ⟨(some 23), none, .bin .mul (.t 21) (.t 22)⟩,
  ⟨(some 6), none, .mov (.t 23)⟩,
  ⟨(some 7), none, .mov (.c (.bool true))⟩])
 .ret)
 .skip))))))))
 (.seq (.reg [⟨(some 6), none, .mov (.c (.int .i64 0))⟩,
  ⟨(some 7), none, .mov (.c (.bool false))⟩])
 .ret))),
  [.t 6, .t 7], false, true, 24⟩
theorem co28 : compF Tryd.prog ⟨[], [], [], [], [], []⟩ false true Tryd.f28 = some ac28 := by kernel_rfl

/-- paideia/paideiaref21.Number -/
def ac29 : AF := ⟨(.seq (.reg [⟨(some 6), none, .mov (.c (.int .i64 0))⟩,
  ⟨(some 7), none, .mov (.c (.bool false))⟩])
 (.seq (.seq (.reg [⟨(some 8), none, .mov (.t 0)⟩])
 (.block 0 (.seq (.reg [⟨(some 10), none, .bin .eql (.t 8) (.c (.str [112, 114, 105, 109, 73, 110, 116, 65, 100, 100]))⟩,
  ⟨(some 9), none, .mov (.t 10)⟩])
 (.cond (.t 9) (.seq (.reg [⟨(some 11), none, .mov (.t 1)⟩,
  ⟨(some 12), none, .mov (.t 2)⟩,
  ⟨(some 13), none, .bin .add (.t 11) (.t 12)⟩,
  ⟨(some 6), none, .mov (.t 13)⟩,
  ⟨(some 7), none, .mov (.c (.bool true))⟩])
 .ret)
 (.seq (.reg [⟨(some 15), none, .bin .eql (.t 8) (.c (.str [112, 114, 105, 109, 73, 110, 116, 83, 117, 98]))⟩,
  ⟨(some 14), none, .mov (.t 15)⟩])
 (.cond (.t 14) (.seq (.reg [⟨(some 16), none, .mov (.t 1)⟩,
  ⟨(some 17), none, .mov (.t 2)⟩,
  ⟨(some 18), none, .bin .sub (.t 16) (.t 17)⟩,
  ⟨(some 6), none, .mov (.t 18)⟩,
  ⟨(some 7), none, .mov (.c (.bool true))⟩])
 .ret)
 (.seq (.reg [⟨(some 20), none, .bin .eql (.t 8) (.c (.str [112, 114, 105, 109, 73, 110, 116, 77, 117, 108]))⟩,
  ⟨(some 19), none, .mov (.t 20)⟩])
 (.cond (.t 19) (.seq (.reg [⟨(some 21), none, .mov (.t 1)⟩,
  ⟨(some 22), none, .mov (.t 2)⟩,
  ⟨(some 23), none, .bin .mul (.t 21) (.t 22)⟩,
  ⟨(some 6), none, .mov (.t 23)⟩,
  ⟨(some 7), none, .mov (.c (.bool true))⟩])
 .ret)
 .skip))))))))
 (.seq (.reg [⟨(some 6), none, .mov (.c (.int .i64 0))⟩,
  ⟨(some 7), none, .mov (.c (.bool false))⟩])
 .ret))),
  [.t 6, .t 7], false, true, 24⟩
theorem co29 : compF Tryd.prog ⟨[], [], [], [], [], []⟩ false true Tryd.f29 = some ac29 := by kernel_rfl

/-- paideia/prim.Asks -/
def ac30 : AF := ⟨(.seq (.reg [⟨(some 6), none, .mov (.c (.bool false))⟩,
  ⟨(some 7), none, .mov (.c (.bool false))⟩])
 (.seq (.seq (.reg [⟨(some 8), none, .mov (.t 0)⟩])
 (.block 0 (.seq (.seq (.reg [⟨(some 10), none, .bin .eql (.t 8) (.c (.str [112, 114, 105, 109, 73, 110, 116, 69, 113]))⟩,
  ⟨(some 9), none, .mov (.t 10)⟩])
 (.cond (.t 9) .skip
 (.reg [⟨(some 11), none, .bin .eql (.t 8) (.c (.str [112, 114, 105, 109, 67, 104, 97, 114, 69, 113]))⟩,
  ⟨(some 9), none, .mov (.t 11)⟩])))
 (.cond (.t 9) (.seq (.reg [⟨(some 12), none, .mov (.t 1)⟩,
  ⟨(some 13), none, .mov (.t 2)⟩,
  ⟨(some 14), none, .bin .eql (.t 12) (.t 13)⟩,
  ⟨(some 6), none, .mov (.t 14)⟩,
  ⟨(some 7), none, .mov (.c (.bool true))⟩])
 .ret)
 (.seq (.seq (.reg [⟨(some 16), none, .bin .eql (.t 8) (.c (.str [112, 114, 105, 109, 73, 110, 116, 76, 101, 115, 115]))⟩,
  ⟨(some 15), none, .mov (.t 16)⟩])
 (.cond (.t 15) .skip
 (.reg [⟨(some 17), none, .bin .eql (.t 8) (.c (.str [112, 114, 105, 109, 67, 104, 97, 114, 76, 101, 115, 115]))⟩,
  ⟨(some 15), none, .mov (.t 17)⟩])))
 (.cond (.t 15) (.seq (.reg [⟨(some 18), none, .mov (.t 1)⟩,
  ⟨(some 19), none, .mov (.t 2)⟩,
  ⟨(some 20), none, .bin .lss (.t 18) (.t 19)⟩,
  ⟨(some 6), none, .mov (.t 20)⟩,
  ⟨(some 7), none, .mov (.c (.bool true))⟩])
 .ret)
 .skip))))))
 (.seq (.reg [⟨(some 6), none, .mov (.c (.bool false))⟩,
  ⟨(some 7), none, .mov (.c (.bool false))⟩])
 .ret))),
  [.t 6, .t 7], false, true, 21⟩
theorem co30 : compF Tryd.prog ⟨[], [], [], [], [], []⟩ false true Tryd.f30 = some ac30 := by kernel_rfl

/-- paideia/paideiaref21.Asks -/
def ac31 : AF := ⟨(.seq (.reg [⟨(some 6), none, .mov (.c (.bool false))⟩,
  ⟨(some 7), none, .mov (.c (.bool false))⟩])
 (.seq (.seq (.reg [⟨(some 8), none, .mov (.t 0)⟩])
 (.block 0 (.seq (.seq (.reg [⟨(some 10), none, .bin .eql (.t 8) (.c (.str [112, 114, 105, 109, 73, 110, 116, 69, 113]))⟩,
  ⟨(some 9), none, .mov (.t 10)⟩])
 (.cond (.t 9) .skip
 (.reg [⟨(some 11), none, .bin .eql (.t 8) (.c (.str [112, 114, 105, 109, 67, 104, 97, 114, 69, 113]))⟩,
  ⟨(some 9), none, .mov (.t 11)⟩])))
 (.cond (.t 9) (.seq (.reg [⟨(some 12), none, .mov (.t 1)⟩,
  ⟨(some 13), none, .mov (.t 2)⟩,
  ⟨(some 14), none, .bin .eql (.t 12) (.t 13)⟩,
  ⟨(some 6), none, .mov (.t 14)⟩,
  ⟨(some 7), none, .mov (.c (.bool true))⟩])
 .ret)
 (.seq (.seq (.reg [⟨(some 16), none, .bin .eql (.t 8) (.c (.str [112, 114, 105, 109, 73, 110, 116, 76, 101, 115, 115]))⟩,
  ⟨(some 15), none, .mov (.t 16)⟩])
 (.cond (.t 15) .skip
 (.reg [⟨(some 17), none, .bin .eql (.t 8) (.c (.str [112, 114, 105, 109, 67, 104, 97, 114, 76, 101, 115, 115]))⟩,
  ⟨(some 15), none, .mov (.t 17)⟩])))
 (.cond (.t 15) (.seq (.reg [⟨(some 18), none, .mov (.t 1)⟩,
  ⟨(some 19), none, .mov (.t 2)⟩,
  ⟨(some 20), none, .bin .lss (.t 18) (.t 19)⟩,
  ⟨(some 6), none, .mov (.t 20)⟩,
  ⟨(some 7), none, .mov (.c (.bool true))⟩])
 .ret)
 .skip))))))
 (.seq (.reg [⟨(some 6), none, .mov (.c (.bool false))⟩,
  ⟨(some 7), none, .mov (.c (.bool false))⟩])
 .ret))),
  [.t 6, .t 7], false, true, 21⟩
theorem co31 : compF Tryd.prog ⟨[], [], [], [], [], []⟩ false true Tryd.f31 = some ac31 := by kernel_rfl

/-- paideia/paideiaref21.Text -/
def ac32 : AF := ⟨(.seq (.reg [⟨(some 4), none, .mov (.c (.str []))⟩,
  ⟨(some 5), none, .mov (.c (.bool false))⟩])
 (.seq (.seq (.reg [⟨(some 6), none, .mov (.t 0)⟩])
 (.block 0 (.seq (.reg [⟨(some 8), none, .bin .eql (.t 6) (.c (.str [112, 114, 105, 109, 73, 110, 116, 83, 104, 111, 119]))⟩,
  ⟨(some 7), none, .mov (.t 8)⟩])
 (.cond (.t 7) (.seq (.reg [⟨(some 9), none, .mov (.t 1)⟩,
  ⟨(some 10), none, .call 0 [] (.c (.fn 51 [])) [(.t 9), (.c (.int .i64 10))]⟩,
  ⟨(some 4), none, .mov (.t 10)⟩,
  ⟨(some 5), none, .mov (.c (.bool true))⟩])
 .ret)
 (.seq (.reg [⟨(some 12), none, .bin .eql (.t 6) (.c (.str [112, 114, 105, 109, 67, 104, 97, 114, 83, 104, 111, 119]))⟩,
  ⟨(some 11), none, .mov (.t 12)⟩])
 (.cond (.t 11) (.seq (.reg [⟨(some 13), none, .mov (.t 1)⟩,
  ⟨(some 14), none, .conv (.int .u8) (.t 13)⟩,
  ⟨(some 15), none, .call 0 [] (.c (.fn 33 [])) [(.t 14)]⟩,
  ⟨(some 4), none, .mov (.t 15)⟩,
  ⟨(some 5), none, .mov (.c (.bool true))⟩])
 .ret)
 .skip))))))
 (.seq (.reg [⟨(some 4), none, .mov (.c (.str []))⟩,
  ⟨(some 5), none, .mov (.c (.bool false))⟩])
 .ret))),
  [.t 4, .t 5], false, true, 16⟩
theorem co32 : compF Tryd.prog ⟨[], [], [], [], [], []⟩ false true Tryd.f32 = some ac32 := by kernel_rfl

/-- paideia/paideiaref1.Quote -/
def ac33 : AF := ⟨(.seq (.reg [⟨(some 2), none, .mov (.c (.str []))⟩])
 (.seq (.block 0 (.seq (.reg [⟨(some 4), none, .mov (.t 0)⟩,
  ⟨(some 5), none, .bin .eql (.t 4) (.c (.int .u8 10))⟩,
  ⟨(some 3), none, .mov (.t 5)⟩])
 (.cond (.t 3) (.seq (.reg [⟨(some 2), none, .mov (.c (.str [39, 92, 110, 39]))⟩])
 .ret)
 (.seq (.reg [⟨(some 7), none, .mov (.t 0)⟩,
  ⟨(some 8), none, .bin .eql (.t 7) (.c (.int .u8 39))⟩,
  ⟨(some 9), none, .mov (.t 8)⟩,
  ⟨(some 10), (some (9, false)), .mov (.t 0)⟩,
  ⟨(some 11), (some (9, false)), .bin .eql (.t 10) (.c (.int .u8 92))⟩,
  ⟨(some 12), none, .pick (.t 9) (.c (.bool true)) (.t 11)⟩,
  ⟨(some 6), none, .mov (.t 12)⟩])
 (.cond (.t 6) (.seq (.reg [⟨(some 13), none, .mov (.t 0)⟩,
  ⟨(some 14), none, .conv .rune (.t 13)⟩,
  ⟨(some 15), none, .bin .add (.c (.str [39, 92])) (.t 14)⟩,
  ⟨(some 16), none, .bin .add (.t 15) (.c (.str [39]))⟩,
  ⟨(some 2), none, .mov (.t 16)⟩])
 .ret)
 (.seq (.reg [⟨(some 18), none, .mov (.t 0)⟩,
  ⟨(some 19), none, .bin .geq (.t 18) (.c (.int .u8 32))⟩,
  ⟨(some 20), none, .mov (.t 19)⟩,
  ⟨(some 21), (some (20, true)), .mov (.t 0)⟩,
  ⟨(some 22), (some (20, true)), .bin .leq (.t 21) (.c (.int .u8 126))⟩,
  ⟨(some 23), none, .pick (.t 20) (.t 22) (.c (.bool false))⟩,
  ⟨(some 17), none, .mov (.t 23)⟩])
 (.cond (.t 17) (.seq (.reg [⟨(some 24), none, .mov (.t 0)⟩,
  ⟨(some 25), none, .conv .rune (.t 24)⟩,
  ⟨(some 26), none, .bin .add (.c (.str [39])) (.t 25)⟩,
  ⟨(some 27), none, .bin .add (.t 26) (.c (.str [39]))⟩,
  ⟨(some 2), none, .mov (.t 27)⟩])
 .ret)
 .skip)))))))
 (.seq (.reg [⟨(some 2), none, .mov (.c (.str [39, 63, 39]))⟩])
 .ret))),
  [.t 2], false, true, 28⟩
theorem co33 : compF Tryd.prog ⟨[], [], [], [], [], []⟩ false true Tryd.f33 = some ac33 := by kernel_rfl

/-- paideia/paideiaref.Placed -/
def ac47 : AF := ⟨(.seq (.reg [⟨(some 4), none, .alloc [(.int .i64 0), (.bool false), (.int .i64 0)] false⟩])
 (.seq (.seq (.reg [⟨(some 5), none, .mov (.t 0)⟩,
  ⟨(some 6), none, .bin .eql (.t 5) (.c (.int .i64 0))⟩])
 (.cond (.t 6) (.seq (.reg [⟨(some 7), none, .call 0 [] (.c (.fn 49 [])) []⟩,
  ⟨none, none, .store 3 (.t 4) (.t 7)⟩])
 .ret)
 .skip))
 (.seq (.reg [⟨(some 8), none, .mov (.t 0)⟩,
  ⟨(some 9), none, .mov (.t 1)⟩,
  ⟨(some 10), none, .build [(.int .i64 0), (.bool false), (.int .i64 0)] [(0, 1, (.t 8)), (1, 1, (.c (.bool true))), (2, 1, (.t 9))]⟩,
  ⟨none, none, .store 3 (.t 4) (.t 10)⟩])
 .ret))),
  [.cell 4 (some 3)], false, true, 11⟩
theorem co47 : compF Tryd.prog ⟨[], [], [], [], [], []⟩ false true Tryd.f47 = some ac47 := by kernel_rfl

/-- paideia/paideiaref1.word -/
def ac48 : AF := ⟨(.seq (.reg [⟨(some 2), none, .alloc [(.int .i64 0), (.int .i64 0), (.str []), (.int .i64 0)] false⟩,
  ⟨(some 3), none, .mov (.c (.int .i64 0))⟩])
 (.seq (.reg [⟨(some 17), none, .mov (.t 0)⟩,
  ⟨(some 18), none, .iaddr 1 (.t 17) (.c (.int .i64 0))⟩,
  ⟨(some 19), none, .load none (.t 18)⟩,
  ⟨(some 4), none, .mov (.t 19)⟩])
 (.seq (.reg [⟨(some 5), none, .mov (.c (.int .i64 1))⟩])
 (.seq (.block 0 (.seq (.reg [⟨(some 21), none, .mov (.t 4)⟩,
  ⟨(some 22), none, .call 0 [] (.c (.fn 56 [])) [(.t 21)]⟩,
  ⟨(some 23), none, .mov (.t 22)⟩,
  ⟨(some 24), (some (23, false)), .mov (.t 4)⟩,
  ⟨(some 25), (some (23, false)), .call 0 [] (.c (.fn 57 [])) [(.t 24)]⟩,
  ⟨(some 26), none, .pick (.t 23) (.c (.bool true)) (.t 25)⟩,
  ⟨(some 20), none, .mov (.t 26)⟩])
 (.cond (.t 20) (.seq (.block 1 (.loop [0, 4, 5] [2] (.seq (.seq (.reg [⟨(some 27), none, .mov (.t 5)⟩,
  ⟨(some 28), none, .mov (.t 0)⟩,
  ⟨(some 29), none, .len 1 (.t 28)⟩,
  ⟨(some 30), none, .bin .lss (.t 27) (.t 29)⟩,
  ⟨(some 31), none, .mov (.t 30)⟩,
  ⟨(some 32), (some (31, true)), .mov (.t 0)⟩,
  ⟨(some 33), (some (31, true)), .mov (.t 5)⟩,
  ⟨(some 34), (some (31, true)), .iaddr 1 (.t 32) (.t 33)⟩,
  ⟨(some 35), (some (31, true)), .load none (.t 34)⟩,
  ⟨(some 36), (some (31, true)), .call 0 [] (.c (.fn 58 [])) [(.t 35)]⟩,
  ⟨(some 37), none, .pick (.t 31) (.t 36) (.c (.bool false))⟩])
 (.cond (.t 37) .skip
 (.exit 1)))
 (.block 2 (.reg [⟨(some 38), none, .mov (.t 5)⟩,
  ⟨(some 39), none, .bin .add (.t 38) (.c (.int .i64 1))⟩,
  ⟨(some 5), none, .mov (.t 39)⟩])))))
 (.seq (.reg [⟨(some 40), none, .mov (.t 0)⟩,
  ⟨(some 41), none, .mov (.t 5)⟩,
  ⟨(some 42), none, .slice 1 (.t 40) none (some (.t 41)) none⟩,
  ⟨(some 43), none, .conv .text (.t 42)⟩,
  ⟨(some 6), none, .mov (.t 43)⟩])
 (.seq (.reg [⟨(some 7), none, .mov (.c (.int .i64 1))⟩])
 (.seq (.seq (.reg [⟨(some 44), none, .mov (.t 4)⟩,
  ⟨(some 45), none, .call 0 [] (.c (.fn 57 [])) [(.t 44)]⟩])
 (.cond (.t 45) (.reg [⟨(some 7), none, .mov (.c (.int .i64 2))⟩])
 (.seq (.reg [⟨(some 46), none, .mov (.t 6)⟩,
  ⟨(some 47), none, .bin .eql (.t 46) (.c (.str [95]))⟩,
  ⟨(some 48), none, .mov (.t 47)⟩,
  ⟨(some 49), (some (48, false)), .mov (.t 6)⟩,
  ⟨(some 50), (some (48, false)), .call 0 [] (.c (.fn 59 [])) [(.t 49)]⟩,
  ⟨(some 51), none, .pick (.t 48) (.c (.bool true)) (.t 50)⟩])
 (.cond (.t 51) (.reg [⟨(some 7), none, .mov (.c (.int .i64 6))⟩])
 .skip))))
 (.seq (.seq (.reg [⟨(some 52), none, .mov (.t 5)⟩,
  ⟨(some 53), none, .bin .gtr (.t 52) (.c (.int .i64 40))⟩])
 (.cond (.t 53) (.seq (.reg [⟨(some 54), none, .build [(.int .i64 0), (.int .i64 0), (.str []), (.int .i64 0)] []⟩,
  ⟨none, none, .store 4 (.t 2) (.t 54)⟩,
  ⟨(some 3), none, .mov (.c (.int .i64 0))⟩])
 .ret)
 .skip))
 (.seq (.reg [⟨(some 55), none, .mov (.t 7)⟩,
  ⟨(some 56), none, .mov (.t 6)⟩,
  ⟨(some 57), none, .build [(.int .i64 0), (.int .i64 0), (.str []), (.int .i64 0)] [(0, 1, (.t 55)), (2, 1, (.t 56))]⟩,
  ⟨(some 58), none, .mov (.t 5)⟩,
  ⟨none, none, .store 4 (.t 2) (.t 57)⟩,
  ⟨(some 3), none, .mov (.t 58)⟩])
 .ret))))))
 (.seq (.reg [⟨(some 60), none, .mov (.t 4)⟩,
  ⟨(some 61), none, .call 0 [] (.c (.fn 60 [])) [(.t 60)]⟩,
  ⟨(some 59), none, .mov (.t 61)⟩])
 (.cond (.t 59) (.seq (.block 3 (.loop [0, 5] [2] (.seq (.seq (.reg [⟨(some 62), none, .mov (.t 5)⟩,
  ⟨(some 63), none, .mov (.t 0)⟩,
  ⟨(some 64), none, .len 1 (.t 63)⟩,
  ⟨(some 65), none, .bin .lss (.t 62) (.t 64)⟩,
  ⟨(some 66), none, .mov (.t 65)⟩,
  ⟨(some 67), (some (66, true)), .mov (.t 0)⟩,
  ⟨(some 68), (some (66, true)), .mov (.t 5)⟩,
  ⟨(some 69), (some (66, true)), .iaddr 1 (.t 67) (.t 68)⟩,
  ⟨(some 70), (some (66, true)), .load none (.t 69)⟩,
  ⟨(some 71), (some (66, true)), .call 0 [] (.c (.fn 60 [])) [(.t 70)]⟩,
  ⟨(some 72), none, .pick (.t 66) (.t 71) (.c (.bool false))⟩])
 (.cond (.t 72) .skip
 (.exit 3)))
 (.block 4 (.reg [⟨(some 73), none, .mov (.t 5)⟩,
  ⟨(some 74), none, .bin .add (.t 73) (.c (.int .i64 1))⟩,
  ⟨(some 5), none, .mov (.t 74)⟩])))))
 (.seq (.seq (.reg [⟨(some 75), none, .mov (.t 5)⟩,
  ⟨(some 76), none, .bin .gtr (.t 75) (.c (.int .i64 15))⟩])
 (.cond (.t 76) (.seq (.reg [⟨(some 77), none, .build [(.int .i64 0), (.int .i64 0), (.str []), (.int .i64 0)] []⟩,
  ⟨none, none, .store 4 (.t 2) (.t 77)⟩,
  ⟨(some 3), none, .mov (.c (.int .i64 0))⟩])
 .ret)
 .skip))
 (.seq (.reg [⟨(some 8), none, .mov (.c (.int .i64 0))⟩])
 (.seq (.seq (.reg [⟨(some 9), none, .mov (.c (.int .i64 0))⟩])
 (.block 5 (.loop [0, 5, 8, 9] [2] (.seq (.seq (.reg [⟨(some 78), none, .mov (.t 9)⟩,
  ⟨(some 79), none, .mov (.t 5)⟩,
  ⟨(some 80), none, .bin .lss (.t 78) (.t 79)⟩])
 (.cond (.t 80) .skip
 (.exit 5)))
 (.seq (.block 6 (.reg [⟨(some 83), none, .mov (.t 8)⟩,
  ⟨(some 84), none, .bin .mul (.c (.int .i64 10)) (.t 83)⟩,
  ⟨(some 85), none, .mov (.t 0)⟩,
  ⟨(some 86), none, .mov (.t 9)⟩,
  ⟨(some 87), none, .iaddr 1 (.t 85) (.t 86)⟩,
  ⟨(some 88), none, .load none (.t 87)⟩,
  ⟨(some 89), none, .bin .sub (.t 88) (.c (.int .u8 48))⟩,
  ⟨(some 90), none, .conv (.int .i64) (.t 89)⟩,
  ⟨(some 91), none, .bin .add (.t 84) (.t 90)⟩,
  ⟨(some 8), none, .mov (.t 91)⟩]))
 (.reg [⟨(some 81), none, .mov (.t 9)⟩,
  ⟨(some 82), none, .bin .add (.t 81) (.c (.int .i64 1))⟩,
  ⟨(some 9), none, .mov (.t 82)⟩]))))))
 (.seq (.reg [⟨(some 92), none, .mov (.t 0)⟩,
  ⟨(some 93), none, .mov (.t 5)⟩,
  ⟨(some 94), none, .slice 1 (.t 92) none (some (.t 93)) none⟩,
  ⟨(some 95), none, .conv .text (.t 94)⟩,
  ⟨(some 96), none, .mov (.t 8)⟩,
  ⟨(some 97), none, .build [(.int .i64 0), (.int .i64 0), (.str []), (.int .i64 0)] [(0, 1, (.c (.int .i64 3))), (2, 1, (.t 95)), (3, 1, (.t 96))]⟩,
  ⟨(some 98), none, .mov (.t 5)⟩,
  ⟨none, none, .store 4 (.t 2) (.t 97)⟩,
  ⟨(some 3), none, .mov (.t 98)⟩])
 .ret)))))
 (.seq (.reg [⟨(some 100), none, .mov (.t 4)⟩,
  ⟨(some 101), none, .bin .eql (.t 100) (.c (.int .u8 39))⟩,
  ⟨(some 99), none, .mov (.t 101)⟩])
 (.cond (.t 99) (.seq (.reg [⟨(some 103), none, .mov (.t 0)⟩,
  ⟨(some 104), none, .call 0 [] (.c (.fn 61 [])) [(.t 103)]⟩,
  ⟨(some 102), none, .mov (.t 104)⟩,
  ⟨(some 105), none, .extract (.t 102) 0⟩,
  ⟨(some 106), none, .extract (.t 102) 1⟩,
  ⟨(some 10), none, .mov (.t 105)⟩,
  ⟨(some 11), none, .mov (.t 106)⟩])
 (.seq (.seq (.reg [⟨(some 107), none, .mov (.t 10)⟩,
  ⟨(some 108), none, .bin .eql (.t 107) (.c (.int .i64 0))⟩])
 (.cond (.t 108) (.seq (.reg [⟨(some 109), none, .build [(.int .i64 0), (.int .i64 0), (.str []), (.int .i64 0)] []⟩,
  ⟨none, none, .store 4 (.t 2) (.t 109)⟩,
  ⟨(some 3), none, .mov (.c (.int .i64 0))⟩])
 .ret)
 .skip))
 (.seq (.reg [⟨(some 110), none, .mov (.t 0)⟩,
  ⟨(some 111), none, .mov (.t 10)⟩,
  ⟨(some 112), none, .slice 1 (.t 110) none (some (.t 111)) none⟩,
  ⟨(some 113), none, .conv .text (.t 112)⟩,
  ⟨(some 114), none, .mov (.t 11)⟩,
  ⟨(some 115), none, .build [(.int .i64 0), (.int .i64 0), (.str []), (.int .i64 0)] [(0, 1, (.c (.int .i64 4))), (2, 1, (.t 113)), (3, 1, (.t 114))]⟩,
  ⟨(some 116), none, .mov (.t 10)⟩,
  ⟨none, none, .store 4 (.t 2) (.t 115)⟩,
  ⟨(some 3), none, .mov (.t 116)⟩])
 .ret)))
 .skip)))))))
 (.seq (.reg [⟨(some 12), none, .mov (.c (.str []))⟩])
 (.seq (.seq (.reg [⟨(some 117), none, .mov (.t 0)⟩,
  ⟨(some 118), none, .len 1 (.t 117)⟩,
  ⟨(some 119), none, .bin .gtr (.t 118) (.c (.int .i64 1))⟩])
 (.cond (.t 119) (.reg [⟨(some 120), none, .mov (.t 0)⟩,
  ⟨(some 121), none, .slice 1 (.t 120) none (some (.c (.int .i64 2))) none⟩,
  ⟨(some 122), none, .conv .text (.t 121)⟩,
  ⟨(some 12), none, .mov (.t 122)⟩])
 .skip))
 (.seq (.seq (.reg [⟨(some 123), none, .mov (.t 12)⟩,
  ⟨(some 124), none, .bin .eql (.t 123) (.c (.str [45, 62]))⟩,
  ⟨(some 125), none, .mov (.t 124)⟩,
  ⟨(some 126), (some (125, false)), .mov (.t 12)⟩,
  ⟨(some 127), (some (125, false)), .bin .eql (.t 126) (.c (.str [61, 62]))⟩,
  ⟨(some 128), none, .pick (.t 125) (.c (.bool true)) (.t 127)⟩,
  ⟨(some 129), none, .mov (.t 128)⟩,
  ⟨(some 130), (some (129, false)), .mov (.t 12)⟩,
  ⟨(some 131), (some (129, false)), .bin .eql (.t 130) (.c (.str [58, 58]))⟩,
  ⟨(some 132), none, .pick (.t 129) (.c (.bool true)) (.t 131)⟩])
 (.cond (.t 132) (.seq (.reg [⟨(some 133), none, .mov (.t 12)⟩,
  ⟨(some 134), none, .build [(.int .i64 0), (.int .i64 0), (.str []), (.int .i64 0)] [(0, 1, (.c (.int .i64 6))), (2, 1, (.t 133))]⟩,
  ⟨none, none, .store 4 (.t 2) (.t 134)⟩,
  ⟨(some 3), none, .mov (.c (.int .i64 2))⟩])
 .ret)
 .skip))
 (.seq (.reg [⟨(some 135), none, .call 0 [] (.c (.fn 62 [])) []⟩,
  ⟨(some 13), none, .mov (.t 135)⟩])
 (.seq (.seq (.reg [⟨(some 14), none, .mov (.c (.int .i64 0))⟩])
 (.block 7 (.loop [4, 12, 13, 14] [2] (.seq (.seq (.reg [⟨(some 136), none, .mov (.t 14)⟩,
  ⟨(some 137), none, .mov (.t 13)⟩,
  ⟨(some 138), none, .len 1 (.t 137)⟩,
  ⟨(some 139), none, .bin .lss (.t 136) (.t 138)⟩])
 (.cond (.t 139) .skip
 (.exit 7)))
 (.seq (.block 8 (.seq (.reg [⟨(some 142), none, .mov (.t 12)⟩,
  ⟨(some 143), none, .mov (.t 13)⟩,
  ⟨(some 144), none, .mov (.t 14)⟩,
  ⟨(some 145), none, .iaddr 1 (.t 143) (.t 144)⟩,
  ⟨(some 146), none, .load none (.t 145)⟩,
  ⟨(some 147), none, .bin .eql (.t 142) (.t 146)⟩,
  ⟨(some 148), none, .mov (.t 147)⟩,
  ⟨(some 149), (some (148, false)), .mov (.t 4)⟩,
  ⟨(some 150), (some (148, false)), .conv .rune (.t 149)⟩,
  ⟨(some 151), (some (148, false)), .mov (.t 13)⟩,
  ⟨(some 152), (some (148, false)), .mov (.t 14)⟩,
  ⟨(some 153), (some (148, false)), .iaddr 1 (.t 151) (.t 152)⟩,
  ⟨(some 154), (some (148, false)), .load none (.t 153)⟩,
  ⟨(some 155), (some (148, false)), .bin .eql (.t 150) (.t 154)⟩,
  ⟨(some 156), none, .pick (.t 148) (.c (.bool true)) (.t 155)⟩])
 (.cond (.t 156) (.seq (.reg [⟨(some 157), none, .mov (.t 13)⟩,
  ⟨(some 158), none, .mov (.t 14)⟩,
  ⟨(some 159), none, .iaddr 1 (.t 157) (.t 158)⟩,
  ⟨(some 160), none, .load none (.t 159)⟩,
  ⟨(some 161), none, .build [(.int .i64 0), (.int .i64 0), (.str []), (.int .i64 0)] [(0, 1, (.c (.int .i64 5))), (2, 1, (.t 160))]⟩,
  ⟨(some 162), none, .mov (.t 13)⟩,
  ⟨(some 163), none, .mov (.t 14)⟩,
  ⟨(some 164), none, .iaddr 1 (.t 162) (.t 163)⟩,
  ⟨(some 165), none, .loadX true none (.t 164) [(.t 2)] []⟩,
  ⟨(some 166), none, .len 0 (.t 165)⟩,
  ⟨none, none, .storeX true 4 (.t 2) (.t 161) [] []⟩,
  ⟨(some 3), none, .mov (.t 166)⟩])
 .ret)
 .skip)))
 (.reg [⟨(some 140), none, .mov (.t 14)⟩,
  ⟨(some 141), none, .bin .add (.t 140) (.c (.int .i64 1))⟩,
  ⟨(some 14), none, .mov (.t 141)⟩]))))))
 (.seq (.reg [⟨(some 15), none, .mov (.c (.str [40, 41, 123, 125, 44, 59, 61, 92, 124]))⟩])
 (.seq (.seq (.reg [⟨(some 16), none, .mov (.c (.int .i64 0))⟩])
 (.block 9 (.loop [4, 15, 16] [2] (.seq (.seq (.reg [⟨(some 167), none, .mov (.t 16)⟩,
  ⟨(some 168), none, .mov (.t 15)⟩,
  ⟨(some 169), none, .len 0 (.t 168)⟩,
  ⟨(some 170), none, .bin .lss (.t 167) (.t 169)⟩])
 (.cond (.t 170) .skip
 (.exit 9)))
 (.seq (.block 10 (.seq (.reg [⟨(some 173), none, .mov (.t 4)⟩,
  ⟨(some 174), none, .mov (.t 15)⟩,
  ⟨(some 175), none, .mov (.t 16)⟩,
  ⟨(some 176), none, .sindex (.t 174) (.t 175)⟩,
  ⟨(some 177), none, .bin .eql (.t 173) (.t 176)⟩])
 (.cond (.t 177) (.seq (.reg [⟨(some 178), none, .mov (.t 4)⟩,
  ⟨(some 179), none, .conv .rune (.t 178)⟩,
  ⟨(some 180), none, .build [(.int .i64 0), (.int .i64 0), (.str []), (.int .i64 0)] [(0, 1, (.c (.int .i64 6))), (2, 1, (.t 179))]⟩,
  ⟨none, none, .store 4 (.t 2) (.t 180)⟩,
  ⟨(some 3), none, .mov (.c (.int .i64 1))⟩])
 .ret)
 .skip)))
 (.reg [⟨(some 171), none, .mov (.t 16)⟩,
  ⟨(some 172), none, .bin .add (.t 171) (.c (.int .i64 1))⟩,
  ⟨(some 16), none, .mov (.t 172)⟩]))))))
 (.seq (.reg [⟨(some 181), none, .build [(.int .i64 0), (.int .i64 0), (.str []), (.int .i64 0)] []⟩,
  ⟨none, none, .store 4 (.t 2) (.t 181)⟩,
  ⟨(some 3), none, .mov (.c (.int .i64 0))⟩])
 .ret)))))))))))),
  [.cell 2 (some 4), .t 3], false, true, 182⟩
theorem co48 : compF Tryd.prog ⟨[], [(16, [0, 5], [2]), (22, [0, 5, 8, 9], [2]), (4, [0, 4, 5], [2]), (38, [4, 12, 13, 14], [2]), (44, [4, 15, 16], [2])], [], [], [], []⟩ false true Tryd.f48 = some ac48 := by kernel_rfl

/-- paideia/paideiaref.None -/
def ac49 : AF := ⟨(.seq (.reg [⟨(some 0), none, .alloc [(.int .i64 0), (.bool false), (.int .i64 0)] false⟩])
 (.seq (.reg [⟨(some 1), none, .build [(.int .i64 0), (.bool false), (.int .i64 0)] []⟩,
  ⟨none, none, .store 3 (.t 0) (.t 1)⟩])
 .ret)),
  [.cell 0 (some 3)], false, true, 2⟩
theorem co49 : compF Tryd.prog ⟨[], [], [], [], [], []⟩ false true Tryd.f49 = some ac49 := by kernel_rfl

/-- paideia/printer.Letter -/
def ac50 : AF := ⟨(.seq (.reg [⟨(some 2), none, .mov (.c (.str []))⟩])
 (.seq (.block 0 (.seq (.reg [⟨(some 4), none, .mov (.t 0)⟩,
  ⟨(some 5), none, .bin .eql (.t 4) (.c (.int .i64 10))⟩,
  ⟨(some 3), none, .mov (.t 5)⟩])
 (.cond (.t 3) (.seq (.reg [⟨(some 2), none, .mov (.c (.str [39, 92, 110, 39]))⟩])
 .ret)
 (.seq (.reg [⟨(some 7), none, .mov (.t 0)⟩,
  ⟨(some 8), none, .bin .eql (.t 7) (.c (.int .i64 39))⟩,
  ⟨(some 9), none, .mov (.t 8)⟩,
  ⟨(some 10), (some (9, false)), .mov (.t 0)⟩,
  ⟨(some 11), (some (9, false)), .bin .eql (.t 10) (.c (.int .i64 92))⟩,
  ⟨(some 12), none, .pick (.t 9) (.c (.bool true)) (.t 11)⟩,
  ⟨(some 6), none, .mov (.t 12)⟩])
 (.cond (.t 6) (.seq (.reg [⟨(some 13), none, .mov (.t 0)⟩,
  ⟨(some 14), none, .conv (.int .i32) (.t 13)⟩,
  ⟨(some 15), none, .conv .rune (.t 14)⟩,
  ⟨(some 16), none, .bin .add (.c (.str [39, 92])) (.t 15)⟩,
  ⟨(some 17), none, .bin .add (.t 16) (.c (.str [39]))⟩,
  ⟨(some 2), none, .mov (.t 17)⟩])
 .ret)
 (.seq (.reg [⟨(some 19), none, .mov (.t 0)⟩,
  ⟨(some 20), none, .bin .geq (.t 19) (.c (.int .i64 0))⟩,
  ⟨(some 21), none, .mov (.t 20)⟩,
  ⟨(some 22), (some (21, true)), .mov (.t 0)⟩,
  ⟨(some 23), (some (21, true)), .bin .leq (.t 22) (.c (.int .i64 126))⟩,
  ⟨(some 24), none, .pick (.t 21) (.t 23) (.c (.bool false))⟩,
  ⟨(some 25), none, .mov (.t 24)⟩,
  ⟨(some 26), (some (25, true)), .mov (.t 0)⟩,
  ⟨(some 27), (some (25, true)), .conv (.int .u8) (.t 26)⟩,
  ⟨(some 28), (some (25, true)), .call 0 [] (.c (.fn 63 [])) [(.t 27)]⟩,
  ⟨(some 29), none, .pick (.t 25) (.t 28) (.c (.bool false))⟩,
  ⟨(some 18), none, .mov (.t 29)⟩])
 (.cond (.t 18) (.seq (.reg [⟨(some 30), none, .mov (.t 0)⟩,
  ⟨(some 31), none, .conv (.int .i32) (.t 30)⟩,
  ⟨(some 32), none, .conv .rune (.t 31)⟩,
  ⟨(some 33), none, .bin .add (.c (.str [39])) (.t 32)⟩,
  ⟨(some 34), none, .bin .add (.t 33) (.c (.str [39]))⟩,
  ⟨(some 2), none, .mov (.t 34)⟩])
 .ret)
 .skip)))))))
 (.seq (.reg [⟨(some 2), none, .mov (.c (.str [39, 63, 39]))⟩])
 .ret))),
  [.t 2], false, true, 35⟩
theorem co50 : compF Tryd.prog ⟨[], [], [], [], [], []⟩ false true Tryd.f50 = some ac50 := by kernel_rfl

/-- strconv.FormatInt -/
def ac51 : AF := ⟨(.seq (.reg [⟨(some 4), none, .mov (.c (.str []))⟩])
 (.seq (.reg [⟨(some 5), none, .mov (.t 0)⟩,
  ⟨(some 6), none, .mov (.t 1)⟩,
  ⟨(some 7), none, .call 0 [] (.c (.fn 64 [])) [(.t 5), (.t 6)]⟩,
  ⟨(some 4), none, .mov (.t 7)⟩])
 .ret)),
  [.t 4], false, true, 8⟩
theorem co51 : compF Tryd.prog ⟨[], [], [], [], [], []⟩ false true Tryd.f51 = some ac51 := by kernel_rfl

/-- paideia/paideiaref1.small -/
def ac56 : AF := ⟨(.seq (.reg [⟨(some 2), none, .mov (.c (.bool false))⟩])
 (.seq (.reg [⟨(some 3), none, .mov (.t 0)⟩,
  ⟨(some 4), none, .bin .geq (.t 3) (.c (.int .u8 97))⟩,
  ⟨(some 5), none, .mov (.t 4)⟩,
  ⟨(some 6), (some (5, true)), .mov (.t 0)⟩,
  ⟨(some 7), (some (5, true)), .bin .leq (.t 6) (.c (.int .u8 122))⟩,
  ⟨(some 8), none, .pick (.t 5) (.t 7) (.c (.bool false))⟩,
  ⟨(some 9), none, .mov (.t 8)⟩,
  ⟨(some 10), (some (9, false)), .mov (.t 0)⟩,
  ⟨(some 11), (some (9, false)), .bin .eql (.t 10) (.c (.int .u8 95))⟩,
  ⟨(some 12), none, .pick (.t 9) (.c (.bool true)) (.t 11)⟩,
  ⟨(some 2), none, .mov (.t 12)⟩])
 .ret)),
  [.t 2], false, true, 13⟩
theorem co56 : compF Tryd.prog ⟨[], [], [], [], [], []⟩ false true Tryd.f56 = some ac56 := by kernel_rfl

/-- paideia/paideiaref1.great -/
def ac57 : AF := ⟨(.seq (.reg [⟨(some 2), none, .mov (.c (.bool false))⟩])
 (.seq (.reg [⟨(some 3), none, .mov (.t 0)⟩,
  ⟨(some 4), none, .bin .geq (.t 3) (.c (.int .u8 65))⟩,
  ⟨(some 5), none, .mov (.t 4)⟩,
  ⟨(some 6), (some (5, true)), .mov (.t 0)⟩,
  ⟨(some 7), (some (5, true)), .bin .leq (.t 6) (.c (.int .u8 90))⟩,
  ⟨(some 8), none, .pick (.t 5) (.t 7) (.c (.bool false))⟩,
  ⟨(some 2), none, .mov (.t 8)⟩])
 .ret)),
  [.t 2], false, true, 9⟩
theorem co57 : compF Tryd.prog ⟨[], [], [], [], [], []⟩ false true Tryd.f57 = some ac57 := by kernel_rfl

/-- paideia/paideiaref1.inner -/
def ac58 : AF := ⟨(.seq (.reg [⟨(some 2), none, .mov (.c (.bool false))⟩])
 (.seq (.reg [⟨(some 3), none, .mov (.t 0)⟩,
  ⟨(some 4), none, .call 0 [] (.c (.fn 56 [])) [(.t 3)]⟩,
  ⟨(some 5), none, .mov (.t 4)⟩,
  ⟨(some 6), (some (5, false)), .mov (.t 0)⟩,
  ⟨(some 7), (some (5, false)), .call 0 [] (.c (.fn 57 [])) [(.t 6)]⟩,
  ⟨(some 8), none, .pick (.t 5) (.c (.bool true)) (.t 7)⟩,
  ⟨(some 9), none, .mov (.t 8)⟩,
  ⟨(some 10), (some (9, false)), .mov (.t 0)⟩,
  ⟨(some 11), (some (9, false)), .call 0 [] (.c (.fn 60 [])) [(.t 10)]⟩,
  ⟨(some 12), none, .pick (.t 9) (.c (.bool true)) (.t 11)⟩,
  ⟨(some 13), none, .mov (.t 12)⟩,
  ⟨(some 14), (some (13, false)), .mov (.t 0)⟩,
  ⟨(some 15), (some (13, false)), .bin .eql (.t 14) (.c (.int .u8 39))⟩,
  ⟨(some 16), none, .pick (.t 13) (.c (.bool true)) (.t 15)⟩,
  ⟨(some 2), none, .mov (.t 16)⟩])
 .ret)),
  [.t 2], false, true, 17⟩
theorem co58 : compF Tryd.prog ⟨[], [], [], [], [], []⟩ false true Tryd.f58 = some ac58 := by kernel_rfl

/-- paideia/paideiaref1.Reserved -/
def ac59 : AF := ⟨(.seq (.reg [⟨(some 2), none, .mov (.c (.bool false))⟩])
 (.seq (.reg [⟨(some 3), none, .call 0 [] (.c (.fn 72 [])) []⟩,
  ⟨(some 4), none, .mov (.t 0)⟩,
  ⟨(some 5), none, .call 0 [] (.c (.fn 65 [])) [(.t 3), (.t 4)]⟩,
  ⟨(some 2), none, .mov (.t 5)⟩])
 .ret)),
  [.t 2], false, true, 6⟩
theorem co59 : compF Tryd.prog ⟨[], [], [], [], [], []⟩ false true Tryd.f59 = some ac59 := by kernel_rfl

/-- paideia/paideiaref1.digit -/
def ac60 : AF := ⟨(.seq (.reg [⟨(some 2), none, .mov (.c (.bool false))⟩])
 (.seq (.reg [⟨(some 3), none, .mov (.t 0)⟩,
  ⟨(some 4), none, .bin .geq (.t 3) (.c (.int .u8 48))⟩,
  ⟨(some 5), none, .mov (.t 4)⟩,
  ⟨(some 6), (some (5, true)), .mov (.t 0)⟩,
  ⟨(some 7), (some (5, true)), .bin .leq (.t 6) (.c (.int .u8 57))⟩,
  ⟨(some 8), none, .pick (.t 5) (.t 7) (.c (.bool false))⟩,
  ⟨(some 2), none, .mov (.t 8)⟩])
 .ret)),
  [.t 2], false, true, 9⟩
theorem co60 : compF Tryd.prog ⟨[], [], [], [], [], []⟩ false true Tryd.f60 = some ac60 := by kernel_rfl

/-- paideia/paideiaref1.letter -/
def ac61 : AF := ⟨(.seq (.reg [⟨(some 2), none, .mov (.c (.int .i64 0))⟩,
  ⟨(some 3), none, .mov (.c (.int .i64 0))⟩])
 (.seq (.seq (.reg [⟨(some 4), none, .mov (.t 0)⟩,
  ⟨(some 5), none, .len 1 (.t 4)⟩,
  ⟨(some 6), none, .bin .geq (.t 5) (.c (.int .i64 4))⟩,
  ⟨(some 7), none, .mov (.t 6)⟩,
  ⟨(some 8), (some (7, true)), .mov (.t 0)⟩,
  ⟨(some 9), (some (7, true)), .iaddr 1 (.t 8) (.c (.int .i64 1))⟩,
  ⟨(some 10), (some (7, true)), .load none (.t 9)⟩,
  ⟨(some 11), (some (7, true)), .bin .eql (.t 10) (.c (.int .u8 92))⟩,
  ⟨(some 12), none, .pick (.t 7) (.t 11) (.c (.bool false))⟩,
  ⟨(some 13), none, .mov (.t 12)⟩,
  ⟨(some 14), (some (13, true)), .mov (.t 0)⟩,
  ⟨(some 15), (some (13, true)), .iaddr 1 (.t 14) (.c (.int .i64 3))⟩,
  ⟨(some 16), (some (13, true)), .load none (.t 15)⟩,
  ⟨(some 17), (some (13, true)), .bin .eql (.t 16) (.c (.int .u8 39))⟩,
  ⟨(some 18), none, .pick (.t 13) (.t 17) (.c (.bool false))⟩])
 (.cond (.t 18) (.seq (.seq (.reg [⟨(some 19), none, .mov (.t 0)⟩,
  ⟨(some 20), none, .iaddr 1 (.t 19) (.c (.int .i64 2))⟩,
  ⟨(some 21), none, .load none (.t 20)⟩])
 (.block 0 (.seq (.reg [⟨(some 23), none, .bin .eql (.t 21) (.c (.int .u8 110))⟩,
  ⟨(some 22), none, .mov (.t 23)⟩])
 (.cond (.t 22) (.seq (.reg [⟨(some 2), none, .mov (.c (.int .i64 4))⟩,
  ⟨(some 3), none, .mov (.c (.int .i64 10))⟩])
 .ret)
 (.seq (.seq (.reg [⟨(some 25), none, .bin .eql (.t 21) (.c (.int .u8 39))⟩,
  ⟨(some 24), none, .mov (.t 25)⟩])
 (.cond (.t 24) .skip
 (.reg [⟨(some 26), none, .bin .eql (.t 21) (.c (.int .u8 92))⟩,
  ⟨(some 24), none, .mov (.t 26)⟩])))
 (.cond (.t 24) (.seq (.reg [⟨(some 27), none, .mov (.t 0)⟩,
  ⟨(some 28), none, .iaddr 1 (.t 27) (.c (.int .i64 2))⟩,
  ⟨(some 29), none, .load none (.t 28)⟩,
  ⟨(some 30), none, .conv (.int .i64) (.t 29)⟩,
  ⟨(some 2), none, .mov (.c (.int .i64 4))⟩,
  ⟨(some 3), none, .mov (.t 30)⟩])
 .ret)
 .skip))))))
 (.seq (.reg [⟨(some 2), none, .mov (.c (.int .i64 0))⟩,
  ⟨(some 3), none, .mov (.c (.int .i64 0))⟩])
 .ret))
 .skip))
 (.seq (.seq (.reg [⟨(some 31), none, .mov (.t 0)⟩,
  ⟨(some 32), none, .len 1 (.t 31)⟩,
  ⟨(some 33), none, .bin .geq (.t 32) (.c (.int .i64 3))⟩,
  ⟨(some 34), none, .mov (.t 33)⟩,
  ⟨(some 35), (some (34, true)), .mov (.t 0)⟩,
  ⟨(some 36), (some (34, true)), .iaddr 1 (.t 35) (.c (.int .i64 1))⟩,
  ⟨(some 37), (some (34, true)), .load none (.t 36)⟩,
  ⟨(some 38), (some (34, true)), .bin .geq (.t 37) (.c (.int .u8 32))⟩,
  ⟨(some 39), none, .pick (.t 34) (.t 38) (.c (.bool false))⟩,
  ⟨(some 40), none, .mov (.t 39)⟩,
  ⟨(some 41), (some (40, true)), .mov (.t 0)⟩,
  ⟨(some 42), (some (40, true)), .iaddr 1 (.t 41) (.c (.int .i64 1))⟩,
  ⟨(some 43), (some (40, true)), .load none (.t 42)⟩,
  ⟨(some 44), (some (40, true)), .bin .leq (.t 43) (.c (.int .u8 126))⟩,
  ⟨(some 45), none, .pick (.t 40) (.t 44) (.c (.bool false))⟩,
  ⟨(some 46), none, .mov (.t 45)⟩,
  ⟨(some 47), (some (46, true)), .mov (.t 0)⟩,
  ⟨(some 48), (some (46, true)), .iaddr 1 (.t 47) (.c (.int .i64 1))⟩,
  ⟨(some 49), (some (46, true)), .load none (.t 48)⟩,
  ⟨(some 50), (some (46, true)), .bin .neq (.t 49) (.c (.int .u8 39))⟩,
  ⟨(some 51), none, .pick (.t 46) (.t 50) (.c (.bool false))⟩,
  ⟨(some 52), none, .mov (.t 51)⟩,
  ⟨(some 53), (some (52, true)), .mov (.t 0)⟩,
  ⟨(some 54), (some (52, true)), .iaddr 1 (.t 53) (.c (.int .i64 1))⟩,
  ⟨(some 55), (some (52, true)), .load none (.t 54)⟩,
  ⟨(some 56), (some (52, true)), .bin .neq (.t 55) (.c (.int .u8 92))⟩,
  ⟨(some 57), none, .pick (.t 52) (.t 56) (.c (.bool false))⟩,
  ⟨(some 58), none, .mov (.t 57)⟩,
  ⟨(some 59), (some (58, true)), .mov (.t 0)⟩,
  ⟨(some 60), (some (58, true)), .iaddr 1 (.t 59) (.c (.int .i64 2))⟩,
  ⟨(some 61), (some (58, true)), .load none (.t 60)⟩,
  ⟨(some 62), (some (58, true)), .bin .eql (.t 61) (.c (.int .u8 39))⟩,
  ⟨(some 63), none, .pick (.t 58) (.t 62) (.c (.bool false))⟩])
 (.cond (.t 63) (.seq (.reg [⟨(some 64), none, .mov (.t 0)⟩,
  ⟨(some 65), none, .iaddr 1 (.t 64) (.c (.int .i64 1))⟩,
  ⟨(some 66), none, .load none (.t 65)⟩,
  ⟨(some 67), none, .conv (.int .i64) (.t 66)⟩,
  ⟨(some 2), none, .mov (.c (.int .i64 3))⟩,
  ⟨(some 3), none, .mov (.t 67)⟩])
 .ret)
 .skip))
 (.seq (.reg [⟨(some 2), none, .mov (.c (.int .i64 0))⟩,
  ⟨(some 3), none, .mov (.c (.int .i64 0))⟩])
 .ret)))),
  [.t 2, .t 3], false, true, 68⟩
theorem co61 : compF Tryd.prog ⟨[], [], [], [], [], []⟩ false true Tryd.f61 = some ac61 := by kernel_rfl

/-- paideia/paideiaref1.operators -/
def ac62 : AF := ⟨(.seq (.reg [⟨(some 0), none, .mov (.c (.sl .clip []))⟩])
 (.seq (.reg [⟨(some 1), none, .bslice [(.str [])] 9 [(0, (.c (.str [61, 61]))), (1, (.c (.str [47, 61]))), (2, (.c (.str [60, 61]))), (3, (.c (.str [62, 61]))), (4, (.c (.str [60]))), (5, (.c (.str [62]))), (6, (.c (.str [43]))), (7, (.c (.str [45]))), (8, (.c (.str [42])))]⟩,
  ⟨(some 0), none, .mov (.t 1)⟩])
 .ret)),
  [.t 0], false, true, 2⟩
theorem co62 : compF Tryd.prog ⟨[], [], [], [], [], []⟩ false true Tryd.f62 = some ac62 := by kernel_rfl

/-- paideia/lexer.Plain -/
def ac63 : AF := ⟨(.seq (.reg [⟨(some 2), none, .mov (.c (.bool false))⟩])
 (.seq (.reg [⟨(some 3), none, .mov (.t 0)⟩,
  ⟨(some 4), none, .bin .geq (.t 3) (.c (.int .u8 32))⟩,
  ⟨(some 5), none, .mov (.t 4)⟩,
  ⟨(some 6), (some (5, true)), .mov (.t 0)⟩,
  ⟨(some 7), (some (5, true)), .bin .leq (.t 6) (.c (.int .u8 126))⟩,
  ⟨(some 8), none, .pick (.t 5) (.t 7) (.c (.bool false))⟩,
  ⟨(some 9), none, .mov (.t 8)⟩,
  ⟨(some 10), (some (9, true)), .mov (.t 0)⟩,
  ⟨(some 11), (some (9, true)), .bin .neq (.t 10) (.c (.int .u8 39))⟩,
  ⟨(some 12), none, .pick (.t 9) (.t 11) (.c (.bool false))⟩,
  ⟨(some 13), none, .mov (.t 12)⟩,
  ⟨(some 14), (some (13, true)), .mov (.t 0)⟩,
  ⟨(some 15), (some (13, true)), .bin .neq (.t 14) (.c (.int .u8 92))⟩,
  ⟨(some 16), none, .pick (.t 13) (.t 15) (.c (.bool false))⟩,
  ⟨(some 2), none, .mov (.t 16)⟩])
 .ret)),
  [.t 2], false, true, 17⟩
theorem co63 : compF Tryd.prog ⟨[], [], [], [], [], []⟩ false true Tryd.f63 = some ac63 := by kernel_rfl

/-- paideia/paideiaref.Has -/
def ac65 : AF := ⟨(.seq (.reg [⟨(some 4), none, .mov (.c (.bool false))⟩])
 (.seq (.reg [⟨(some 5), none, .mov (.t 0)⟩,
  ⟨(some 6), none, .mov (.t 1)⟩,
  ⟨(some 7), none, .call 0 [] (.c (.fn 77 [])) [(.t 5), (.t 6)]⟩,
  ⟨(some 8), none, .bin .geq (.t 7) (.c (.int .i64 0))⟩,
  ⟨(some 4), none, .mov (.t 8)⟩])
 .ret)),
  [.t 4], false, true, 9⟩
theorem co65 : compF Tryd.prog ⟨[], [], [], [], [], []⟩ false true Tryd.f65 = some ac65 := by kernel_rfl

/-- paideia/paideiaref1.reserved -/
def ac72 : AF := ⟨(.seq (.reg [⟨(some 0), none, .mov (.c (.sl .clip []))⟩])
 (.seq (.reg [⟨(some 1), none, .bslice [(.str [])] 12 [(0, (.c (.str [100, 97, 116, 97]))), (1, (.c (.str [99, 108, 97, 115, 115]))), (2, (.c (.str [105, 110, 115, 116, 97, 110, 99, 101]))), (3, (.c (.str [119, 104, 101, 114, 101]))), (4, (.c (.str [108, 101, 116]))), (5, (.c (.str [105, 110]))), (6, (.c (.str [99, 97, 115, 101]))), (7, (.c (.str [111, 102]))), (8, (.c (.str [105, 102]))), (9, (.c (.str [116, 104, 101, 110]))), (10, (.c (.str [101, 108, 115, 101]))), (11, (.c (.str [100, 101, 114, 105, 118, 105, 110, 103])))]⟩,
  ⟨(some 0), none, .mov (.t 1)⟩])
 .ret)),
  [.t 0], false, true, 2⟩
theorem co72 : compF Tryd.prog ⟨[], [], [], [], [], []⟩ false true Tryd.f72 = some ac72 := by kernel_rfl

/-- paideia/paideiaref.Place -/
def ac77 : AF := ⟨(.seq (.reg [⟨(some 4), none, .mov (.c (.int .i64 0))⟩])
 (.seq (.seq (.reg [⟨(some 5), none, .mov (.c (.int .i64 0))⟩])
 (.block 0 (.loop [0, 1, 5] [] (.seq (.seq (.reg [⟨(some 6), none, .mov (.t 5)⟩,
  ⟨(some 7), none, .mov (.t 0)⟩,
  ⟨(some 8), none, .len 1 (.t 7)⟩,
  ⟨(some 9), none, .bin .lss (.t 6) (.t 8)⟩])
 (.cond (.t 9) .skip
 (.exit 0)))
 (.seq (.block 1 (.seq (.reg [⟨(some 12), none, .mov (.t 0)⟩,
  ⟨(some 13), none, .mov (.t 5)⟩,
  ⟨(some 14), none, .iaddr 1 (.t 12) (.t 13)⟩,
  ⟨(some 15), none, .load none (.t 14)⟩,
  ⟨(some 16), none, .mov (.t 1)⟩,
  ⟨(some 17), none, .bin .eql (.t 15) (.t 16)⟩])
 (.cond (.t 17) (.seq (.reg [⟨(some 18), none, .mov (.t 5)⟩,
  ⟨(some 4), none, .mov (.t 18)⟩])
 .ret)
 .skip)))
 (.reg [⟨(some 10), none, .mov (.t 5)⟩,
  ⟨(some 11), none, .bin .add (.t 10) (.c (.int .i64 1))⟩,
  ⟨(some 5), none, .mov (.t 11)⟩]))))))
 (.seq (.reg [⟨(some 4), none, .mov (.c (.int .i64 (-1)))⟩])
 .ret))),
  [.t 4], false, true, 19⟩
theorem co77 : compF Tryd.prog ⟨[], [(2, [0, 1, 5], [])], [], [], [], []⟩ false true Tryd.f77 = some ac77 := by kernel_rfl


theorem prim64 : PrimOkG Tryd.prog [2000002] 64 itoaP := itoaP_ok (g := 2) Tryd.func64 (by kernel_rfl) (by kernel_rfl) (by kernel_rfl) (by simp) Tryd.internal_strconv_FormatInt_10

def ap1 : AP := fun f vr => match f, vr with
  | 63, 0 => some (.code ac63)
  | 65, 0 => some (.code ac65)
  | 72, 0 => some (.code ac72)
  | 77, 0 => some (.code ac77)
  | 64, 0 => some (.prim itoaP)
  | _, _ => none

theorem table1 : TableOk Tryd.prog ap1 [2000002] := by
  intro f vr fd h
  unfold ap1 at h
  split at h
  · cases h; exact ⟨_, _, Tryd.func63, co63, by decide⟩
  · cases h; exact ⟨_, _, Tryd.func65, co65, by decide⟩
  · cases h; exact ⟨_, _, Tryd.func72, co72, by decide⟩
  · cases h; exact ⟨_, _, Tryd.func77, co77, by decide⟩
  · cases h; exact prim64
  · cases h

def ap0 : AP := fun f vr => match f, vr with
  | 6, 0 => some (.code ac6)
  | 7, 0 => some (.code ac7)
  | 23, 0 => some (.code ac23)
  | 24, 0 => some (.code ac24)
  | 25, 0 => some (.code ac25)
  | 26, 0 => some (.code ac26)
  | 27, 0 => some (.code ac27)
  | 28, 0 => some (.code ac28)
  | 29, 0 => some (.code ac29)
  | 30, 0 => some (.code ac30)
  | 31, 0 => some (.code ac31)
  | 32, 0 => some (.code ac32)
  | 33, 0 => some (.code ac33)
  | 47, 0 => some (.code ac47)
  | 48, 0 => some (.code ac48)
  | 49, 0 => some (.code ac49)
  | 50, 0 => some (.code ac50)
  | 51, 0 => some (.code ac51)
  | 56, 0 => some (.code ac56)
  | 57, 0 => some (.code ac57)
  | 58, 0 => some (.code ac58)
  | 59, 0 => some (.code ac59)
  | 60, 0 => some (.code ac60)
  | 61, 0 => some (.code ac61)
  | 62, 0 => some (.code ac62)
  | f, vr => ap1 f vr

theorem table0 : TableOk Tryd.prog ap0 [2000002] := by
  intro f vr fd h
  unfold ap0 at h
  split at h
  · cases h; exact ⟨_, _, Tryd.func6, co6, by decide⟩
  · cases h; exact ⟨_, _, Tryd.func7, co7, by decide⟩
  · cases h; exact ⟨_, _, Tryd.func23, co23, by decide⟩
  · cases h; exact ⟨_, _, Tryd.func24, co24, by decide⟩
  · cases h; exact ⟨_, _, Tryd.func25, co25, by decide⟩
  · cases h; exact ⟨_, _, Tryd.func26, co26, by decide⟩
  · cases h; exact ⟨_, _, Tryd.func27, co27, by decide⟩
  · cases h; exact ⟨_, _, Tryd.func28, co28, by decide⟩
  · cases h; exact ⟨_, _, Tryd.func29, co29, by decide⟩
  · cases h; exact ⟨_, _, Tryd.func30, co30, by decide⟩
  · cases h; exact ⟨_, _, Tryd.func31, co31, by decide⟩
  · cases h; exact ⟨_, _, Tryd.func32, co32, by decide⟩
  · cases h; exact ⟨_, _, Tryd.func33, co33, by decide⟩
  · cases h; exact ⟨_, _, Tryd.func47, co47, by decide⟩
  · cases h; exact ⟨_, _, Tryd.func48, co48, by decide⟩
  · cases h; exact ⟨_, _, Tryd.func49, co49, by decide⟩
  · cases h; exact ⟨_, _, Tryd.func50, co50, by decide⟩
  · cases h; exact ⟨_, _, Tryd.func51, co51, by decide⟩
  · cases h; exact ⟨_, _, Tryd.func56, co56, by decide⟩
  · cases h; exact ⟨_, _, Tryd.func57, co57, by decide⟩
  · cases h; exact ⟨_, _, Tryd.func58, co58, by decide⟩
  · cases h; exact ⟨_, _, Tryd.func59, co59, by decide⟩
  · cases h; exact ⟨_, _, Tryd.func60, co60, by decide⟩
  · cases h; exact ⟨_, _, Tryd.func61, co61, by decide⟩
  · cases h; exact ⟨_, _, Tryd.func62, co62, by decide⟩
  · exact table1 _ _ _ h

def ap : AP := ap0
theorem tableOk : TableOk Tryd.prog ap [2000002] := table0

end Go.It
