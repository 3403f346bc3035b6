/- The seat's functions on the abstract machine. -/
import Derived.Test.YtabjkoehbbobdaaDoorAmX
import Derived.Test.YtabjkoehbbobdaaDoorAmZ
import Derived.Test.YtabjkoehbbobdaaDoorAmL
import Derived.Test.YtabjkoehbbobdaaDoorAmI
import Derived.Test.YtabjkoehbbobdaaDoorItShelf
import Derived.Test.YtabjkoehbbobdaaDoorProg
namespace Go.It
open Go.Am Go.Proofs

set_option maxRecDepth 100000
/-- paideia/paideialaw23.PrimSays -/
def ac7 : AF := ⟨(.seq (.reg [⟨(some 8), none, .mov (.c (.bool false))⟩])
 (.seq (.reg [⟨(some 24), none, .call 0 [] (.c (.fn 23 [])) []⟩,
  ⟨(some 9), none, .mov (.t 24)⟩])
 (.seq (.seq (.reg [⟨(some 25), none, .mov (.t 9)⟩,
  ⟨(some 26), none, .not (.t 25)⟩])
 (.cond (.t 26) (.seq (.reg [⟨(some 8), none, .mov (.c (.bool false))⟩])
 .ret)
 .skip))
 (.seq (.seq (.reg [⟨(some 27), none, .mov (.t 0)⟩,
  ⟨(some 28), none, .len 0 (.t 27)⟩,
  ⟨(some 29), none, .bin .gtr (.t 28) (.c (.int .i64 60))⟩])
 (.cond (.t 29) (.seq (.reg [⟨(some 30), none, .mov (.t 9)⟩,
  ⟨(some 8), none, .mov (.t 30)⟩])
 .ret)
 .skip))
 (.seq (.reg [⟨(some 31), none, .call 0 [] (.c (.fn 27 [])) []⟩,
  ⟨(some 32), none, .mov (.t 0)⟩,
  ⟨(some 33), none, .bslice [(.str [])] 1 [(0, (.t 32))]⟩,
  ⟨(some 34), none, .append 1 (.t 31) (.t 33)⟩,
  ⟨(some 10), none, .mov (.t 34)⟩])
 (.seq (.seq (.reg [⟨(some 11), none, .mov (.c (.int .i64 0))⟩])
 (.block 0 (.loop [1, 2, 3, 9, 10, 11] [] (.seq (.seq (.reg [⟨(some 35), none, .mov (.t 11)⟩,
  ⟨(some 36), none, .mov (.t 10)⟩,
  ⟨(some 37), none, .len 1 (.t 36)⟩,
  ⟨(some 38), none, .bin .lss (.t 35) (.t 37)⟩])
 (.cond (.t 38) .skip
 (.exit 0)))
 (.seq (.block 1 (.seq (.reg [⟨(some 42), none, .mov (.t 10)⟩,
  ⟨(some 43), none, .mov (.t 11)⟩,
  ⟨(some 44), none, .iaddr 1 (.t 42) (.t 43)⟩,
  ⟨(some 45), none, .load none (.t 44)⟩,
  ⟨(some 46), none, .mov (.t 1)⟩,
  ⟨(some 47), none, .mov (.t 2)⟩,
  ⟨(some 48), none, .call 0 [] (.c (.fn 28 [])) [(.t 45), (.t 46), (.t 47)]⟩,
  ⟨(some 41), none, .mov (.t 48)⟩,
  ⟨(some 49), none, .extract (.t 41) 0⟩,
  ⟨(some 50), none, .extract (.t 41) 1⟩,
  ⟨(some 12), none, .mov (.t 49)⟩,
  ⟨(some 13), none, .mov (.t 50)⟩])
 (.seq (.reg [⟨(some 52), none, .mov (.t 10)⟩,
  ⟨(some 53), none, .mov (.t 11)⟩,
  ⟨(some 54), none, .iaddr 1 (.t 52) (.t 53)⟩,
  ⟨(some 55), none, .load none (.t 54)⟩,
  ⟨(some 56), none, .mov (.t 1)⟩,
  ⟨(some 57), none, .mov (.t 2)⟩,
  ⟨(some 58), none, .call 0 [] (.c (.fn 29 [])) [(.t 55), (.t 56), (.t 57)]⟩,
  ⟨(some 51), none, .mov (.t 58)⟩,
  ⟨(some 59), none, .extract (.t 51) 0⟩,
  ⟨(some 60), none, .extract (.t 51) 1⟩,
  ⟨(some 14), none, .mov (.t 59)⟩,
  ⟨(some 15), none, .mov (.t 60)⟩])
 (.seq (.reg [⟨(some 62), none, .mov (.t 10)⟩,
  ⟨(some 63), none, .mov (.t 11)⟩,
  ⟨(some 64), none, .iaddr 1 (.t 62) (.t 63)⟩,
  ⟨(some 65), none, .load none (.t 64)⟩,
  ⟨(some 66), none, .mov (.t 1)⟩,
  ⟨(some 67), none, .mov (.t 2)⟩,
  ⟨(some 68), none, .call 0 [] (.c (.fn 30 [])) [(.t 65), (.t 66), (.t 67)]⟩,
  ⟨(some 61), none, .mov (.t 68)⟩,
  ⟨(some 69), none, .extract (.t 61) 0⟩,
  ⟨(some 70), none, .extract (.t 61) 1⟩,
  ⟨(some 16), none, .mov (.t 69)⟩,
  ⟨(some 17), none, .mov (.t 70)⟩])
 (.seq (.reg [⟨(some 72), none, .mov (.t 10)⟩,
  ⟨(some 73), none, .mov (.t 11)⟩,
  ⟨(some 74), none, .iaddr 1 (.t 72) (.t 73)⟩,
  ⟨(some 75), none, .load none (.t 74)⟩,
  ⟨(some 76), none, .mov (.t 1)⟩,
  ⟨(some 77), none, .mov (.t 2)⟩,
  ⟨(some 78), none, .call 0 [] (.c (.fn 31 [])) [(.t 75), (.t 76), (.t 77)]⟩,
  ⟨(some 71), none, .mov (.t 78)⟩,
  ⟨(some 79), none, .extract (.t 71) 0⟩,
  ⟨(some 80), none, .extract (.t 71) 1⟩,
  ⟨(some 18), none, .mov (.t 79)⟩,
  ⟨(some 19), none, .mov (.t 80)⟩])
 (.seq (.reg [⟨(some 82), none, .mov (.t 10)⟩,
  ⟨(some 83), none, .mov (.t 11)⟩,
  ⟨(some 84), none, .iaddr 1 (.t 82) (.t 83)⟩,
  ⟨(some 85), none, .load none (.t 84)⟩,
  ⟨(some 86), none, .mov (.t 1)⟩,
  ⟨(some 87), none, .call 0 [] (.c (.fn 26 [])) [(.t 85), (.t 86)]⟩,
  ⟨(some 81), none, .mov (.t 87)⟩,
  ⟨(some 88), none, .extract (.t 81) 0⟩,
  ⟨(some 89), none, .extract (.t 81) 1⟩,
  ⟨(some 20), none, .mov (.t 88)⟩,
  ⟨(some 21), none, .mov (.t 89)⟩])
 (.seq (.reg [⟨(some 91), none, .mov (.t 10)⟩,
  ⟨(some 92), none, .mov (.t 11)⟩,
  ⟨(some 93), none, .iaddr 1 (.t 91) (.t 92)⟩,
  ⟨(some 94), none, .load none (.t 93)⟩,
  ⟨(some 95), none, .mov (.t 1)⟩,
  ⟨(some 96), none, .call 0 [] (.c (.fn 32 [])) [(.t 94), (.t 95)]⟩,
  ⟨(some 90), none, .mov (.t 96)⟩,
  ⟨(some 97), none, .extract (.t 90) 0⟩,
  ⟨(some 98), none, .extract (.t 90) 1⟩,
  ⟨(some 22), none, .mov (.t 97)⟩,
  ⟨(some 23), none, .mov (.t 98)⟩])
 (.seq (.reg [⟨(some 99), none, .mov (.t 12)⟩,
  ⟨(some 100), none, .mov (.t 14)⟩,
  ⟨(some 101), none, .bin .neq (.t 99) (.t 100)⟩,
  ⟨(some 102), none, .mov (.t 101)⟩,
  ⟨(some 103), (some (102, false)), .mov (.t 13)⟩,
  ⟨(some 104), (some (102, false)), .mov (.t 15)⟩,
  ⟨(some 105), (some (102, false)), .eqb true (.t 103) (.t 104)⟩,
  ⟨(some 106), none, .pick (.t 102) (.c (.bool true)) (.t 105)⟩,
  ⟨(some 107), none, .mov (.t 106)⟩,
  ⟨(some 108), (some (107, false)), .mov (.t 16)⟩,
  ⟨(some 109), (some (107, false)), .mov (.t 18)⟩,
  ⟨(some 110), (some (107, false)), .eqb true (.t 108) (.t 109)⟩,
  ⟨(some 111), none, .pick (.t 107) (.c (.bool true)) (.t 110)⟩,
  ⟨(some 112), none, .mov (.t 111)⟩,
  ⟨(some 113), (some (112, false)), .mov (.t 17)⟩,
  ⟨(some 114), (some (112, false)), .mov (.t 19)⟩,
  ⟨(some 115), (some (112, false)), .eqb true (.t 113) (.t 114)⟩,
  ⟨(some 116), none, .pick (.t 112) (.c (.bool true)) (.t 115)⟩,
  ⟨(some 117), none, .mov (.t 116)⟩,
  ⟨(some 118), (some (117, false)), .mov (.t 20)⟩,
  ⟨(some 119), (some (117, false)), .mov (.t 22)⟩,
  ⟨(some 120), (some (117, false)), .bin .neq (.t 118) (.t 119)⟩,
  ⟨(some 121), none, .pick (.t 117) (.c (.bool true)) (.t 120)⟩,
  ⟨(some 122), none, .mov (.t 121)⟩,
  ⟨(some 123), (some (122, false)), .mov (.t 21)⟩,
  ⟨(some 124), (some (122, false)), .mov (.t 23)⟩,
  ⟨(some 125), (some (122, false)), .eqb true (.t 123) (.t 124)⟩,
  ⟨(some 126), none, .pick (.t 122) (.c (.bool true)) (.t 125)⟩])
 (.cond (.t 126) (.seq (.reg [⟨(some 8), none, .mov (.c (.bool false))⟩])
 .ret)
 .skip)))))))))
 (.reg [⟨(some 39), none, .mov (.t 11)⟩,
  ⟨(some 40), none, .bin .add (.t 39) (.c (.int .i64 1))⟩,
  ⟨(some 11), none, .mov (.t 40)⟩]))))))
 (.seq (.reg [⟨(some 127), none, .mov (.t 9)⟩,
  ⟨(some 128), none, .mov (.t 127)⟩,
  ⟨(some 129), (some (128, true)), .mov (.t 3)⟩,
  ⟨(some 130), (some (128, true)), .call 0 [] (.c (.fn 25 [])) [(.t 129)]⟩,
  ⟨(some 131), (some (128, true)), .mov (.t 3)⟩,
  ⟨(some 132), (some (128, true)), .call 0 [] (.c (.fn 33 [])) [(.t 131)]⟩,
  ⟨(some 133), (some (128, true)), .bin .eql (.t 130) (.t 132)⟩,
  ⟨(some 134), none, .pick (.t 128) (.t 133) (.c (.bool false))⟩,
  ⟨(some 8), none, .mov (.t 134)⟩])
 .ret))))))),
  [.t 8], false, true, 135⟩
theorem co7 : compF Tryd.prog ⟨[], [(8, [1, 2, 3, 9, 10, 11], [])], [], [], [], []⟩ false true Tryd.f7 = some ac7 := by kernel_rfl

/-- paideia/paideialaw23.first -/
def ac23 : AF := ⟨(.seq (.reg [⟨(some 0), none, .mov (.c (.bool false))⟩])
 (.seq (.reg [⟨(some 4), none, .call 0 [] (.c (.fn 28 [])) [(.c (.str [112, 114, 105, 109, 73, 110, 116, 65, 100, 100])), (.c (.int .i64 1)), (.c (.int .i64 2))]⟩,
  ⟨(some 3), none, .mov (.t 4)⟩,
  ⟨(some 5), none, .extract (.t 3) 0⟩,
  ⟨(some 6), none, .extract (.t 3) 1⟩,
  ⟨(some 1), none, .mov (.t 5)⟩,
  ⟨(some 2), none, .mov (.t 6)⟩])
 (.seq (.reg [⟨(some 7), none, .mov (.t 2)⟩,
  ⟨(some 8), none, .mov (.t 7)⟩,
  ⟨(some 9), (some (8, true)), .mov (.t 1)⟩,
  ⟨(some 10), (some (8, true)), .bin .eql (.t 9) (.c (.int .i64 3))⟩,
  ⟨(some 11), none, .pick (.t 8) (.t 10) (.c (.bool false))⟩,
  ⟨(some 0), none, .mov (.t 11)⟩])
 .ret))),
  [.t 0], false, true, 12⟩
theorem co23 : compF Tryd.prog ⟨[], [], [], [], [], []⟩ false true Tryd.f23 = some ac23 := by kernel_rfl

/-- paideia/prim.Quote -/
def ac25 : AF := ⟨(.seq (.reg [⟨(some 2), none, .mov (.c (.str []))⟩])
 (.seq (.reg [⟨(some 3), none, .mov (.t 0)⟩,
  ⟨(some 4), none, .conv (.int .i64) (.t 3)⟩,
  ⟨(some 5), none, .call 0 [] (.c (.fn 50 [])) [(.t 4)]⟩,
  ⟨(some 2), none, .mov (.t 5)⟩])
 .ret)),
  [.t 2], false, true, 6⟩
theorem co25 : compF Tryd.prog ⟨[], [], [], [], [], []⟩ false true Tryd.f25 = some ac25 := by kernel_rfl

/-- paideia/prim.Text -/
def ac26 : AF := ⟨(.seq (.reg [⟨(some 4), none, .mov (.c (.str []))⟩,
  ⟨(some 5), none, .mov (.c (.bool false))⟩])
 (.seq (.seq (.reg [⟨(some 6), none, .mov (.t 0)⟩])
 (.block 0 (.seq (.reg [⟨(some 8), none, .bin .eql (.t 6) (.c (.str [112, 114, 105, 109, 73, 110, 116, 83, 104, 111, 119]))⟩,
  ⟨(some 7), none, .mov (.t 8)⟩])
 (.cond (.t 7) (.seq (.reg [⟨(some 9), none, .mov (.t 1)⟩,
  ⟨(some 10), none, .call 0 [] (.c (.fn 51 [])) [(.t 9), (.c (.int .i64 10))]⟩,
  ⟨(some 4), none, .mov (.t 10)⟩,
  ⟨(some 5), none, .mov (.c (.bool true))⟩])
 .ret)
 (.seq (.reg [⟨(some 12), none, .bin .eql (.t 6) (.c (.str [112, 114, 105, 109, 67, 104, 97, 114, 83, 104, 111, 119]))⟩,
  ⟨(some 11), none, .mov (.t 12)⟩])
 (.cond (.t 11) (.seq (.reg [⟨(some 13), none, .mov (.t 1)⟩,
  ⟨(some 14), none, .conv (.int .u8) (.t 13)⟩,
  ⟨(some 15), none, .call 0 [] (.c (.fn 25 [])) [(.t 14)]⟩,
  ⟨(some 4), none, .mov (.t 15)⟩,
  ⟨(some 5), none, .mov (.c (.bool true))⟩])
 .ret)
 .skip))))))
 (.seq (.reg [⟨(some 4), none, .mov (.c (.str []))⟩,
  ⟨(some 5), none, .mov (.c (.bool false))⟩])
 .ret))),
  [.t 4, .t 5], false, true, 16⟩
theorem co26 : compF Tryd.prog ⟨[], [], [], [], [], []⟩ false true Tryd.f26 = some ac26 := by kernel_rfl

/-- paideia/paideiaref21.Prims -/
def ac27 : AF := ⟨(.seq (.reg [⟨(some 0), none, .mov (.c (.sl .clip []))⟩])
 (.seq (.reg [⟨(some 1), none, .bslice [(.str [])] 9 [(0, (.c (.str [112, 114, 105, 109, 73, 110, 116, 69, 113]))), (1, (.c (.str [112, 114, 105, 109, 73, 110, 116, 76, 101, 115, 115]))), (2, (.c (.str [112, 114, 105, 109, 73, 110, 116, 65, 100, 100]))), (3, (.c (.str [112, 114, 105, 109, 73, 110, 116, 83, 117, 98]))), (4, (.c (.str [112, 114, 105, 109, 73, 110, 116, 77, 117, 108]))), (5, (.c (.str [112, 114, 105, 109, 73, 110, 116, 83, 104, 111, 119]))), (6, (.c (.str [112, 114, 105, 109, 67, 104, 97, 114, 69, 113]))), (7, (.c (.str [112, 114, 105, 109, 67, 104, 97, 114, 76, 101, 115, 115]))), (8, (.c (.str [112, 114, 105, 109, 67, 104, 97, 114, 83, 104, 111, 119])))]⟩,
  ⟨(some 0), none, .mov (.t 1)⟩])
 .ret)),
  [.t 0], true, true, 2⟩
theorem co27 : compF Tryd.prog ⟨[], [], [], [], [], []⟩ true true Tryd.f27 = some ac27 := by kernel_rfl

/-- paideia/prim.Number -/
def ac28 : AF := ⟨(.seq (.reg [⟨(some 6), none, .mov (.c (.int .i64 0))⟩,
  ⟨(some 7), none, .mov (.c (.bool false))⟩])
 (.seq (.seq (.reg [⟨(some 8), none, .mov (.t 0)⟩])
 (.block 0 (.seq (.reg [⟨(some 10), none, .bin .eql (.t 8) (.c (.str [112, 114, 105, 109, 73, 110, 116, 65, 100, 100]))⟩,
  ⟨(some 9), none, .mov (.t 10)⟩])
 (.cond (.t 9) (.seq (.reg [⟨(some 11), none, .mov (.t 1)⟩,
  ⟨(some 12), none, .mov (.t 2)⟩,
  ⟨(some 13), none, .bin .add (.t 11) (.t 12)⟩,
  ⟨(some 6), none, .mov (.t 13)⟩,
  ⟨(some 7), none, .mov (.c (.bool true))⟩])
 .ret)
 (.seq (.reg [⟨(some 15), none, .bin .eql (.t 8) (.c (.str [112, 114, 105, 109, 73, 110, 116, 83, 117, 98]))⟩,
  ⟨(some 14), none, .mov (.t 15)⟩])
 (.cond (.t 14) (.seq (.reg [⟨(some 16), none, .mov (.t 1)⟩,
  ⟨(some 17), none, .mov (.t 2)⟩,
  ⟨(some 18), none, .bin .sub (.t 16) (.t 17)⟩,
  ⟨(some 6), none, .mov (.t 18)⟩,
  ⟨(some 7), none, .mov (.c (.bool true))⟩])
 .ret)
 (.seq (.reg [⟨(some 20), none, .bin .eql (.t 8) (.c (.str [112, 114, 105, 109, 73, 110, 116, 77, 117, 108]))⟩,
  ⟨(some 19), none, .mov (.t 20)⟩])
 (.cond (.t 19) (.seq (.reg [⟨(some 21), none, .mov (.t 1)⟩,
  ⟨(some 22), none, .mov (.t 2)⟩,
  ⟨(some 23), none, .bin .mul (.t 21) (.t 22)⟩,
  ⟨(some 6), none, .mov (.t 23)⟩,
  ⟨(some 7), none, .mov (.c (.bool true))⟩])
 .ret)
 .skip))))))))
 (.seq (.reg [⟨(some 6), none, .mov (.c (.int .i64 0))⟩,
  ⟨(some 7), none, .mov (.c (.bool false))⟩])
 .ret))),
  [.t 6, .t 7], false, true, 24⟩
theorem co28 : compF Tryd.prog ⟨[], [], [], [], [], []⟩ false true Tryd.f28 = some ac28 := by kernel_rfl

/-- paideia/paideiaref21.Number -/
def ac29 : AF := ⟨(.seq (.reg [⟨(some 6), none, .mov (.c (.int .i64 0))⟩,
  ⟨(some 7), none, .mov (.c (.bool false))⟩])
 (.seq (.seq (.reg [⟨(some 8), none, .mov (.t 0)⟩])
 (.block 0 (.seq (.reg [⟨(some 10), none, .bin .eql (.t 8) (.c (.str [112, 114, 105, 109, 73, 110, 116, 65, 100, 100]))⟩,
  ⟨(some 9), none, .mov (.t 10)⟩])
 (.cond (.t 9) (.seq (.reg [⟨(some 11), none, .mov (.t 1)⟩,
  ⟨(some 12), none, .mov (.t 2)⟩,
  ⟨(some 13), none, .bin .add (.t 11) (.t 12)⟩,
  ⟨(some 6), none, .mov (.t 13)⟩,
  ⟨(some 7), none, .mov (.c (.bool true))⟩])
 .ret)
 (.seq (.reg [⟨(some 15), none, .bin .eql (.t 8) (.c (.str [112, 114, 105, 109, 73, 110, 116, 83, 117, 98]))⟩,
  ⟨(some 14), none, .mov (.t 15)⟩])
 (.cond (.t 14) (.seq (.reg [⟨(some 16), none, .mov (.t 1)⟩,
  ⟨(some 17), none, .mov (.t 2)⟩,
  ⟨(some 18), none, .bin .sub (.t 16) (.t 17)⟩,
  ⟨(some 6), none, .mov (.t 18)⟩,
  ⟨(some 7), none, .mov (.c (.bool true))⟩])
 .ret)
 (.seq (.reg [⟨(some 20), none, .bin .eql (.t 8) (.c (.str [112, 114, 105, 109, 73, 110, 116, 77, 117, 108]))⟩,
  ⟨(some 19), none, .mov (.t 20)⟩])
 (.cond (.t 19) (.seq (.reg [⟨(some 21), none, .mov (.t 1)⟩,
  ⟨(some 22), none, .mov (.t 2)⟩,
  ⟨(some 23), none, .bin .mul (.t 21) (.t 22)⟩,
  ⟨(some 6), none, .mov (.t 23)⟩,
  ⟨(some 7), none, .mov (.c (.bool true))⟩])
 .ret)
 .skip))))))))
 (.seq (.reg [⟨(some 6), none, .mov (.c (.int .i64 0))⟩,
  ⟨(some 7), none, .mov (.c (.bool false))⟩])
 .ret))),
  [.t 6, .t 7], false, true, 24⟩
theorem co29 : compF Tryd.prog ⟨[], [], [], [], [], []⟩ false true Tryd.f29 = some ac29 := by kernel_rfl

/-- paideia/prim.Asks -/
def ac30 : AF := ⟨(.seq (.reg [⟨(some 6), none, .mov (.c (.bool false))⟩,
  ⟨(some 7), none, .mov (.c (.bool false))⟩])
 (.seq (.seq (.reg [⟨(some 8), none, .mov (.t 0)⟩])
 (.block 0 (.seq (.seq (.reg [⟨(some 10), none, .bin .eql (.t 8) (.c (.str [112, 114, 105, 109, 73, 110, 116, 69, 113]))⟩,
  ⟨(some 9), none, .mov (.t 10)⟩])
 (.cond (.t 9) .skip
 (.reg [⟨(some 11), none, .bin .eql (.t 8) (.c (.str [112, 114, 105, 109, 67, 104, 97, 114, 69, 113]))⟩,
  ⟨(some 9), none, .mov (.t 11)⟩])))
 (.cond (.t 9) (.seq (.reg [⟨(some 12), none, .mov (.t 1)⟩,
  ⟨(some 13), none, .mov (.t 2)⟩,
  ⟨(some 14), none, .bin .eql (.t 12) (.t 13)⟩,
  ⟨(some 6), none, .mov (.t 14)⟩,
  ⟨(some 7), none, .mov (.c (.bool true))⟩])
 .ret)
 (.seq (.seq (.reg [⟨(some 16), none, .bin .eql (.t 8) (.c (.str [112, 114, 105, 109, 73, 110, 116, 76, 101, 115, 115]))⟩,
  ⟨(some 15), none, .mov (.t 16)⟩])
 (.cond (.t 15) .skip
 (.reg [⟨(some 17), none, .bin .eql (.t 8) (.c (.str [112, 114, 105, 109, 67, 104, 97, 114, 76, 101, 115, 115]))⟩,
  ⟨(some 15), none, .mov (.t 17)⟩])))
 (.cond (.t 15) (.seq (.reg [⟨(some 18), none, .mov (.t 1)⟩,
  ⟨(some 19), none, .mov (.t 2)⟩,
  ⟨(some 20), none, .bin .lss (.t 18) (.t 19)⟩,
  ⟨(some 6), none, .mov (.t 20)⟩,
  ⟨(some 7), none, .mov (.c (.bool true))⟩])
 .ret)
 .skip))))))
 (.seq (.reg [⟨(some 6), none, .mov (.c (.bool false))⟩,
  ⟨(some 7), none, .mov (.c (.bool false))⟩])
 .ret))),
  [.t 6, .t 7], false, true, 21⟩
theorem co30 : compF Tryd.prog ⟨[], [], [], [], [], []⟩ false true Tryd.f30 = some ac30 := by kernel_rfl

/-- paideia/paideiaref21.Asks -/
def ac31 : AF := ⟨(.seq (.reg [⟨(some 6), none, .mov (.c (.bool false))⟩,
  ⟨(some 7), none, .mov (.c (.bool false))⟩])
 (.seq (.seq (.reg [⟨(some 8), none, .mov (.t 0)⟩])
 (.block 0 (.seq (.seq (.reg [⟨(some 10), none, .bin .eql (.t 8) (.c (.str [112, 114, 105, 109, 73, 110, 116, 69, 113]))⟩,
  ⟨(some 9), none, .mov (.t 10)⟩])
 (.cond (.t 9) .skip
 (.reg [⟨(some 11), none, .bin .eql (.t 8) (.c (.str [112, 114, 105, 109, 67, 104, 97, 114, 69, 113]))⟩,
  ⟨(some 9), none, .mov (.t 11)⟩])))
 (.cond (.t 9) (.seq (.reg [⟨(some 12), none, .mov (.t 1)⟩,
  ⟨(some 13), none, .mov (.t 2)⟩,
  ⟨(some 14), none, .bin .eql (.t 12) (.t 13)⟩,
  ⟨(some 6), none, .mov (.t 14)⟩,
  ⟨(some 7), none, .mov (.c (.bool true))⟩])
 .ret)
 (.seq (.seq (.reg [⟨(some 16), none, .bin .eql (.t 8) (.c (.str [112, 114, 105, 109, 73, 110, 116, 76, 101, 115, 115]))⟩,
  ⟨(some 15), none, .mov (.t 16)⟩])
 (.cond (.t 15) .skip
 (.reg [⟨(some 17), none, .bin .eql (.t 8) (.c (.str [112, 114, 105, 109, 67, 104, 97, 114, 76, 101, 115, 115]))⟩,
  ⟨(some 15), none, .mov (.t 17)⟩])))
 (.cond (.t 15) (.seq (.reg [⟨(some 18), none, .mov (.t 1)⟩,
  ⟨(some 19), none, .mov (.t 2)⟩,
  ⟨(some 20), none, .bin .lss (.t 18) (.t 19)⟩,
  ⟨(some 6), none, .mov (.t 20)⟩,
  ⟨(some 7), none, .mov (.c (.bool true))⟩])
 .ret)
 .skip))))))
 (.seq (.reg [⟨(some 6), none, .mov (.c (.bool false))⟩,
  ⟨(some 7), none, .mov (.c (.bool false))⟩])
 .ret))),
  [.t 6, .t 7], false, true, 21⟩
theorem co31 : compF Tryd.prog ⟨[], [], [], [], [], []⟩ false true Tryd.f31 = some ac31 := by kernel_rfl

/-- paideia/paideiaref21.Text -/
def ac32 : AF := ⟨(.seq (.reg [⟨(some 4), none, .mov (.c (.str []))⟩,
  ⟨(some 5), none, .mov (.c (.bool false))⟩])
 (.seq (.seq (.reg [⟨(some 6), none, .mov (.t 0)⟩])
 (.block 0 (.seq (.reg [⟨(some 8), none, .bin .eql (.t 6) (.c (.str [112, 114, 105, 109, 73, 110, 116, 83, 104, 111, 119]))⟩,
  ⟨(some 7), none, .mov (.t 8)⟩])
 (.cond (.t 7) (.seq (.reg [⟨(some 9), none, .mov (.t 1)⟩,
  ⟨(some 10), none, .call 0 [] (.c (.fn 51 [])) [(.t 9), (.c (.int .i64 10))]⟩,
  ⟨(some 4), none, .mov (.t 10)⟩,
  ⟨(some 5), none, .mov (.c (.bool true))⟩])
 .ret)
 (.seq (.reg [⟨(some 12), none, .bin .eql (.t 6) (.c (.str [112, 114, 105, 109, 67, 104, 97, 114, 83, 104, 111, 119]))⟩,
  ⟨(some 11), none, .mov (.t 12)⟩])
 (.cond (.t 11) (.seq (.reg [⟨(some 13), none, .mov (.t 1)⟩,
  ⟨(some 14), none, .conv (.int .u8) (.t 13)⟩,
  ⟨(some 15), none, .call 0 [] (.c (.fn 33 [])) [(.t 14)]⟩,
  ⟨(some 4), none, .mov (.t 15)⟩,
  ⟨(some 5), none, .mov (.c (.bool true))⟩])
 .ret)
 .skip))))))
 (.seq (.reg [⟨(some 4), none, .mov (.c (.str []))⟩,
  ⟨(some 5), none, .mov (.c (.bool false))⟩])
 .ret))),
  [.t 4, .t 5], false, true, 16⟩
theorem co32 : compF Tryd.prog ⟨[], [], [], [], [], []⟩ false true Tryd.f32 = some ac32 := by kernel_rfl

/-- paideia/paideiaref1.Quote -/
def ac33 : AF := ⟨(.seq (.reg [⟨(some 2), none, .mov (.c (.str []))⟩])
 (.seq (.block 0 (.seq (.reg [⟨(some 4), none, .mov (.t 0)⟩,
  ⟨(some 5), none, .bin .eql (.t 4) (.c (.int .u8 10))⟩,
  ⟨(some 3), none, .mov (.t 5)⟩])
 (.cond (.t 3) (.seq (.reg [⟨(some 2), none, .mov (.c (.str [39, 92, 110, 39]))⟩])
 .ret)
 (.seq (.reg [⟨(some 7), none, .mov (.t 0)⟩,
  ⟨(some 8), none, .bin .eql (.t 7) (.c (.int .u8 39))⟩,
  ⟨(some 9), none, .mov (.t 8)⟩,
  ⟨(some 10), (some (9, false)), .mov (.t 0)⟩,
  ⟨(some 11), (some (9, false)), .bin .eql (.t 10) (.c (.int .u8 92))⟩,
  ⟨(some 12), none, .pick (.t 9) (.c (.bool true)) (.t 11)⟩,
  ⟨(some 6), none, .mov (.t 12)⟩])
 (.cond (.t 6) (.seq (.reg [⟨(some 13), none, .mov (.t 0)⟩,
  ⟨(some 14), none, .conv .rune (.t 13)⟩,
  ⟨(some 15), none, .bin .add (.c (.str [39, 92])) (.t 14)⟩,
  ⟨(some 16), none, .bin .add (.t 15) (.c (.str [39]))⟩,
  ⟨(some 2), none, .mov (.t 16)⟩])
 .ret)
 (.seq (.reg [⟨(some 18), none, .mov (.t 0)⟩,
  ⟨(some 19), none, .bin .geq (.t 18) (.c (.int .u8 32))⟩,
  ⟨(some 20), none, .mov (.t 19)⟩,
  ⟨(some 21), (some (20, true)), .mov (.t 0)⟩,
  ⟨(some 22), (some (20, true)), .bin .leq (.t 21) (.c (.int .u8 126))⟩,
  ⟨(some 23), none, .pick (.t 20) (.t 22) (.c (.bool false))⟩,
  ⟨(some 17), none, .mov (.t 23)⟩])
 (.cond (.t 17) (.seq (.reg [⟨(some 24), none, .mov (.t 0)⟩,
  ⟨(some 25), none, .conv .rune (.t 24)⟩,
  ⟨(some 26), none, .bin .add (.c (.str [39])) (.t 25)⟩,
  ⟨(some 27), none, .bin .add (.t 26) (.c (.str [39]))⟩,
  ⟨(some 2), none, .mov (.t 27)⟩])
 .ret)
 .skip)))))))
 (.seq (.reg [⟨(some 2), none, .mov (.c (.str [39, 63, 39]))⟩])
 .ret))),
  [.t 2], false, true, 28⟩
theorem co33 : compF Tryd.prog ⟨[], [], [], [], [], []⟩ false true Tryd.f33 = some ac33 := by kernel_rfl

/-- paideia/printer.Letter -/
def ac50 : AF := ⟨(.seq (.reg [⟨(some 2), none, .mov (.c (.str []))⟩])
 (.seq (.block 0 (.seq (.reg [⟨(some 4), none, .mov (.t 0)⟩,
  ⟨(some 5), none, .bin .eql (.t 4) (.c (.int .i64 10))⟩,
  ⟨(some 3), none, .mov (.t 5)⟩])
 (.cond (.t 3) (.seq (.reg [⟨(some 2), none, .mov (.c (.str [39, 92, 110, 39]))⟩])
 .ret)
 (.seq (.reg [⟨(some 7), none, .mov (.t 0)⟩,
  ⟨(some 8), none, .bin .eql (.t 7) (.c (.int .i64 39))⟩,
  ⟨(some 9), none, .mov (.t 8)⟩,
  ⟨(some 10), (some (9, false)), .mov (.t 0)⟩,
  ⟨(some 11), (some (9, false)), .bin .eql (.t 10) (.c (.int .i64 92))⟩,
  ⟨(some 12), none, .pick (.t 9) (.c (.bool true)) (.t 11)⟩,
  ⟨(some 6), none, .mov (.t 12)⟩])
 (.cond (.t 6) (.seq (.reg [⟨(some 13), none, .mov (.t 0)⟩,
  ⟨(some 14), none, .conv (.int .i32) (.t 13)⟩,
  ⟨(some 15), none, .conv .rune (.t 14)⟩,
  ⟨(some 16), none, .bin .add (.c (.str [39, 92])) (.t 15)⟩,
  ⟨(some 17), none, .bin .add (.t 16) (.c (.str [39]))⟩,
  ⟨(some 2), none, .mov (.t 17)⟩])
 .ret)
 (.seq (.reg [⟨(some 19), none, .mov (.t 0)⟩,
  ⟨(some 20), none, .bin .geq (.t 19) (.c (.int .i64 0))⟩,
  ⟨(some 21), none, .mov (.t 20)⟩,
  ⟨(some 22), (some (21, true)), .mov (.t 0)⟩,
  ⟨(some 23), (some (21, true)), .bin .leq (.t 22) (.c (.int .i64 126))⟩,
  ⟨(some 24), none, .pick (.t 21) (.t 23) (.c (.bool false))⟩,
  ⟨(some 25), none, .mov (.t 24)⟩,
  ⟨(some 26), (some (25, true)), .mov (.t 0)⟩,
  ⟨(some 27), (some (25, true)), .conv (.int .u8) (.t 26)⟩,
  ⟨(some 28), (some (25, true)), .call 0 [] (.c (.fn 63 [])) [(.t 27)]⟩,
  ⟨(some 29), none, .pick (.t 25) (.t 28) (.c (.bool false))⟩,
  ⟨(some 18), none, .mov (.t 29)⟩])
 (.cond (.t 18) (.seq (.reg [⟨(some 30), none, .mov (.t 0)⟩,
  ⟨(some 31), none, .conv (.int .i32) (.t 30)⟩,
  ⟨(some 32), none, .conv .rune (.t 31)⟩,
  ⟨(some 33), none, .bin .add (.c (.str [39])) (.t 32)⟩,
  ⟨(some 34), none, .bin .add (.t 33) (.c (.str [39]))⟩,
  ⟨(some 2), none, .mov (.t 34)⟩])
 .ret)
 .skip)))))))
 (.seq (.reg [⟨(some 2), none, .mov (.c (.str [39, 63, 39]))⟩])
 .ret))),
  [.t 2], false, true, 35⟩
theorem co50 : compF Tryd.prog ⟨[], [], [], [], [], []⟩ false true Tryd.f50 = some ac50 := by kernel_rfl

/-- strconv.FormatInt -/
def ac51 : AF := ⟨(.seq (.reg [⟨(some 4), none, .mov (.c (.str []))⟩])
 (.seq (.reg [⟨(some 5), none, .mov (.t 0)⟩,
  ⟨(some 6), none, .mov (.t 1)⟩,
  ⟨(some 7), none, .call 0 [] (.c (.fn 64 [])) [(.t 5), (.t 6)]⟩,
  ⟨(some 4), none, .mov (.t 7)⟩])
 .ret)),
  [.t 4], false, true, 8⟩
theorem co51 : compF Tryd.prog ⟨[], [], [], [], [], []⟩ false true Tryd.f51 = some ac51 := by kernel_rfl

/-- paideia/lexer.Plain -/
def ac63 : AF := ⟨(.seq (.reg [⟨(some 2), none, .mov (.c (.bool false))⟩])
 (.seq (.reg [⟨(some 3), none, .mov (.t 0)⟩,
  ⟨(some 4), none, .bin .geq (.t 3) (.c (.int .u8 32))⟩,
  ⟨(some 5), none, .mov (.t 4)⟩,
  ⟨(some 6), (some (5, true)), .mov (.t 0)⟩,
  ⟨(some 7), (some (5, true)), .bin .leq (.t 6) (.c (.int .u8 126))⟩,
  ⟨(some 8), none, .pick (.t 5) (.t 7) (.c (.bool false))⟩,
  ⟨(some 9), none, .mov (.t 8)⟩,
  ⟨(some 10), (some (9, true)), .mov (.t 0)⟩,
  ⟨(some 11), (some (9, true)), .bin .neq (.t 10) (.c (.int .u8 39))⟩,
  ⟨(some 12), none, .pick (.t 9) (.t 11) (.c (.bool false))⟩,
  ⟨(some 13), none, .mov (.t 12)⟩,
  ⟨(some 14), (some (13, true)), .mov (.t 0)⟩,
  ⟨(some 15), (some (13, true)), .bin .neq (.t 14) (.c (.int .u8 92))⟩,
  ⟨(some 16), none, .pick (.t 13) (.t 15) (.c (.bool false))⟩,
  ⟨(some 2), none, .mov (.t 16)⟩])
 .ret)),
  [.t 2], false, true, 17⟩
theorem co63 : compF Tryd.prog ⟨[], [], [], [], [], []⟩ false true Tryd.f63 = some ac63 := by kernel_rfl


theorem prim64 : PrimOkG Tryd.prog [2000002] 64 itoaP := itoaP_ok (g := 2) Tryd.func64 (by kernel_rfl) (by kernel_rfl) (by kernel_rfl) (by simp) Tryd.internal_strconv_FormatInt_10

def ap0 : AP := fun f vr => match f, vr with
  | 7, 0 => some (.code ac7)
  | 23, 0 => some (.code ac23)
  | 25, 0 => some (.code ac25)
  | 26, 0 => some (.code ac26)
  | 27, 0 => some (.code ac27)
  | 28, 0 => some (.code ac28)
  | 29, 0 => some (.code ac29)
  | 30, 0 => some (.code ac30)
  | 31, 0 => some (.code ac31)
  | 32, 0 => some (.code ac32)
  | 33, 0 => some (.code ac33)
  | 50, 0 => some (.code ac50)
  | 51, 0 => some (.code ac51)
  | 63, 0 => some (.code ac63)
  | 64, 0 => some (.prim itoaP)
  | _, _ => none

theorem table0 : TableOk Tryd.prog ap0 [2000002] := by
  intro f vr fd h
  unfold ap0 at h
  split at h
  · cases h; exact ⟨_, _, Tryd.func7, co7, by decide⟩
  · cases h; exact ⟨_, _, Tryd.func23, co23, by decide⟩
  · cases h; exact ⟨_, _, Tryd.func25, co25, by decide⟩
  · cases h; exact ⟨_, _, Tryd.func26, co26, by decide⟩
  · cases h; exact ⟨_, _, Tryd.func27, co27, by decide⟩
  · cases h; exact ⟨_, _, Tryd.func28, co28, by decide⟩
  · cases h; exact ⟨_, _, Tryd.func29, co29, by decide⟩
  · cases h; exact ⟨_, _, Tryd.func30, co30, by decide⟩
  · cases h; exact ⟨_, _, Tryd.func31, co31, by decide⟩
  · cases h; exact ⟨_, _, Tryd.func32, co32, by decide⟩
  · cases h; exact ⟨_, _, Tryd.func33, co33, by decide⟩
  · cases h; exact ⟨_, _, Tryd.func50, co50, by decide⟩
  · cases h; exact ⟨_, _, Tryd.func51, co51, by decide⟩
  · cases h; exact ⟨_, _, Tryd.func63, co63, by decide⟩
  · cases h; exact prim64
  · cases h

def ap : AP := ap0
theorem tableOk : TableOk Tryd.prog ap [2000002] := table0

end Go.It
