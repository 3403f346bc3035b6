/- The seat's functions on the abstract machine. -/
import Derived.Test.YtoachlegeiefaaaDoorAmQ
import Derived.Test.YtoachlegeiefaaaDoorAmE
import Derived.Test.YtoachlegeiefaaaDoorAmZ
import Derived.Test.YtoachlegeiefaaaDoorAmL
import Derived.Test.YtoachlegeiefaaaDoorProg
namespace Go.Et
open Go.Am Go.Proofs

set_option maxRecDepth 100000
/-- paideia/paideialaw23.PrimTexts -/
def ac5 : AF := ⟨(.seq (.reg [⟨(some 4), none, .mov (.c (.bool false))⟩])
 (.seq (.reg [⟨(some 11), none, .call 0 [] (.c (.fn 23 [])) []⟩,
  ⟨(some 5), none, .mov (.t 11)⟩])
 (.seq (.seq (.reg [⟨(some 12), none, .mov (.t 5)⟩,
  ⟨(some 13), none, .not (.t 12)⟩])
 (.cond (.t 13) (.seq (.reg [⟨(some 4), none, .mov (.c (.bool false))⟩])
 .ret)
 .skip))
 (.seq (.reg [⟨(some 14), none, .mov (.t 0)⟩,
  ⟨(some 15), none, .call 0 [] (.c (.fn 24 [])) [(.t 14)]⟩,
  ⟨(some 6), none, .mov (.t 15)⟩])
 (.seq (.reg [⟨(some 17), none, .mov (.t 0)⟩,
  ⟨(some 18), none, .conv (.int .i64) (.t 17)⟩,
  ⟨(some 19), none, .call 0 [] (.c (.fn 25 [])) [(.c (.str [112, 114, 105, 109, 67, 104, 97, 114, 83, 104, 111, 119])), (.t 18)]⟩,
  ⟨(some 16), none, .mov (.t 19)⟩,
  ⟨(some 20), none, .extract (.t 16) 0⟩,
  ⟨(some 21), none, .extract (.t 16) 1⟩,
  ⟨(some 7), none, .mov (.t 20)⟩,
  ⟨(some 8), none, .mov (.t 21)⟩])
 (.seq (.reg [⟨(some 23), none, .mov (.t 0)⟩,
  ⟨(some 24), none, .conv (.int .i64) (.t 23)⟩,
  ⟨(some 25), none, .mov (.t 1)⟩,
  ⟨(some 26), none, .bin .rem (.t 25) (.c (.int .i64 1000))⟩,
  ⟨(some 27), none, .bin .mul (.c (.int .i64 256)) (.t 26)⟩,
  ⟨(some 28), none, .bin .add (.t 24) (.t 27)⟩,
  ⟨(some 29), none, .call 0 [] (.c (.fn 25 [])) [(.c (.str [112, 114, 105, 109, 67, 104, 97, 114, 83, 104, 111, 119])), (.t 28)]⟩,
  ⟨(some 22), none, .mov (.t 29)⟩,
  ⟨(some 30), none, .extract (.t 22) 0⟩,
  ⟨(some 31), none, .extract (.t 22) 1⟩,
  ⟨(some 9), none, .mov (.t 30)⟩,
  ⟨(some 10), none, .mov (.t 31)⟩])
 (.seq (.seq (.reg [⟨(some 32), none, .mov (.t 8)⟩,
  ⟨(some 33), none, .not (.t 32)⟩,
  ⟨(some 34), none, .mov (.t 33)⟩,
  ⟨(some 35), (some (34, false)), .mov (.t 10)⟩,
  ⟨(some 36), (some (34, false)), .not (.t 35)⟩,
  ⟨(some 37), none, .pick (.t 34) (.c (.bool true)) (.t 36)⟩,
  ⟨(some 38), none, .mov (.t 37)⟩,
  ⟨(some 39), (some (38, false)), .mov (.t 6)⟩,
  ⟨(some 40), (some (38, false)), .mov (.t 7)⟩,
  ⟨(some 41), (some (38, false)), .bin .neq (.t 39) (.t 40)⟩,
  ⟨(some 42), none, .pick (.t 38) (.c (.bool true)) (.t 41)⟩,
  ⟨(some 43), none, .mov (.t 42)⟩,
  ⟨(some 44), (some (43, false)), .mov (.t 9)⟩,
  ⟨(some 45), (some (43, false)), .mov (.t 7)⟩,
  ⟨(some 46), (some (43, false)), .bin .neq (.t 44) (.t 45)⟩,
  ⟨(some 47), none, .pick (.t 43) (.c (.bool true)) (.t 46)⟩])
 (.cond (.t 47) (.seq (.reg [⟨(some 4), none, .mov (.c (.bool false))⟩])
 .ret)
 .skip))
 (.seq (.block 0 (.seq (.reg [⟨(some 49), none, .mov (.t 0)⟩,
  ⟨(some 50), none, .bin .eql (.t 49) (.c (.int .u8 10))⟩,
  ⟨(some 48), none, .mov (.t 50)⟩])
 (.cond (.t 48) (.seq (.reg [⟨(some 51), none, .mov (.t 5)⟩,
  ⟨(some 52), none, .mov (.t 51)⟩,
  ⟨(some 53), (some (52, true)), .mov (.t 6)⟩,
  ⟨(some 54), (some (52, true)), .bin .eql (.t 53) (.c (.str [39, 92, 110, 39]))⟩,
  ⟨(some 55), none, .pick (.t 52) (.t 54) (.c (.bool false))⟩,
  ⟨(some 4), none, .mov (.t 55)⟩])
 .ret)
 (.seq (.reg [⟨(some 57), none, .mov (.t 0)⟩,
  ⟨(some 58), none, .bin .eql (.t 57) (.c (.int .u8 39))⟩,
  ⟨(some 59), none, .mov (.t 58)⟩,
  ⟨(some 60), (some (59, false)), .mov (.t 0)⟩,
  ⟨(some 61), (some (59, false)), .bin .eql (.t 60) (.c (.int .u8 92))⟩,
  ⟨(some 62), none, .pick (.t 59) (.c (.bool true)) (.t 61)⟩,
  ⟨(some 56), none, .mov (.t 62)⟩])
 (.cond (.t 56) (.seq (.reg [⟨(some 63), none, .mov (.t 5)⟩,
  ⟨(some 64), none, .mov (.t 63)⟩,
  ⟨(some 65), (some (64, true)), .mov (.t 6)⟩,
  ⟨(some 66), (some (64, true)), .len 0 (.t 65)⟩,
  ⟨(some 67), (some (64, true)), .bin .eql (.t 66) (.c (.int .i64 4))⟩,
  ⟨(some 68), none, .pick (.t 64) (.t 67) (.c (.bool false))⟩,
  ⟨(some 69), none, .mov (.t 68)⟩,
  ⟨(some 70), (some (69, true)), .mov (.t 6)⟩,
  ⟨(some 71), (some (69, true)), .sindex (.t 70) (.c (.int .i64 1))⟩,
  ⟨(some 72), (some (69, true)), .bin .eql (.t 71) (.c (.int .u8 92))⟩,
  ⟨(some 73), none, .pick (.t 69) (.t 72) (.c (.bool false))⟩,
  ⟨(some 74), none, .mov (.t 73)⟩,
  ⟨(some 75), (some (74, true)), .mov (.t 6)⟩,
  ⟨(some 76), (some (74, true)), .sindex (.t 75) (.c (.int .i64 2))⟩,
  ⟨(some 77), (some (74, true)), .mov (.t 0)⟩,
  ⟨(some 78), (some (74, true)), .bin .eql (.t 76) (.t 77)⟩,
  ⟨(some 79), none, .pick (.t 74) (.t 78) (.c (.bool false))⟩,
  ⟨(some 4), none, .mov (.t 79)⟩])
 .ret)
 (.seq (.reg [⟨(some 81), none, .mov (.t 0)⟩,
  ⟨(some 82), none, .bin .geq (.t 81) (.c (.int .u8 32))⟩,
  ⟨(some 83), none, .mov (.t 82)⟩,
  ⟨(some 84), (some (83, true)), .mov (.t 0)⟩,
  ⟨(some 85), (some (83, true)), .bin .leq (.t 84) (.c (.int .u8 126))⟩,
  ⟨(some 86), none, .pick (.t 83) (.t 85) (.c (.bool false))⟩,
  ⟨(some 80), none, .mov (.t 86)⟩])
 (.cond (.t 80) (.seq (.reg [⟨(some 87), none, .mov (.t 5)⟩,
  ⟨(some 88), none, .mov (.t 87)⟩,
  ⟨(some 89), (some (88, true)), .mov (.t 6)⟩,
  ⟨(some 90), (some (88, true)), .len 0 (.t 89)⟩,
  ⟨(some 91), (some (88, true)), .bin .eql (.t 90) (.c (.int .i64 3))⟩,
  ⟨(some 92), none, .pick (.t 88) (.t 91) (.c (.bool false))⟩,
  ⟨(some 93), none, .mov (.t 92)⟩,
  ⟨(some 94), (some (93, true)), .mov (.t 6)⟩,
  ⟨(some 95), (some (93, true)), .sindex (.t 94) (.c (.int .i64 1))⟩,
  ⟨(some 96), (some (93, true)), .mov (.t 0)⟩,
  ⟨(some 97), (some (93, true)), .bin .eql (.t 95) (.t 96)⟩,
  ⟨(some 98), none, .pick (.t 93) (.t 97) (.c (.bool false))⟩,
  ⟨(some 99), none, .mov (.t 98)⟩,
  ⟨(some 100), (some (99, true)), .mov (.t 6)⟩,
  ⟨(some 101), (some (99, true)), .call 0 [] (.c (.fn 26 [])) [(.t 100)]⟩,
  ⟨(some 102), (some (99, true)), .not (.t 101)⟩,
  ⟨(some 103), none, .pick (.t 99) (.t 102) (.c (.bool false))⟩,
  ⟨(some 4), none, .mov (.t 103)⟩])
 .ret)
 .skip)))))))
 (.seq (.reg [⟨(some 104), none, .mov (.t 5)⟩,
  ⟨(some 105), none, .mov (.t 104)⟩,
  ⟨(some 106), (some (105, true)), .mov (.t 6)⟩,
  ⟨(some 107), (some (105, true)), .bin .eql (.t 106) (.c (.str [39, 63, 39]))⟩,
  ⟨(some 108), none, .pick (.t 105) (.t 107) (.c (.bool false))⟩,
  ⟨(some 4), none, .mov (.t 108)⟩])
 .ret))))))))),
  [.t 4], false, true, 109⟩
theorem co5 : compF Tryd.prog ⟨[], [], [], []⟩ false true Tryd.f5 = some ac5 := by kernel_rfl

/-- paideia/paideialaw23.first -/
def ac23 : AF := ⟨(.seq (.reg [⟨(some 0), none, .mov (.c (.bool false))⟩])
 (.seq (.reg [⟨(some 4), none, .call 0 [] (.c (.fn 29 [])) [(.c (.str [112, 114, 105, 109, 73, 110, 116, 65, 100, 100])), (.c (.int .i64 1)), (.c (.int .i64 2))]⟩,
  ⟨(some 3), none, .mov (.t 4)⟩,
  ⟨(some 5), none, .extract (.t 3) 0⟩,
  ⟨(some 6), none, .extract (.t 3) 1⟩,
  ⟨(some 1), none, .mov (.t 5)⟩,
  ⟨(some 2), none, .mov (.t 6)⟩])
 (.seq (.reg [⟨(some 7), none, .mov (.t 2)⟩,
  ⟨(some 8), none, .mov (.t 7)⟩,
  ⟨(some 9), (some (8, true)), .mov (.t 1)⟩,
  ⟨(some 10), (some (8, true)), .bin .eql (.t 9) (.c (.int .i64 3))⟩,
  ⟨(some 11), none, .pick (.t 8) (.t 10) (.c (.bool false))⟩,
  ⟨(some 0), none, .mov (.t 11)⟩])
 .ret))),
  [.t 0], false, true, 12⟩
theorem co23 : compF Tryd.prog ⟨[], [], [], []⟩ false true Tryd.f23 = some ac23 := by kernel_rfl

/-- paideia/prim.Quote -/
def ac24 : AF := ⟨(.seq (.reg [⟨(some 2), none, .mov (.c (.str []))⟩])
 (.seq (.reg [⟨(some 3), none, .mov (.t 0)⟩,
  ⟨(some 4), none, .conv (.int .i64) (.t 3)⟩,
  ⟨(some 5), none, .call 0 [] (.c (.fn 45 [])) [(.t 4)]⟩,
  ⟨(some 2), none, .mov (.t 5)⟩])
 .ret)),
  [.t 2], false, true, 6⟩
theorem co24 : compF Tryd.prog ⟨[], [], [], []⟩ false true Tryd.f24 = some ac24 := by kernel_rfl

/-- paideia/prim.Text -/
def ac25 : AF := ⟨(.seq (.reg [⟨(some 4), none, .mov (.c (.str []))⟩,
  ⟨(some 5), none, .mov (.c (.bool false))⟩])
 (.seq (.seq (.reg [⟨(some 6), none, .mov (.t 0)⟩])
 (.block 0 (.seq (.reg [⟨(some 8), none, .bin .eql (.t 6) (.c (.str [112, 114, 105, 109, 73, 110, 116, 83, 104, 111, 119]))⟩,
  ⟨(some 7), none, .mov (.t 8)⟩])
 (.cond (.t 7) (.seq (.reg [⟨(some 9), none, .mov (.t 1)⟩,
  ⟨(some 10), none, .call 0 [] (.c (.fn 46 [])) [(.t 9), (.c (.int .i64 10))]⟩,
  ⟨(some 4), none, .mov (.t 10)⟩,
  ⟨(some 5), none, .mov (.c (.bool true))⟩])
 .ret)
 (.seq (.reg [⟨(some 12), none, .bin .eql (.t 6) (.c (.str [112, 114, 105, 109, 67, 104, 97, 114, 83, 104, 111, 119]))⟩,
  ⟨(some 11), none, .mov (.t 12)⟩])
 (.cond (.t 11) (.seq (.reg [⟨(some 13), none, .mov (.t 1)⟩,
  ⟨(some 14), none, .conv (.int .u8) (.t 13)⟩,
  ⟨(some 15), none, .call 0 [] (.c (.fn 24 [])) [(.t 14)]⟩,
  ⟨(some 4), none, .mov (.t 15)⟩,
  ⟨(some 5), none, .mov (.c (.bool true))⟩])
 .ret)
 .skip))))))
 (.seq (.reg [⟨(some 4), none, .mov (.c (.str []))⟩,
  ⟨(some 5), none, .mov (.c (.bool false))⟩])
 .ret))),
  [.t 4, .t 5], false, true, 16⟩
theorem co25 : compF Tryd.prog ⟨[], [], [], []⟩ false true Tryd.f25 = some ac25 := by kernel_rfl

/-- paideia/paideiaref1.Reserved -/
def ac26 : AF := ⟨(.seq (.reg [⟨(some 2), none, .mov (.c (.bool false))⟩])
 (.seq (.reg [⟨(some 3), none, .call 0 [] (.c (.fn 48 [])) []⟩,
  ⟨(some 4), none, .mov (.t 0)⟩,
  ⟨(some 5), none, .call 0 [] (.c (.fn 47 [])) [(.t 3), (.t 4)]⟩,
  ⟨(some 2), none, .mov (.t 5)⟩])
 .ret)),
  [.t 2], false, true, 6⟩
theorem co26 : compF Tryd.prog ⟨[], [], [], []⟩ false true Tryd.f26 = some ac26 := by kernel_rfl

/-- paideia/prim.Number -/
def ac29 : AF := ⟨(.seq (.reg [⟨(some 6), none, .mov (.c (.int .i64 0))⟩,
  ⟨(some 7), none, .mov (.c (.bool false))⟩])
 (.seq (.seq (.reg [⟨(some 8), none, .mov (.t 0)⟩])
 (.block 0 (.seq (.reg [⟨(some 10), none, .bin .eql (.t 8) (.c (.str [112, 114, 105, 109, 73, 110, 116, 65, 100, 100]))⟩,
  ⟨(some 9), none, .mov (.t 10)⟩])
 (.cond (.t 9) (.seq (.reg [⟨(some 11), none, .mov (.t 1)⟩,
  ⟨(some 12), none, .mov (.t 2)⟩,
  ⟨(some 13), none, .bin .add (.t 11) (.t 12)⟩,
  ⟨(some 6), none, .mov (.t 13)⟩,
  ⟨(some 7), none, .mov (.c (.bool true))⟩])
 .ret)
 (.seq (.reg [⟨(some 15), none, .bin .eql (.t 8) (.c (.str [112, 114, 105, 109, 73, 110, 116, 83, 117, 98]))⟩,
  ⟨(some 14), none, .mov (.t 15)⟩])
 (.cond (.t 14) (.seq (.reg [⟨(some 16), none, .mov (.t 1)⟩,
  ⟨(some 17), none, .mov (.t 2)⟩,
  ⟨(some 18), none, .bin .sub (.t 16) (.t 17)⟩,
  ⟨(some 6), none, .mov (.t 18)⟩,
  ⟨(some 7), none, .mov (.c (.bool true))⟩])
 .ret)
 (.seq (.reg [⟨(some 20), none, .bin .eql (.t 8) (.c (.str [112, 114, 105, 109, 73, 110, 116, 77, 117, 108]))⟩,
  ⟨(some 19), none, .mov (.t 20)⟩])
 (.cond (.t 19) (.seq (.reg [⟨(some 21), none, .mov (.t 1)⟩,
  ⟨(some 22), none, .mov (.t 2)⟩,
  ⟨(some 23), none, .bin .mul (.t 21) (.t 22)⟩,
  ⟨(some 6), none, .mov (.t 23)⟩,
  ⟨(some 7), none, .mov (.c (.bool true))⟩])
 .ret)
 .skip))))))))
 (.seq (.reg [⟨(some 6), none, .mov (.c (.int .i64 0))⟩,
  ⟨(some 7), none, .mov (.c (.bool false))⟩])
 .ret))),
  [.t 6, .t 7], false, true, 24⟩
theorem co29 : compF Tryd.prog ⟨[], [], [], []⟩ false true Tryd.f29 = some ac29 := by kernel_rfl

/-- paideia/printer.Letter -/
def ac45 : AF := ⟨(.seq (.reg [⟨(some 2), none, .mov (.c (.str []))⟩])
 (.seq (.block 0 (.seq (.reg [⟨(some 4), none, .mov (.t 0)⟩,
  ⟨(some 5), none, .bin .eql (.t 4) (.c (.int .i64 10))⟩,
  ⟨(some 3), none, .mov (.t 5)⟩])
 (.cond (.t 3) (.seq (.reg [⟨(some 2), none, .mov (.c (.str [39, 92, 110, 39]))⟩])
 .ret)
 (.seq (.reg [⟨(some 7), none, .mov (.t 0)⟩,
  ⟨(some 8), none, .bin .eql (.t 7) (.c (.int .i64 39))⟩,
  ⟨(some 9), none, .mov (.t 8)⟩,
  ⟨(some 10), (some (9, false)), .mov (.t 0)⟩,
  ⟨(some 11), (some (9, false)), .bin .eql (.t 10) (.c (.int .i64 92))⟩,
  ⟨(some 12), none, .pick (.t 9) (.c (.bool true)) (.t 11)⟩,
  ⟨(some 6), none, .mov (.t 12)⟩])
 (.cond (.t 6) (.seq (.reg [⟨(some 13), none, .mov (.t 0)⟩,
  ⟨(some 14), none, .conv (.int .i32) (.t 13)⟩,
  ⟨(some 15), none, .conv .rune (.t 14)⟩,
  ⟨(some 16), none, .bin .add (.c (.str [39, 92])) (.t 15)⟩,
  ⟨(some 17), none, .bin .add (.t 16) (.c (.str [39]))⟩,
  ⟨(some 2), none, .mov (.t 17)⟩])
 .ret)
 (.seq (.reg [⟨(some 19), none, .mov (.t 0)⟩,
  ⟨(some 20), none, .bin .geq (.t 19) (.c (.int .i64 0))⟩,
  ⟨(some 21), none, .mov (.t 20)⟩,
  ⟨(some 22), (some (21, true)), .mov (.t 0)⟩,
  ⟨(some 23), (some (21, true)), .bin .leq (.t 22) (.c (.int .i64 126))⟩,
  ⟨(some 24), none, .pick (.t 21) (.t 23) (.c (.bool false))⟩,
  ⟨(some 25), none, .mov (.t 24)⟩,
  ⟨(some 26), (some (25, true)), .mov (.t 0)⟩,
  ⟨(some 27), (some (25, true)), .conv (.int .u8) (.t 26)⟩,
  ⟨(some 28), (some (25, true)), .call 0 [] (.c (.fn 59 [])) [(.t 27)]⟩,
  ⟨(some 29), none, .pick (.t 25) (.t 28) (.c (.bool false))⟩,
  ⟨(some 18), none, .mov (.t 29)⟩])
 (.cond (.t 18) (.seq (.reg [⟨(some 30), none, .mov (.t 0)⟩,
  ⟨(some 31), none, .conv (.int .i32) (.t 30)⟩,
  ⟨(some 32), none, .conv .rune (.t 31)⟩,
  ⟨(some 33), none, .bin .add (.c (.str [39])) (.t 32)⟩,
  ⟨(some 34), none, .bin .add (.t 33) (.c (.str [39]))⟩,
  ⟨(some 2), none, .mov (.t 34)⟩])
 .ret)
 .skip)))))))
 (.seq (.reg [⟨(some 2), none, .mov (.c (.str [39, 63, 39]))⟩])
 .ret))),
  [.t 2], false, true, 35⟩
theorem co45 : compF Tryd.prog ⟨[], [], [], []⟩ false true Tryd.f45 = some ac45 := by kernel_rfl

/-- paideia/paideiaref.Has -/
def ac47 : AF := ⟨(.seq (.reg [⟨(some 4), none, .mov (.c (.bool false))⟩])
 (.seq (.reg [⟨(some 5), none, .mov (.t 0)⟩,
  ⟨(some 6), none, .mov (.t 1)⟩,
  ⟨(some 7), none, .call 0 [] (.c (.fn 61 [])) [(.t 5), (.t 6)]⟩,
  ⟨(some 8), none, .bin .geq (.t 7) (.c (.int .i64 0))⟩,
  ⟨(some 4), none, .mov (.t 8)⟩])
 .ret)),
  [.t 4], false, true, 9⟩
theorem co47 : compF Tryd.prog ⟨[], [], [], []⟩ false true Tryd.f47 = some ac47 := by kernel_rfl

/-- paideia/paideiaref1.reserved -/
def ac48 : AF := ⟨(.seq (.reg [⟨(some 0), none, .mov (.c (.sl .clip []))⟩])
 (.seq (.reg [⟨(some 1), none, .bslice [(.str [])] 12 [(0, (.c (.str [100, 97, 116, 97]))), (1, (.c (.str [99, 108, 97, 115, 115]))), (2, (.c (.str [105, 110, 115, 116, 97, 110, 99, 101]))), (3, (.c (.str [119, 104, 101, 114, 101]))), (4, (.c (.str [108, 101, 116]))), (5, (.c (.str [105, 110]))), (6, (.c (.str [99, 97, 115, 101]))), (7, (.c (.str [111, 102]))), (8, (.c (.str [105, 102]))), (9, (.c (.str [116, 104, 101, 110]))), (10, (.c (.str [101, 108, 115, 101]))), (11, (.c (.str [100, 101, 114, 105, 118, 105, 110, 103])))]⟩,
  ⟨(some 0), none, .mov (.t 1)⟩])
 .ret)),
  [.t 0], false, true, 2⟩
theorem co48 : compF Tryd.prog ⟨[], [], [], []⟩ false true Tryd.f48 = some ac48 := by kernel_rfl

/-- paideia/lexer.Plain -/
def ac59 : AF := ⟨(.seq (.reg [⟨(some 2), none, .mov (.c (.bool false))⟩])
 (.seq (.reg [⟨(some 3), none, .mov (.t 0)⟩,
  ⟨(some 4), none, .bin .geq (.t 3) (.c (.int .u8 32))⟩,
  ⟨(some 5), none, .mov (.t 4)⟩,
  ⟨(some 6), (some (5, true)), .mov (.t 0)⟩,
  ⟨(some 7), (some (5, true)), .bin .leq (.t 6) (.c (.int .u8 126))⟩,
  ⟨(some 8), none, .pick (.t 5) (.t 7) (.c (.bool false))⟩,
  ⟨(some 9), none, .mov (.t 8)⟩,
  ⟨(some 10), (some (9, true)), .mov (.t 0)⟩,
  ⟨(some 11), (some (9, true)), .bin .neq (.t 10) (.c (.int .u8 39))⟩,
  ⟨(some 12), none, .pick (.t 9) (.t 11) (.c (.bool false))⟩,
  ⟨(some 13), none, .mov (.t 12)⟩,
  ⟨(some 14), (some (13, true)), .mov (.t 0)⟩,
  ⟨(some 15), (some (13, true)), .bin .neq (.t 14) (.c (.int .u8 92))⟩,
  ⟨(some 16), none, .pick (.t 13) (.t 15) (.c (.bool false))⟩,
  ⟨(some 2), none, .mov (.t 16)⟩])
 .ret)),
  [.t 2], false, true, 17⟩
theorem co59 : compF Tryd.prog ⟨[], [], [], []⟩ false true Tryd.f59 = some ac59 := by kernel_rfl

/-- paideia/paideiaref.Place -/
def ac61 : AF := ⟨(.seq (.reg [⟨(some 4), none, .mov (.c (.int .i64 0))⟩])
 (.seq (.seq (.reg [⟨(some 5), none, .mov (.c (.int .i64 0))⟩])
 (.block 0 (.loop [0, 1, 5] [] (.seq (.seq (.reg [⟨(some 6), none, .mov (.t 5)⟩,
  ⟨(some 7), none, .mov (.t 0)⟩,
  ⟨(some 8), none, .len 1 (.t 7)⟩,
  ⟨(some 9), none, .bin .lss (.t 6) (.t 8)⟩])
 (.cond (.t 9) .skip
 (.exit 0)))
 (.seq (.block 1 (.seq (.reg [⟨(some 12), none, .mov (.t 0)⟩,
  ⟨(some 13), none, .mov (.t 5)⟩,
  ⟨(some 14), none, .iaddr 1 (.t 12) (.t 13)⟩,
  ⟨(some 15), none, .load none (.t 14)⟩,
  ⟨(some 16), none, .mov (.t 1)⟩,
  ⟨(some 17), none, .bin .eql (.t 15) (.t 16)⟩])
 (.cond (.t 17) (.seq (.reg [⟨(some 18), none, .mov (.t 5)⟩,
  ⟨(some 4), none, .mov (.t 18)⟩])
 .ret)
 .skip)))
 (.reg [⟨(some 10), none, .mov (.t 5)⟩,
  ⟨(some 11), none, .bin .add (.t 10) (.c (.int .i64 1))⟩,
  ⟨(some 5), none, .mov (.t 11)⟩]))))))
 (.seq (.reg [⟨(some 4), none, .mov (.c (.int .i64 (-1)))⟩])
 .ret))),
  [.t 4], false, true, 19⟩
theorem co61 : compF Tryd.prog ⟨[], [(2, [0, 1, 5], [])], [], []⟩ false true Tryd.f61 = some ac61 := by kernel_rfl



def ap0 : AP := fun f vr => match f, vr with
  | 5, 0 => some (.code ac5)
  | 23, 0 => some (.code ac23)
  | 24, 0 => some (.code ac24)
  | 25, 0 => some (.code ac25)
  | 26, 0 => some (.code ac26)
  | 29, 0 => some (.code ac29)
  | 45, 0 => some (.code ac45)
  | 47, 0 => some (.code ac47)
  | 48, 0 => some (.code ac48)
  | 59, 0 => some (.code ac59)
  | 61, 0 => some (.code ac61)
  | _, _ => none

theorem table0 : TableOk Tryd.prog ap0 [] := by
  intro f vr fd h
  unfold ap0 at h
  split at h
  · cases h; exact ⟨_, _, Tryd.func5, co5, by decide⟩
  · cases h; exact ⟨_, _, Tryd.func23, co23, by decide⟩
  · cases h; exact ⟨_, _, Tryd.func24, co24, by decide⟩
  · cases h; exact ⟨_, _, Tryd.func25, co25, by decide⟩
  · cases h; exact ⟨_, _, Tryd.func26, co26, by decide⟩
  · cases h; exact ⟨_, _, Tryd.func29, co29, by decide⟩
  · cases h; exact ⟨_, _, Tryd.func45, co45, by decide⟩
  · cases h; exact ⟨_, _, Tryd.func47, co47, by decide⟩
  · cases h; exact ⟨_, _, Tryd.func48, co48, by decide⟩
  · cases h; exact ⟨_, _, Tryd.func59, co59, by decide⟩
  · cases h; exact ⟨_, _, Tryd.func61, co61, by decide⟩
  · cases h

def ap : AP := ap0
theorem tableOk : TableOk Tryd.prog ap [] := table0

end Go.Et
