/- The seat's functions on the abstract machine. -/
import Derived.Test.YtoachlegeiefaaaDoorAmQ
import Derived.Test.YtoachlegeiefaaaDoorAmE
import Derived.Test.YtoachlegeiefaaaDoorAmZ
import Derived.Test.YtoachlegeiefaaaDoorProg
namespace Go.Dt
open Go.Am Go.Proofs

set_option maxRecDepth 100000
/-- paideia/paideialaw23.PrimLaws -/
def ac8 : AF := ⟨(.seq (.reg [⟨(some 4), none, .mov (.c (.bool false))⟩])
 (.seq (.reg [⟨(some 24), none, .call 0 [] (.c (.fn 23 [])) []⟩,
  ⟨(some 5), none, .mov (.t 24)⟩])
 (.seq (.seq (.reg [⟨(some 25), none, .mov (.t 5)⟩,
  ⟨(some 26), none, .not (.t 25)⟩])
 (.cond (.t 26) (.seq (.reg [⟨(some 4), none, .mov (.c (.bool false))⟩])
 .ret)
 .skip))
 (.seq (.reg [⟨(some 28), none, .mov (.t 0)⟩,
  ⟨(some 29), none, .mov (.t 1)⟩,
  ⟨(some 30), none, .call 0 [] (.c (.fn 29 [])) [(.c (.str [112, 114, 105, 109, 73, 110, 116, 65, 100, 100])), (.t 28), (.t 29)]⟩,
  ⟨(some 27), none, .mov (.t 30)⟩,
  ⟨(some 31), none, .extract (.t 27) 0⟩,
  ⟨(some 32), none, .extract (.t 27) 1⟩,
  ⟨(some 6), none, .mov (.t 31)⟩,
  ⟨(some 7), none, .mov (.t 32)⟩])
 (.seq (.reg [⟨(some 34), none, .mov (.t 6)⟩,
  ⟨(some 35), none, .mov (.t 1)⟩,
  ⟨(some 36), none, .call 0 [] (.c (.fn 29 [])) [(.c (.str [112, 114, 105, 109, 73, 110, 116, 83, 117, 98])), (.t 34), (.t 35)]⟩,
  ⟨(some 33), none, .mov (.t 36)⟩,
  ⟨(some 37), none, .extract (.t 33) 0⟩,
  ⟨(some 38), none, .extract (.t 33) 1⟩,
  ⟨(some 8), none, .mov (.t 37)⟩,
  ⟨(some 9), none, .mov (.t 38)⟩])
 (.seq (.reg [⟨(some 40), none, .mov (.t 0)⟩,
  ⟨(some 41), none, .mov (.t 1)⟩,
  ⟨(some 42), none, .call 0 [] (.c (.fn 29 [])) [(.c (.str [112, 114, 105, 109, 73, 110, 116, 77, 117, 108])), (.t 40), (.t 41)]⟩,
  ⟨(some 39), none, .mov (.t 42)⟩,
  ⟨(some 43), none, .extract (.t 39) 0⟩,
  ⟨(some 44), none, .extract (.t 39) 1⟩,
  ⟨(some 10), none, .mov (.t 43)⟩,
  ⟨(some 11), none, .mov (.t 44)⟩])
 (.seq (.reg [⟨(some 46), none, .mov (.t 1)⟩,
  ⟨(some 47), none, .mov (.t 0)⟩,
  ⟨(some 48), none, .call 0 [] (.c (.fn 29 [])) [(.c (.str [112, 114, 105, 109, 73, 110, 116, 77, 117, 108])), (.t 46), (.t 47)]⟩,
  ⟨(some 45), none, .mov (.t 48)⟩,
  ⟨(some 49), none, .extract (.t 45) 0⟩,
  ⟨(some 50), none, .extract (.t 45) 1⟩,
  ⟨(some 12), none, .mov (.t 49)⟩,
  ⟨(some 13), none, .mov (.t 50)⟩])
 (.seq (.reg [⟨(some 52), none, .mov (.t 0)⟩,
  ⟨(some 53), none, .mov (.t 1)⟩,
  ⟨(some 54), none, .call 0 [] (.c (.fn 31 [])) [(.c (.str [112, 114, 105, 109, 73, 110, 116, 69, 113])), (.t 52), (.t 53)]⟩,
  ⟨(some 51), none, .mov (.t 54)⟩,
  ⟨(some 55), none, .extract (.t 51) 0⟩,
  ⟨(some 56), none, .extract (.t 51) 1⟩,
  ⟨(some 14), none, .mov (.t 55)⟩,
  ⟨(some 15), none, .mov (.t 56)⟩])
 (.seq (.reg [⟨(some 58), none, .mov (.t 0)⟩,
  ⟨(some 59), none, .mov (.t 1)⟩,
  ⟨(some 60), none, .call 0 [] (.c (.fn 31 [])) [(.c (.str [112, 114, 105, 109, 73, 110, 116, 76, 101, 115, 115])), (.t 58), (.t 59)]⟩,
  ⟨(some 57), none, .mov (.t 60)⟩,
  ⟨(some 61), none, .extract (.t 57) 0⟩,
  ⟨(some 62), none, .extract (.t 57) 1⟩,
  ⟨(some 16), none, .mov (.t 61)⟩,
  ⟨(some 17), none, .mov (.t 62)⟩])
 (.seq (.reg [⟨(some 64), none, .mov (.t 1)⟩,
  ⟨(some 65), none, .mov (.t 0)⟩,
  ⟨(some 66), none, .call 0 [] (.c (.fn 31 [])) [(.c (.str [112, 114, 105, 109, 73, 110, 116, 76, 101, 115, 115])), (.t 64), (.t 65)]⟩,
  ⟨(some 63), none, .mov (.t 66)⟩,
  ⟨(some 67), none, .extract (.t 63) 0⟩,
  ⟨(some 68), none, .extract (.t 63) 1⟩,
  ⟨(some 18), none, .mov (.t 67)⟩,
  ⟨(some 19), none, .mov (.t 68)⟩])
 (.seq (.reg [⟨(some 70), none, .mov (.t 0)⟩,
  ⟨(some 71), none, .mov (.t 1)⟩,
  ⟨(some 72), none, .call 0 [] (.c (.fn 29 [])) [(.c (.str [112, 114, 105, 109, 73, 110, 116, 69, 113])), (.t 70), (.t 71)]⟩,
  ⟨(some 69), none, .mov (.t 72)⟩,
  ⟨(some 73), none, .extract (.t 69) 0⟩,
  ⟨(some 74), none, .extract (.t 69) 1⟩,
  ⟨(some 20), none, .mov (.t 73)⟩,
  ⟨(some 21), none, .mov (.t 74)⟩])
 (.seq (.reg [⟨(some 76), none, .mov (.t 0)⟩,
  ⟨(some 77), none, .call 0 [] (.c (.fn 25 [])) [(.c (.str [112, 114, 105, 109, 73, 110, 116, 65, 100, 100])), (.t 76)]⟩,
  ⟨(some 75), none, .mov (.t 77)⟩,
  ⟨(some 78), none, .extract (.t 75) 0⟩,
  ⟨(some 79), none, .extract (.t 75) 1⟩,
  ⟨(some 22), none, .mov (.t 78)⟩,
  ⟨(some 23), none, .mov (.t 79)⟩])
 (.seq (.reg [⟨(some 80), none, .mov (.t 5)⟩,
  ⟨(some 81), none, .mov (.t 80)⟩,
  ⟨(some 82), (some (81, true)), .mov (.t 8)⟩,
  ⟨(some 83), (some (81, true)), .mov (.t 0)⟩,
  ⟨(some 84), (some (81, true)), .bin .eql (.t 82) (.t 83)⟩,
  ⟨(some 85), none, .pick (.t 81) (.t 84) (.c (.bool false))⟩,
  ⟨(some 86), none, .mov (.t 85)⟩,
  ⟨(some 87), (some (86, true)), .mov (.t 10)⟩,
  ⟨(some 88), (some (86, true)), .mov (.t 12)⟩,
  ⟨(some 89), (some (86, true)), .bin .eql (.t 87) (.t 88)⟩,
  ⟨(some 90), none, .pick (.t 86) (.t 89) (.c (.bool false))⟩,
  ⟨(some 91), none, .mov (.t 90)⟩,
  ⟨(some 92), (some (91, true)), .mov (.t 14)⟩,
  ⟨(some 93), (some (91, true)), .mov (.t 0)⟩,
  ⟨(some 94), (some (91, true)), .mov (.t 1)⟩,
  ⟨(some 95), (some (91, true)), .bin .eql (.t 93) (.t 94)⟩,
  ⟨(some 96), (some (91, true)), .eqb false (.t 92) (.t 95)⟩,
  ⟨(some 97), none, .pick (.t 91) (.t 96) (.c (.bool false))⟩,
  ⟨(some 98), none, .mov (.t 97)⟩,
  ⟨(some 99), (some (98, true)), .mov (.t 16)⟩,
  ⟨(some 100), (some (98, true)), .mov (.t 99)⟩,
  ⟨(some 101), (some (100, true)), .mov (.t 18)⟩,
  ⟨(some 102), (some (98, true)), .pick (.t 100) (.t 101) (.c (.bool false))⟩,
  ⟨(some 103), (some (98, true)), .not (.t 102)⟩,
  ⟨(some 104), none, .pick (.t 98) (.t 103) (.c (.bool false))⟩,
  ⟨(some 105), none, .mov (.t 104)⟩,
  ⟨(some 106), (some (105, true)), .mov (.t 14)⟩,
  ⟨(some 107), (some (105, true)), .mov (.t 16)⟩,
  ⟨(some 108), (some (105, true)), .not (.t 107)⟩,
  ⟨(some 109), (some (105, true)), .mov (.t 108)⟩,
  ⟨(some 110), (some (109, true)), .mov (.t 18)⟩,
  ⟨(some 111), (some (109, true)), .not (.t 110)⟩,
  ⟨(some 112), (some (105, true)), .pick (.t 109) (.t 111) (.c (.bool false))⟩,
  ⟨(some 113), (some (105, true)), .eqb false (.t 106) (.t 112)⟩,
  ⟨(some 114), none, .pick (.t 105) (.t 113) (.c (.bool false))⟩,
  ⟨(some 115), none, .mov (.t 114)⟩,
  ⟨(some 116), (some (115, true)), .mov (.t 21)⟩,
  ⟨(some 117), (some (115, true)), .not (.t 116)⟩,
  ⟨(some 118), none, .pick (.t 115) (.t 117) (.c (.bool false))⟩,
  ⟨(some 119), none, .mov (.t 118)⟩,
  ⟨(some 120), (some (119, true)), .mov (.t 20)⟩,
  ⟨(some 121), (some (119, true)), .bin .eql (.t 120) (.c (.int .i64 0))⟩,
  ⟨(some 122), none, .pick (.t 119) (.t 121) (.c (.bool false))⟩,
  ⟨(some 123), none, .mov (.t 122)⟩,
  ⟨(some 124), (some (123, true)), .mov (.t 23)⟩,
  ⟨(some 125), (some (123, true)), .not (.t 124)⟩,
  ⟨(some 126), none, .pick (.t 123) (.t 125) (.c (.bool false))⟩,
  ⟨(some 127), none, .mov (.t 126)⟩,
  ⟨(some 128), (some (127, true)), .mov (.t 22)⟩,
  ⟨(some 129), (some (127, true)), .bin .eql (.t 128) (.c (.str []))⟩,
  ⟨(some 130), none, .pick (.t 127) (.t 129) (.c (.bool false))⟩,
  ⟨(some 4), none, .mov (.t 130)⟩])
 .ret))))))))))))),
  [.t 4], false, true, 131⟩
theorem co8 : compF Tryd.prog ⟨[], [], [], []⟩ false true Tryd.f8 = some ac8 := by kernel_rfl

/-- paideia/paideialaw23.first -/
def ac23 : AF := ⟨(.seq (.reg [⟨(some 0), none, .mov (.c (.bool false))⟩])
 (.seq (.reg [⟨(some 4), none, .call 0 [] (.c (.fn 29 [])) [(.c (.str [112, 114, 105, 109, 73, 110, 116, 65, 100, 100])), (.c (.int .i64 1)), (.c (.int .i64 2))]⟩,
  ⟨(some 3), none, .mov (.t 4)⟩,
  ⟨(some 5), none, .extract (.t 3) 0⟩,
  ⟨(some 6), none, .extract (.t 3) 1⟩,
  ⟨(some 1), none, .mov (.t 5)⟩,
  ⟨(some 2), none, .mov (.t 6)⟩])
 (.seq (.reg [⟨(some 7), none, .mov (.t 2)⟩,
  ⟨(some 8), none, .mov (.t 7)⟩,
  ⟨(some 9), (some (8, true)), .mov (.t 1)⟩,
  ⟨(some 10), (some (8, true)), .bin .eql (.t 9) (.c (.int .i64 3))⟩,
  ⟨(some 11), none, .pick (.t 8) (.t 10) (.c (.bool false))⟩,
  ⟨(some 0), none, .mov (.t 11)⟩])
 .ret))),
  [.t 0], false, true, 12⟩
theorem co23 : compF Tryd.prog ⟨[], [], [], []⟩ false true Tryd.f23 = some ac23 := by kernel_rfl

/-- paideia/prim.Text -/
def ac25 : AF := ⟨(.seq (.reg [⟨(some 4), none, .mov (.c (.str []))⟩,
  ⟨(some 5), none, .mov (.c (.bool false))⟩])
 (.seq (.seq (.reg [⟨(some 6), none, .mov (.t 0)⟩])
 (.block 0 (.seq (.reg [⟨(some 8), none, .bin .eql (.t 6) (.c (.str [112, 114, 105, 109, 73, 110, 116, 83, 104, 111, 119]))⟩,
  ⟨(some 7), none, .mov (.t 8)⟩])
 (.cond (.t 7) (.seq (.reg [⟨(some 9), none, .mov (.t 1)⟩,
  ⟨(some 10), none, .call 0 [] (.c (.fn 46 [])) [(.t 9), (.c (.int .i64 10))]⟩,
  ⟨(some 4), none, .mov (.t 10)⟩,
  ⟨(some 5), none, .mov (.c (.bool true))⟩])
 .ret)
 (.seq (.reg [⟨(some 12), none, .bin .eql (.t 6) (.c (.str [112, 114, 105, 109, 67, 104, 97, 114, 83, 104, 111, 119]))⟩,
  ⟨(some 11), none, .mov (.t 12)⟩])
 (.cond (.t 11) (.seq (.reg [⟨(some 13), none, .mov (.t 1)⟩,
  ⟨(some 14), none, .conv (.int .u8) (.t 13)⟩,
  ⟨(some 15), none, .call 0 [] (.c (.fn 24 [])) [(.t 14)]⟩,
  ⟨(some 4), none, .mov (.t 15)⟩,
  ⟨(some 5), none, .mov (.c (.bool true))⟩])
 .ret)
 .skip))))))
 (.seq (.reg [⟨(some 4), none, .mov (.c (.str []))⟩,
  ⟨(some 5), none, .mov (.c (.bool false))⟩])
 .ret))),
  [.t 4, .t 5], false, true, 16⟩
theorem co25 : compF Tryd.prog ⟨[], [], [], []⟩ false true Tryd.f25 = some ac25 := by kernel_rfl

/-- paideia/prim.Number -/
def ac29 : AF := ⟨(.seq (.reg [⟨(some 6), none, .mov (.c (.int .i64 0))⟩,
  ⟨(some 7), none, .mov (.c (.bool false))⟩])
 (.seq (.seq (.reg [⟨(some 8), none, .mov (.t 0)⟩])
 (.block 0 (.seq (.reg [⟨(some 10), none, .bin .eql (.t 8) (.c (.str [112, 114, 105, 109, 73, 110, 116, 65, 100, 100]))⟩,
  ⟨(some 9), none, .mov (.t 10)⟩])
 (.cond (.t 9) (.seq (.reg [⟨(some 11), none, .mov (.t 1)⟩,
  ⟨(some 12), none, .mov (.t 2)⟩,
  ⟨(some 13), none, .bin .add (.t 11) (.t 12)⟩,
  ⟨(some 6), none, .mov (.t 13)⟩,
  ⟨(some 7), none, .mov (.c (.bool true))⟩])
 .ret)
 (.seq (.reg [⟨(some 15), none, .bin .eql (.t 8) (.c (.str [112, 114, 105, 109, 73, 110, 116, 83, 117, 98]))⟩,
  ⟨(some 14), none, .mov (.t 15)⟩])
 (.cond (.t 14) (.seq (.reg [⟨(some 16), none, .mov (.t 1)⟩,
  ⟨(some 17), none, .mov (.t 2)⟩,
  ⟨(some 18), none, .bin .sub (.t 16) (.t 17)⟩,
  ⟨(some 6), none, .mov (.t 18)⟩,
  ⟨(some 7), none, .mov (.c (.bool true))⟩])
 .ret)
 (.seq (.reg [⟨(some 20), none, .bin .eql (.t 8) (.c (.str [112, 114, 105, 109, 73, 110, 116, 77, 117, 108]))⟩,
  ⟨(some 19), none, .mov (.t 20)⟩])
 (.cond (.t 19) (.seq (.reg [⟨(some 21), none, .mov (.t 1)⟩,
  ⟨(some 22), none, .mov (.t 2)⟩,
  ⟨(some 23), none, .bin .mul (.t 21) (.t 22)⟩,
  ⟨(some 6), none, .mov (.t 23)⟩,
  ⟨(some 7), none, .mov (.c (.bool true))⟩])
 .ret)
 .skip))))))))
 (.seq (.reg [⟨(some 6), none, .mov (.c (.int .i64 0))⟩,
  ⟨(some 7), none, .mov (.c (.bool false))⟩])
 .ret))),
  [.t 6, .t 7], false, true, 24⟩
theorem co29 : compF Tryd.prog ⟨[], [], [], []⟩ false true Tryd.f29 = some ac29 := by kernel_rfl

/-- paideia/prim.Asks -/
def ac31 : AF := ⟨(.seq (.reg [⟨(some 6), none, .mov (.c (.bool false))⟩,
  ⟨(some 7), none, .mov (.c (.bool false))⟩])
 (.seq (.seq (.reg [⟨(some 8), none, .mov (.t 0)⟩])
 (.block 0 (.seq (.seq (.reg [⟨(some 10), none, .bin .eql (.t 8) (.c (.str [112, 114, 105, 109, 73, 110, 116, 69, 113]))⟩,
  ⟨(some 9), none, .mov (.t 10)⟩])
 (.cond (.t 9) .skip
 (.reg [⟨(some 11), none, .bin .eql (.t 8) (.c (.str [112, 114, 105, 109, 67, 104, 97, 114, 69, 113]))⟩,
  ⟨(some 9), none, .mov (.t 11)⟩])))
 (.cond (.t 9) (.seq (.reg [⟨(some 12), none, .mov (.t 1)⟩,
  ⟨(some 13), none, .mov (.t 2)⟩,
  ⟨(some 14), none, .bin .eql (.t 12) (.t 13)⟩,
  ⟨(some 6), none, .mov (.t 14)⟩,
  ⟨(some 7), none, .mov (.c (.bool true))⟩])
 .ret)
 (.seq (.seq (.reg [⟨(some 16), none, .bin .eql (.t 8) (.c (.str [112, 114, 105, 109, 73, 110, 116, 76, 101, 115, 115]))⟩,
  ⟨(some 15), none, .mov (.t 16)⟩])
 (.cond (.t 15) .skip
 (.reg [⟨(some 17), none, .bin .eql (.t 8) (.c (.str [112, 114, 105, 109, 67, 104, 97, 114, 76, 101, 115, 115]))⟩,
  ⟨(some 15), none, .mov (.t 17)⟩])))
 (.cond (.t 15) (.seq (.reg [⟨(some 18), none, .mov (.t 1)⟩,
  ⟨(some 19), none, .mov (.t 2)⟩,
  ⟨(some 20), none, .bin .lss (.t 18) (.t 19)⟩,
  ⟨(some 6), none, .mov (.t 20)⟩,
  ⟨(some 7), none, .mov (.c (.bool true))⟩])
 .ret)
 .skip))))))
 (.seq (.reg [⟨(some 6), none, .mov (.c (.bool false))⟩,
  ⟨(some 7), none, .mov (.c (.bool false))⟩])
 .ret))),
  [.t 6, .t 7], false, true, 21⟩
theorem co31 : compF Tryd.prog ⟨[], [], [], []⟩ false true Tryd.f31 = some ac31 := by kernel_rfl



def ap0 : AP := fun f vr => match f, vr with
  | 8, 0 => some (.code ac8)
  | 23, 0 => some (.code ac23)
  | 25, 0 => some (.code ac25)
  | 29, 0 => some (.code ac29)
  | 31, 0 => some (.code ac31)
  | _, _ => none

theorem table0 : TableOk Tryd.prog ap0 [] := by
  intro f vr fd h
  unfold ap0 at h
  split at h
  · cases h; exact ⟨_, _, Tryd.func8, co8, by decide⟩
  · cases h; exact ⟨_, _, Tryd.func23, co23, by decide⟩
  · cases h; exact ⟨_, _, Tryd.func25, co25, by decide⟩
  · cases h; exact ⟨_, _, Tryd.func29, co29, by decide⟩
  · cases h; exact ⟨_, _, Tryd.func31, co31, by decide⟩
  · cases h

def ap : AP := ap0
theorem tableOk : TableOk Tryd.prog ap [] := table0

end Go.Dt
