/- The seat's functions on the abstract machine. -/
import Derived.Test.YtoachlegeiefaaaAmQ
import Derived.Test.YtoachlegeiefaaaAmE
import Derived.Test.YtoachlegeiefaaaAmZ
import Derived.Test.YtoachlegeiefaaaProg
namespace Go.Bt
open Go.Am Go.Proofs

set_option maxRecDepth 100000
/-- paideia/paideialaw4.TypesFuns -/
def ac3 : AF := ⟨(.seq (.reg [⟨(some 4), none, .mov (.c (.bool false))⟩])
 (.seq (.reg [⟨(some 15), none, .call 0 [] (.c (.fn 6 [])) []⟩,
  ⟨(some 5), none, .mov (.t 15)⟩])
 (.seq (.seq (.reg [⟨(some 16), none, .mov (.t 5)⟩,
  ⟨(some 17), none, .not (.t 16)⟩])
 (.cond (.t 17) (.seq (.reg [⟨(some 4), none, .mov (.c (.bool false))⟩])
 .ret)
 .skip))
 (.seq (.seq (.reg [⟨(some 18), none, .mov (.t 0)⟩,
  ⟨(some 19), none, .len 1 (.t 18)⟩,
  ⟨(some 20), none, .bin .gtr (.t 19) (.c (.int .i64 100))⟩])
 (.cond (.t 20) (.seq (.reg [⟨(some 21), none, .mov (.t 5)⟩,
  ⟨(some 4), none, .mov (.t 21)⟩])
 .ret)
 .skip))
 (.seq (.reg [⟨(some 22), none, .mov (.t 1)⟩,
  ⟨(some 23), none, .bin .rem (.t 22) (.c (.int .i64 8))⟩,
  ⟨(some 24), none, .bin .add (.t 23) (.c (.int .i64 8))⟩,
  ⟨(some 25), none, .bin .rem (.t 24) (.c (.int .i64 8))⟩,
  ⟨(some 1), none, .mov (.t 25)⟩])
 (.seq (.reg [⟨(some 26), none, .mov (.t 0)⟩,
  ⟨(some 27), none, .build [(.sl .clip []), (.int .i64 0)] [(0, 1, (.t 26))]⟩,
  ⟨(some 28), none, .box (.t 27) 2 true⟩,
  ⟨(some 6), none, .mov (.t 28)⟩])
 (.seq (.reg [⟨(some 7), none, .mov (.c (.sl .clip []))⟩])
 (.seq (.reg [⟨(some 8), none, .mov (.c (.int .i64 0))⟩])
 (.seq (.seq (.reg [⟨(some 9), none, .mov (.c (.int .i64 0))⟩])
 (.block 0 (.loop [1, 5, 6, 7, 8, 9] [] (.seq (.seq (.reg [⟨(some 29), none, .mov (.t 9)⟩,
  ⟨(some 30), none, .mov (.t 1)⟩,
  ⟨(some 31), none, .bin .leq (.t 29) (.t 30)⟩])
 (.cond (.t 31) .skip
 (.exit 0)))
 (.seq (.block 1 (.seq (.reg [⟨(some 34), none, .mov (.t 6)⟩,
  ⟨(some 35), none, .call 0 [] (.c (.fn 7 [])) [(.t 34), (.c (.int .i64 2))]⟩,
  ⟨(some 10), none, .alloc [(.int .i64 0), (.str []), (.sl .clip [])] false⟩,
  ⟨none, none, .store 3 (.t 10) (.t 35)⟩])
 (.seq (.seq (.reg [⟨(some 36), none, .mov (.t 9)⟩,
  ⟨(some 37), none, .mov (.t 1)⟩,
  ⟨(some 38), none, .bin .eql (.t 36) (.t 37)⟩,
  ⟨(some 39), none, .mov (.t 38)⟩,
  ⟨(some 40), (some (39, true)), .faddr 0 (.t 10)⟩,
  ⟨(some 41), (some (39, true)), .load none (.t 40)⟩,
  ⟨(some 42), (some (39, true)), .bin .eql (.t 41) (.c (.int .i64 3))⟩,
  ⟨(some 43), none, .pick (.t 39) (.t 42) (.c (.bool false))⟩])
 (.cond (.t 43) (.reg [⟨(some 44), none, .load (some 3) (.t 10)⟩,
  ⟨(some 45), none, .bslice [(.int .i64 0), (.str []), (.sl .clip [])] 1 [(0, (.t 44))]⟩,
  ⟨(some 46), none, .call 0 [] (.c (.fn 8 [])) [(.c (.str [76, 105, 115, 116])), (.t 45)]⟩,
  ⟨none, none, .store 3 (.t 10) (.t 46)⟩])
 .skip))
 (.seq (.reg [⟨(some 47), none, .mov (.t 7)⟩,
  ⟨(some 48), none, .load (some 3) (.t 10)⟩,
  ⟨(some 49), none, .bslice [(.int .i64 0), (.str []), (.sl .clip [])] 1 [(0, (.t 48))]⟩,
  ⟨(some 50), none, .append 3 (.t 47) (.t 49)⟩,
  ⟨(some 7), none, .mov (.t 50)⟩])
 (.reg [⟨(some 51), none, .mov (.t 8)⟩,
  ⟨(some 52), none, .load (some 3) (.t 10)⟩,
  ⟨(some 53), none, .call 0 [] (.c (.fn 9 [])) [(.t 52)]⟩,
  ⟨(some 54), none, .bin .add (.t 51) (.t 53)⟩,
  ⟨(some 8), none, .mov (.t 54)⟩])))))
 (.reg [⟨(some 32), none, .mov (.t 9)⟩,
  ⟨(some 33), none, .bin .add (.t 32) (.c (.int .i64 1))⟩,
  ⟨(some 9), none, .mov (.t 33)⟩]))))))
 (.seq (.reg [⟨(some 55), none, .mov (.t 7)⟩,
  ⟨(some 56), none, .call 0 [] (.c (.fn 10 [])) [(.t 55)]⟩,
  ⟨(some 11), none, .alloc [(.int .i64 0), (.str []), (.sl .clip [])] false⟩,
  ⟨none, none, .store 3 (.t 11) (.t 56)⟩])
 (.seq (.reg [⟨(some 58), none, .load (some 3) (.t 11)⟩,
  ⟨(some 59), none, .call 0 [] (.c (.fn 11 [])) [(.t 58)]⟩,
  ⟨(some 57), none, .mov (.t 59)⟩,
  ⟨(some 60), none, .extract (.t 57) 0⟩,
  ⟨(some 61), none, .extract (.t 57) 1⟩,
  ⟨(some 13), none, .alloc [(.int .i64 0), (.str []), (.sl .clip [])] false⟩,
  ⟨(some 12), none, .mov (.t 60)⟩,
  ⟨none, none, .store 3 (.t 13) (.t 61)⟩])
 (.seq (.reg [⟨(some 62), none, .call 0 [] (.c (.fn 10 [])) [(.c (.sl .clip []))]⟩,
  ⟨(some 14), none, .alloc [(.int .i64 0), (.str []), (.sl .clip [])] false⟩,
  ⟨none, none, .store 3 (.t 14) (.t 62)⟩])
 (.seq (.reg [⟨(some 63), none, .mov (.t 5)⟩,
  ⟨(some 64), none, .mov (.t 63)⟩,
  ⟨(some 65), (some (64, true)), .mov (.t 12)⟩,
  ⟨(some 66), (some (64, true)), .mov (.t 7)⟩,
  ⟨(some 67), (some (64, true)), .mov (.t 1)⟩,
  ⟨(some 68), (some (64, true)), .slice 3 (.t 66) none (some (.t 67)) none⟩,
  ⟨(some 69), (some (64, true)), .call 0 [] (.c (.fn 12 [])) [(.t 65), (.t 68)]⟩,
  ⟨(some 70), none, .pick (.t 64) (.t 69) (.c (.bool false))⟩,
  ⟨(some 71), none, .mov (.t 70)⟩,
  ⟨(some 72), (some (71, true)), .load (some 3) (.t 13)⟩,
  ⟨(some 73), (some (71, true)), .mov (.t 7)⟩,
  ⟨(some 74), (some (71, true)), .mov (.t 1)⟩,
  ⟨(some 75), (some (71, true)), .iaddr 3 (.t 73) (.t 74)⟩,
  ⟨(some 76), (some (71, true)), .load (some 3) (.t 75)⟩,
  ⟨(some 77), (some (71, true)), .call 0 [] (.c (.fn 13 [])) [(.t 72), (.t 76)]⟩,
  ⟨(some 78), none, .pick (.t 71) (.t 77) (.c (.bool false))⟩,
  ⟨(some 79), none, .mov (.t 78)⟩,
  ⟨(some 80), (some (79, true)), .load (some 3) (.t 11)⟩,
  ⟨(some 81), (some (79, true)), .call 0 [] (.c (.fn 9 [])) [(.t 80)]⟩,
  ⟨(some 82), (some (79, true)), .mov (.t 8)⟩,
  ⟨(some 83), (some (79, true)), .mov (.t 1)⟩,
  ⟨(some 84), (some (79, true)), .bin .add (.t 82) (.t 83)⟩,
  ⟨(some 85), (some (79, true)), .bin .eql (.t 81) (.t 84)⟩,
  ⟨(some 86), none, .pick (.t 79) (.t 85) (.c (.bool false))⟩,
  ⟨(some 87), none, .mov (.t 86)⟩,
  ⟨(some 88), (some (87, true)), .faddr 0 (.t 14)⟩,
  ⟨(some 89), (some (87, true)), .load none (.t 88)⟩,
  ⟨(some 90), (some (87, true)), .bin .eql (.t 89) (.c (.int .i64 2))⟩,
  ⟨(some 91), none, .pick (.t 87) (.t 90) (.c (.bool false))⟩,
  ⟨(some 92), none, .mov (.t 91)⟩,
  ⟨(some 93), (some (92, true)), .faddr 1 (.t 14)⟩,
  ⟨(some 94), (some (92, true)), .load none (.t 93)⟩,
  ⟨(some 95), (some (92, true)), .bin .eql (.t 94) (.c (.str [85, 110, 105, 116]))⟩,
  ⟨(some 96), none, .pick (.t 92) (.t 95) (.c (.bool false))⟩,
  ⟨(some 97), none, .mov (.t 96)⟩,
  ⟨(some 98), (some (97, true)), .mov (.t 7)⟩,
  ⟨(some 99), (some (97, true)), .mov (.t 1)⟩,
  ⟨(some 100), (some (97, true)), .iaddr 3 (.t 98) (.t 99)⟩,
  ⟨(some 101), (some (97, true)), .load (some 3) (.t 100)⟩,
  ⟨(some 102), (some (97, true)), .bslice [(.int .i64 0), (.str []), (.sl .clip [])] 1 [(0, (.t 101))]⟩,
  ⟨(some 103), (some (97, true)), .call 0 [] (.c (.fn 10 [])) [(.t 102)]⟩,
  ⟨(some 104), (some (97, true)), .mov (.t 7)⟩,
  ⟨(some 105), (some (97, true)), .mov (.t 1)⟩,
  ⟨(some 106), (some (97, true)), .iaddr 3 (.t 104) (.t 105)⟩,
  ⟨(some 107), (some (97, true)), .loadL (some 3) (.t 106)⟩,
  ⟨(some 108), (some (97, true)), .call 0 [] (.c (.fn 13 [])) [(.t 103), (.t 107)]⟩,
  ⟨(some 109), none, .pick (.t 97) (.t 108) (.c (.bool false))⟩,
  ⟨(some 4), none, .mov (.t 109)⟩])
 .ret))))))))))))),
  [.t 4], false, true, 110⟩
theorem co3 : compF Try.prog ⟨[28], [(11, [1, 5, 6, 7, 8, 9], [])], []⟩ false true Try.f3 = some ac3 := by kernel_rfl

/-- paideia/paideialaw4.first -/
def ac6 : AF := ⟨(.seq (.reg [⟨(some 0), none, .mov (.c (.bool false))⟩])
 (.seq (.reg [⟨(some 3), none, .call 0 [] (.c (.fn 25 [])) [(.c (.str [97]))]⟩,
  ⟨(some 1), none, .alloc [(.int .i64 0), (.str []), (.sl .clip [])] false⟩,
  ⟨none, none, .store 3 (.t 1) (.t 3)⟩])
 (.seq (.reg [⟨(some 4), none, .load (some 3) (.t 1)⟩,
  ⟨(some 5), none, .load (some 3) (.t 1)⟩,
  ⟨(some 6), none, .bslice [(.int .i64 0), (.str []), (.sl .clip [])] 2 [(0, (.t 4)), (1, (.t 5))]⟩,
  ⟨(some 7), none, .call 0 [] (.c (.fn 10 [])) [(.t 6)]⟩,
  ⟨(some 8), none, .bslice [(.int .i64 0), (.str []), (.sl .clip [])] 1 [(0, (.t 7))]⟩,
  ⟨(some 9), none, .call 0 [] (.c (.fn 16 [])) [(.t 8)]⟩,
  ⟨(some 2), none, .mov (.t 9)⟩])
 (.seq (.reg [⟨(some 10), none, .mov (.t 2)⟩,
  ⟨(some 11), none, .len 1 (.t 10)⟩,
  ⟨(some 12), none, .bin .eql (.t 11) (.c (.int .i64 1))⟩,
  ⟨(some 13), none, .mov (.t 12)⟩,
  ⟨(some 14), (some (13, true)), .mov (.t 2)⟩,
  ⟨(some 15), (some (13, true)), .iaddr 1 (.t 14) (.c (.int .i64 0))⟩,
  ⟨(some 16), (some (13, true)), .load none (.t 15)⟩,
  ⟨(some 17), (some (13, true)), .bin .eql (.t 16) (.c (.str [97]))⟩,
  ⟨(some 18), none, .pick (.t 13) (.t 17) (.c (.bool false))⟩,
  ⟨(some 0), none, .mov (.t 18)⟩])
 .ret)))),
  [.t 0], false, true, 19⟩
theorem co6 : compF Try.prog ⟨[], [], []⟩ false true Try.f6 = some ac6 := by kernel_rfl

/-- paideia/paideiamake.Type -/
def ac7 : AF := ⟨(.seq (.reg [⟨(some 4), none, .alloc [(.int .i64 0), (.str []), (.sl .clip [])] false⟩])
 (.seq (.reg [⟨(some 8), none, .mov (.t 0)⟩,
  ⟨(some 9), none, .call 0 [] (.c (.fn 26 [])) [(.t 8), (.c (.int .i64 9))]⟩,
  ⟨(some 5), none, .mov (.t 9)⟩])
 (.seq (.seq (.reg [⟨(some 10), none, .mov (.t 1)⟩,
  ⟨(some 11), none, .bin .lss (.t 10) (.c (.int .i64 1))⟩])
 (.cond (.t 11) (.reg [⟨(some 12), none, .mov (.t 5)⟩,
  ⟨(some 13), none, .bin .rem (.t 12) (.c (.int .i64 5))⟩,
  ⟨(some 5), none, .mov (.t 13)⟩])
 .skip))
 (.seq (.seq (.reg [⟨(some 14), none, .mov (.t 5)⟩])
 (.block 0 (.seq (.seq (.reg [⟨(some 16), none, .bin .eql (.t 14) (.c (.int .i64 0))⟩,
  ⟨(some 15), none, .mov (.t 16)⟩])
 (.cond (.t 15) .skip
 (.seq (.reg [⟨(some 17), none, .bin .eql (.t 14) (.c (.int .i64 1))⟩,
  ⟨(some 15), none, .mov (.t 17)⟩])
 (.cond (.t 15) .skip
 (.reg [⟨(some 18), none, .bin .eql (.t 14) (.c (.int .i64 2))⟩,
  ⟨(some 15), none, .mov (.t 18)⟩])))))
 (.cond (.t 15) (.seq (.reg [⟨(some 19), none, .bslice [(.str [])] 3 [(0, (.c (.str [97]))), (1, (.c (.str [98]))), (2, (.c (.str [99])))]⟩,
  ⟨(some 20), none, .mov (.t 5)⟩,
  ⟨(some 21), none, .iaddr 1 (.t 19) (.t 20)⟩,
  ⟨(some 22), none, .load none (.t 21)⟩,
  ⟨(some 23), none, .call 0 [] (.c (.fn 27 [])) [(.t 22)]⟩,
  ⟨none, none, .store 3 (.t 4) (.t 23)⟩])
 .ret)
 (.seq (.reg [⟨(some 25), none, .bin .eql (.t 14) (.c (.int .i64 3))⟩,
  ⟨(some 24), none, .mov (.t 25)⟩])
 (.cond (.t 24) (.seq (.reg [⟨(some 26), none, .call 0 [] (.c (.fn 28 [])) [(.c (.str [73, 110, 116])), (.c (.sl .clip []))]⟩,
  ⟨none, none, .store 3 (.t 4) (.t 26)⟩])
 .ret)
 (.seq (.reg [⟨(some 28), none, .bin .eql (.t 14) (.c (.int .i64 4))⟩,
  ⟨(some 27), none, .mov (.t 28)⟩])
 (.cond (.t 27) (.seq (.reg [⟨(some 29), none, .call 0 [] (.c (.fn 28 [])) [(.c (.str [66, 111, 111, 108])), (.c (.sl .clip []))]⟩,
  ⟨none, none, .store 3 (.t 4) (.t 29)⟩])
 .ret)
 (.seq (.reg [⟨(some 31), none, .bin .eql (.t 14) (.c (.int .i64 5))⟩,
  ⟨(some 30), none, .mov (.t 31)⟩])
 (.cond (.t 30) (.seq (.reg [⟨(some 32), none, .mov (.t 0)⟩,
  ⟨(some 33), none, .mov (.t 1)⟩,
  ⟨(some 34), none, .bin .sub (.t 33) (.c (.int .i64 1))⟩,
  ⟨(some 35), none, .call 0 [] (.c (.fn 7 [])) [(.t 32), (.t 34)]⟩,
  ⟨(some 36), none, .bslice [(.int .i64 0), (.str []), (.sl .clip [])] 1 [(0, (.t 35))]⟩,
  ⟨(some 37), none, .call 0 [] (.c (.fn 28 [])) [(.c (.str [76, 105, 115, 116])), (.t 36)]⟩,
  ⟨none, none, .store 3 (.t 4) (.t 37)⟩])
 .ret)
 (.seq (.reg [⟨(some 39), none, .bin .eql (.t 14) (.c (.int .i64 6))⟩,
  ⟨(some 38), none, .mov (.t 39)⟩])
 (.cond (.t 38) (.seq (.reg [⟨(some 40), none, .mov (.t 0)⟩,
  ⟨(some 41), none, .mov (.t 1)⟩,
  ⟨(some 42), none, .bin .sub (.t 41) (.c (.int .i64 1))⟩,
  ⟨(some 43), none, .call 0 [] (.c (.fn 7 [])) [(.t 40), (.t 42)]⟩,
  ⟨(some 6), none, .alloc [(.int .i64 0), (.str []), (.sl .clip [])] false⟩,
  ⟨none, none, .store 3 (.t 6) (.t 43)⟩])
 (.seq (.reg [⟨(some 44), none, .loadL (some 3) (.t 6)⟩,
  ⟨(some 45), none, .mov (.t 0)⟩,
  ⟨(some 46), none, .mov (.t 1)⟩,
  ⟨(some 47), none, .bin .sub (.t 46) (.c (.int .i64 1))⟩,
  ⟨(some 48), none, .call 0 [] (.c (.fn 7 [])) [(.t 45), (.t 47)]⟩,
  ⟨(some 49), none, .bslice [(.int .i64 0), (.str []), (.sl .clip [])] 2 [(0, (.t 44)), (1, (.t 48))]⟩,
  ⟨(some 50), none, .call 0 [] (.c (.fn 28 [])) [(.c (.str [80, 97, 105, 114])), (.t 49)]⟩,
  ⟨none, none, .store 3 (.t 4) (.t 50)⟩])
 .ret))
 .skip))))))))))))
 (.seq (.reg [⟨(some 51), none, .mov (.t 0)⟩,
  ⟨(some 52), none, .mov (.t 1)⟩,
  ⟨(some 53), none, .bin .sub (.t 52) (.c (.int .i64 1))⟩,
  ⟨(some 54), none, .call 0 [] (.c (.fn 7 [])) [(.t 51), (.t 53)]⟩,
  ⟨(some 7), none, .alloc [(.int .i64 0), (.str []), (.sl .clip [])] false⟩,
  ⟨none, none, .store 3 (.t 7) (.t 54)⟩])
 (.seq (.reg [⟨(some 55), none, .loadL (some 3) (.t 7)⟩,
  ⟨(some 56), none, .mov (.t 0)⟩,
  ⟨(some 57), none, .mov (.t 1)⟩,
  ⟨(some 58), none, .bin .sub (.t 57) (.c (.int .i64 1))⟩,
  ⟨(some 59), none, .call 0 [] (.c (.fn 7 [])) [(.t 56), (.t 58)]⟩,
  ⟨(some 60), none, .call 0 [] (.c (.fn 29 [])) [(.t 55), (.t 59)]⟩,
  ⟨none, none, .store 3 (.t 4) (.t 60)⟩])
 .ret)))))),
  [.cell 4 (some 3)], false, true, 61⟩
theorem co7 : compF Try.prog ⟨[], [], []⟩ false true Try.f7 = some ac7 := by kernel_rfl

/-- paideia/types.Con -/
def ac8 : AF := ⟨(.seq (.reg [⟨(some 4), none, .alloc [(.int .i64 0), (.str []), (.sl .clip [])] false⟩])
 (.seq (.reg [⟨(some 5), none, .mov (.t 0)⟩,
  ⟨(some 6), none, .mov (.t 1)⟩,
  ⟨(some 7), none, .call 0 [] (.c (.fn 30 [])) [(.t 6)]⟩,
  ⟨(some 8), none, .build [(.int .i64 0), (.str []), (.sl .clip [])] [(0, 1, (.c (.int .i64 2))), (1, 1, (.t 5)), (2, 1, (.t 7))]⟩,
  ⟨none, none, .store 3 (.t 4) (.t 8)⟩])
 .ret)),
  [.cell 4 (some 3)], false, true, 9⟩
theorem co8 : compF Try.prog ⟨[], [], []⟩ false true Try.f8 = some ac8 := by kernel_rfl

/-- paideia/types.Size -/
def ac9 : AF := ⟨(.seq (.reg [⟨(some 1), none, .box (.t 0) 3 false⟩,
  ⟨(some 2), none, .mov (.c (.int .i64 0))⟩])
 (.seq (.reg [⟨(some 3), none, .mov (.c (.int .i64 1))⟩])
 (.seq (.seq (.reg [⟨(some 6), none, .faddr 2 (.t 1)⟩,
  ⟨(some 7), none, .load none (.t 6)⟩,
  ⟨(some 8), none, .len 1 (.t 7)⟩,
  ⟨(some 9), none, .mov (.c (.int .i64 0))⟩])
 (.block 0 (.loop [3, 7, 8, 9] [] (.seq (.reg [⟨(some 10), none, .bin .lss (.t 9) (.t 8)⟩])
 (.seq (.cond (.t 10) .skip
 (.exit 0))
 (.seq (.block 1 (.seq (.reg [⟨(some 11), none, .iaddr 3 (.t 7) (.t 9)⟩,
  ⟨(some 12), none, .load (some 3) (.t 11)⟩,
  ⟨(some 5), none, .alloc [(.int .i64 0), (.str []), (.sl .clip [])] false⟩,
  ⟨none, none, .store 3 (.t 5) (.t 12)⟩])
 (.reg [⟨(some 13), none, .mov (.t 3)⟩,
  ⟨(some 14), none, .load (some 3) (.t 5)⟩,
  ⟨(some 15), none, .call 0 [] (.c (.fn 9 [])) [(.t 14)]⟩,
  ⟨(some 16), none, .bin .add (.t 13) (.t 15)⟩,
  ⟨(some 3), none, .mov (.t 16)⟩])))
 (.reg [⟨(some 17), none, .bin .add (.t 9) (.c (.int .i64 1))⟩,
  ⟨(some 9), none, .mov (.t 17)⟩])))))))
 (.seq (.reg [⟨(some 18), none, .mov (.t 3)⟩,
  ⟨(some 2), none, .mov (.t 18)⟩])
 .ret)))),
  [.t 2], false, true, 19⟩
theorem co9 : compF Try.prog ⟨[], [(3, [3, 7, 8, 9], [])], []⟩ false true Try.f9 = some ac9 := by kernel_rfl

/-- paideia/types.Fun -/
def ac10 : AF := ⟨(.seq (.reg [⟨(some 2), none, .alloc [(.int .i64 0), (.str []), (.sl .clip [])] false⟩])
 (.seq (.seq (.reg [⟨(some 5), none, .mov (.t 0)⟩,
  ⟨(some 6), none, .len 1 (.t 5)⟩,
  ⟨(some 7), none, .bin .eql (.t 6) (.c (.int .i64 0))⟩])
 (.cond (.t 7) (.seq (.reg [⟨(some 8), none, .call 0 [] (.c (.fn 8 [])) [(.c (.str [85, 110, 105, 116])), (.c (.sl .clip []))]⟩,
  ⟨none, none, .store 3 (.t 2) (.t 8)⟩])
 .ret)
 .skip))
 (.seq (.reg [⟨(some 9), none, .mov (.t 0)⟩,
  ⟨(some 10), none, .mov (.t 0)⟩,
  ⟨(some 11), none, .len 1 (.t 10)⟩,
  ⟨(some 12), none, .bin .sub (.t 11) (.c (.int .i64 1))⟩,
  ⟨(some 13), none, .iaddr 3 (.t 9) (.t 12)⟩,
  ⟨(some 14), none, .load (some 3) (.t 13)⟩,
  ⟨(some 3), none, .alloc [(.int .i64 0), (.str []), (.sl .clip [])] false⟩,
  ⟨none, none, .store 3 (.t 3) (.t 14)⟩])
 (.seq (.seq (.reg [⟨(some 15), none, .mov (.t 0)⟩,
  ⟨(some 16), none, .len 1 (.t 15)⟩,
  ⟨(some 17), none, .bin .sub (.t 16) (.c (.int .i64 2))⟩,
  ⟨(some 4), none, .mov (.t 17)⟩])
 (.block 0 (.loop [0, 4] [2, 3] (.seq (.seq (.reg [⟨(some 18), none, .mov (.t 4)⟩,
  ⟨(some 19), none, .bin .geq (.t 18) (.c (.int .i64 0))⟩])
 (.cond (.t 19) .skip
 (.exit 0)))
 (.seq (.block 1 (.reg [⟨(some 22), none, .mov (.t 0)⟩,
  ⟨(some 23), none, .mov (.t 4)⟩,
  ⟨(some 24), none, .iaddr 3 (.t 22) (.t 23)⟩,
  ⟨(some 25), none, .load (some 3) (.t 24)⟩,
  ⟨(some 26), none, .load (some 3) (.t 3)⟩,
  ⟨(some 27), none, .bslice [(.int .i64 0), (.str []), (.sl .clip [])] 2 [(0, (.t 25)), (1, (.t 26))]⟩,
  ⟨(some 28), none, .build [(.int .i64 0), (.str []), (.sl .clip [])] [(0, 1, (.c (.int .i64 3))), (2, 1, (.t 27))]⟩,
  ⟨none, none, .store 3 (.t 3) (.t 28)⟩]))
 (.reg [⟨(some 20), none, .mov (.t 4)⟩,
  ⟨(some 21), none, .bin .sub (.t 20) (.c (.int .i64 1))⟩,
  ⟨(some 4), none, .mov (.t 21)⟩]))))))
 (.seq (.reg [⟨(some 29), none, .load (some 3) (.t 3)⟩,
  ⟨none, none, .store 3 (.t 2) (.t 29)⟩])
 .ret))))),
  [.cell 2 (some 3)], false, true, 30⟩
theorem co10 : compF Try.prog ⟨[], [(5, [0, 4], [2, 3])], []⟩ false true Try.f10 = some ac10 := by kernel_rfl

/-- paideia/types.Parts -/
def ac11 : AF := ⟨(.seq (.reg [⟨(some 1), none, .box (.t 0) 3 false⟩,
  ⟨(some 2), none, .mov (.c (.sl .clip []))⟩,
  ⟨(some 3), none, .alloc [(.int .i64 0), (.str []), (.sl .clip [])] false⟩])
 (.seq (.reg [⟨(some 4), none, .mov (.c (.sl .clip []))⟩])
 (.seq (.block 0 (.loop [4] [1, 3] (.seq (.seq (.reg [⟨(some 5), none, .faddr 0 (.t 1)⟩,
  ⟨(some 6), none, .load none (.t 5)⟩,
  ⟨(some 7), none, .bin .eql (.t 6) (.c (.int .i64 3))⟩,
  ⟨(some 8), none, .mov (.t 7)⟩,
  ⟨(some 9), (some (8, true)), .faddr 2 (.t 1)⟩,
  ⟨(some 10), (some (8, true)), .load none (.t 9)⟩,
  ⟨(some 11), (some (8, true)), .len 1 (.t 10)⟩,
  ⟨(some 12), (some (8, true)), .bin .eql (.t 11) (.c (.int .i64 2))⟩,
  ⟨(some 13), none, .pick (.t 8) (.t 12) (.c (.bool false))⟩])
 (.cond (.t 13) .skip
 (.exit 0)))
 (.block 1 (.seq (.reg [⟨(some 14), none, .mov (.t 4)⟩,
  ⟨(some 15), none, .faddr 2 (.t 1)⟩,
  ⟨(some 16), none, .load none (.t 15)⟩,
  ⟨(some 17), none, .iaddr 3 (.t 16) (.c (.int .i64 0))⟩,
  ⟨(some 18), none, .load (some 3) (.t 17)⟩,
  ⟨(some 19), none, .call 0 [] (.c (.fn 31 [])) [(.t 18)]⟩,
  ⟨(some 20), none, .bslice [(.int .i64 0), (.str []), (.sl .clip [])] 1 [(0, (.t 19))]⟩,
  ⟨(some 21), none, .append 3 (.t 14) (.t 20)⟩,
  ⟨(some 4), none, .mov (.t 21)⟩])
 (.reg [⟨(some 22), none, .faddr 2 (.t 1)⟩,
  ⟨(some 23), none, .load none (.t 22)⟩,
  ⟨(some 24), none, .iaddr 3 (.t 23) (.c (.int .i64 1))⟩,
  ⟨(some 25), none, .load (some 3) (.t 24)⟩,
  ⟨none, none, .store 3 (.t 1) (.t 25)⟩]))))))
 (.seq (.reg [⟨(some 26), none, .mov (.t 4)⟩,
  ⟨(some 27), none, .load (some 3) (.t 1)⟩,
  ⟨(some 28), none, .call 0 [] (.c (.fn 31 [])) [(.t 27)]⟩,
  ⟨(some 2), none, .mov (.t 26)⟩,
  ⟨none, none, .store 3 (.t 3) (.t 28)⟩])
 .ret)))),
  [.t 2, .cell 3 (some 3)], false, true, 29⟩
theorem co11 : compF Try.prog ⟨[], [(2, [4], [1, 3])], []⟩ false true Try.f11 = some ac11 := by kernel_rfl

/-- paideia/paideiaref.SameTypes -/
def ac12 : AF := ⟨(.seq (.reg [⟨(some 4), none, .mov (.c (.bool false))⟩])
 (.seq (.seq (.reg [⟨(some 7), none, .mov (.t 0)⟩,
  ⟨(some 8), none, .len 1 (.t 7)⟩,
  ⟨(some 9), none, .mov (.t 1)⟩,
  ⟨(some 10), none, .len 1 (.t 9)⟩,
  ⟨(some 11), none, .bin .neq (.t 8) (.t 10)⟩])
 (.cond (.t 11) (.seq (.reg [⟨(some 4), none, .mov (.c (.bool false))⟩])
 .ret)
 .skip))
 (.seq (.seq (.reg [⟨(some 5), none, .mov (.c (.int .i64 0))⟩])
 (.block 0 (.loop [0, 1, 5] [] (.seq (.seq (.reg [⟨(some 12), none, .mov (.t 5)⟩,
  ⟨(some 13), none, .mov (.t 0)⟩,
  ⟨(some 14), none, .len 1 (.t 13)⟩,
  ⟨(some 15), none, .bin .lss (.t 12) (.t 14)⟩])
 (.cond (.t 15) .skip
 (.exit 0)))
 (.seq (.block 1 (.seq (.reg [⟨(some 18), none, .mov (.t 0)⟩,
  ⟨(some 19), none, .mov (.t 5)⟩,
  ⟨(some 20), none, .iaddr 3 (.t 18) (.t 19)⟩,
  ⟨(some 21), none, .load (some 3) (.t 20)⟩,
  ⟨(some 22), none, .mov (.t 1)⟩,
  ⟨(some 23), none, .mov (.t 5)⟩,
  ⟨(some 24), none, .iaddr 3 (.t 22) (.t 23)⟩,
  ⟨(some 25), none, .load (some 3) (.t 24)⟩,
  ⟨(some 26), none, .call 0 [] (.c (.fn 24 [])) [(.t 21), (.t 25)]⟩,
  ⟨(some 6), none, .mov (.t 26)⟩])
 (.seq (.reg [⟨(some 27), none, .mov (.t 6)⟩,
  ⟨(some 28), none, .not (.t 27)⟩])
 (.cond (.t 28) (.seq (.reg [⟨(some 4), none, .mov (.c (.bool false))⟩])
 .ret)
 .skip))))
 (.reg [⟨(some 16), none, .mov (.t 5)⟩,
  ⟨(some 17), none, .bin .add (.t 16) (.c (.int .i64 1))⟩,
  ⟨(some 5), none, .mov (.t 17)⟩]))))))
 (.seq (.reg [⟨(some 4), none, .mov (.c (.bool true))⟩])
 .ret)))),
  [.t 4], false, true, 29⟩
theorem co12 : compF Try.prog ⟨[], [(4, [0, 1, 5], [])], []⟩ false true Try.f12 = some ac12 := by kernel_rfl

/-- paideia/types.Same -/
def ac13 : AF := ⟨(.seq (.reg [⟨(some 2), none, .box (.t 0) 3 false⟩,
  ⟨(some 3), none, .box (.t 1) 3 false⟩,
  ⟨(some 4), none, .mov (.c (.bool false))⟩])
 (.seq (.reg [⟨(some 5), none, .load (some 3) (.t 2)⟩,
  ⟨(some 6), none, .load (some 3) (.t 3)⟩,
  ⟨(some 7), none, .call 0 [] (.c (.fn 22 [])) [(.t 5), (.t 6)]⟩,
  ⟨(some 8), none, .bin .eql (.t 7) (.c (.int .i64 0))⟩,
  ⟨(some 4), none, .mov (.t 8)⟩])
 .ret)),
  [.t 4], false, true, 9⟩
theorem co13 : compF Try.prog ⟨[], [], []⟩ false true Try.f13 = some ac13 := by kernel_rfl

/-- paideia/types.Vars -/
def ac16 : AF := ⟨(.seq (.reg [⟨(some 2), none, .mov (.c (.sl .clip []))⟩])
 (.seq (.reg [⟨(some 3), none, .mov (.c (.sl .clip []))⟩])
 (.seq (.seq (.reg [⟨(some 6), none, .mov (.t 0)⟩,
  ⟨(some 7), none, .len 1 (.t 6)⟩,
  ⟨(some 8), none, .mov (.c (.int .i64 0))⟩])
 (.block 0 (.loop [3, 6, 7, 8] [] (.seq (.reg [⟨(some 9), none, .bin .lss (.t 8) (.t 7)⟩])
 (.seq (.cond (.t 9) .skip
 (.exit 0))
 (.seq (.block 1 (.seq (.reg [⟨(some 10), none, .iaddr 3 (.t 6) (.t 8)⟩,
  ⟨(some 11), none, .load (some 3) (.t 10)⟩,
  ⟨(some 5), none, .alloc [(.int .i64 0), (.str []), (.sl .clip [])] false⟩,
  ⟨none, none, .store 3 (.t 5) (.t 11)⟩])
 (.reg [⟨(some 12), none, .load (some 3) (.t 5)⟩,
  ⟨(some 13), none, .mov (.t 3)⟩,
  ⟨(some 14), none, .call 0 [2] (.c (.fn 34 [])) [(.t 12), (.c (.sl .clip [])), (.t 13)]⟩,
  ⟨(some 3), none, .mov (.t 14)⟩])))
 (.reg [⟨(some 15), none, .bin .add (.t 8) (.c (.int .i64 1))⟩,
  ⟨(some 8), none, .mov (.t 15)⟩])))))))
 (.seq (.reg [⟨(some 16), none, .mov (.t 3)⟩,
  ⟨(some 2), none, .mov (.t 16)⟩])
 .ret)))),
  [.t 2], false, true, 17⟩
theorem co16 : compF Try.prog ⟨[], [(3, [3, 6, 7, 8], [])], [(34, 0, [2])]⟩ false true Try.f16 = some ac16 := by kernel_rfl

/-- paideia/types.Compare -/
def ac22 : AF := ⟨(.seq (.reg [⟨(some 2), none, .box (.t 0) 3 false⟩,
  ⟨(some 3), none, .box (.t 1) 3 false⟩,
  ⟨(some 4), none, .mov (.c (.int .i64 0))⟩])
 (.seq (.reg [⟨(some 5), none, .faddr 0 (.t 2)⟩,
  ⟨(some 6), none, .load none (.t 5)⟩,
  ⟨(some 7), none, .faddr 0 (.t 3)⟩,
  ⟨(some 8), none, .load none (.t 7)⟩,
  ⟨(some 9), none, .call 0 [] (.c (.fn 40 [])) [(.t 6), (.t 8)]⟩,
  ⟨(some 10), none, .faddr 1 (.t 2)⟩,
  ⟨(some 11), none, .loadL none (.t 10)⟩,
  ⟨(some 12), none, .faddr 1 (.t 3)⟩,
  ⟨(some 13), none, .loadL none (.t 12)⟩,
  ⟨(some 14), none, .call 0 [] (.c (.fn 41 [])) [(.t 11), (.t 13)]⟩,
  ⟨(some 15), none, .faddr 2 (.t 2)⟩,
  ⟨(some 16), none, .loadL none (.t 15)⟩,
  ⟨(some 17), none, .len 1 (.t 16)⟩,
  ⟨(some 18), none, .faddr 2 (.t 3)⟩,
  ⟨(some 19), none, .loadL none (.t 18)⟩,
  ⟨(some 20), none, .len 1 (.t 19)⟩,
  ⟨(some 21), none, .call 0 [] (.c (.fn 40 [])) [(.t 17), (.t 20)]⟩,
  ⟨(some 22), none, .faddr 2 (.t 2)⟩,
  ⟨(some 23), none, .loadL none (.t 22)⟩,
  ⟨(some 24), none, .faddr 2 (.t 3)⟩,
  ⟨(some 25), none, .loadL none (.t 24)⟩,
  ⟨(some 26), none, .call 0 [] (.c (.fn 42 [])) [(.t 23), (.t 25), (.c (.fn 22 []))]⟩,
  ⟨(some 27), none, .bslice [(.int .i64 0)] 4 [(0, (.t 9)), (1, (.t 14)), (2, (.t 21)), (3, (.t 26))]⟩,
  ⟨(some 28), none, .call 0 [] (.c (.fn 39 [])) [(.t 27)]⟩,
  ⟨(some 4), none, .mov (.t 28)⟩])
 .ret)),
  [.t 4], false, true, 29⟩
theorem co22 : compF Try.prog ⟨[], [], []⟩ false true Try.f22 = some ac22 := by kernel_rfl

/-- paideia/paideiaref.SameType -/
def ac24 : AF := ⟨(.seq (.reg [⟨(some 2), none, .box (.t 0) 3 false⟩,
  ⟨(some 3), none, .box (.t 1) 3 false⟩,
  ⟨(some 4), none, .mov (.c (.bool false))⟩])
 (.seq (.reg [⟨(some 5), none, .faddr 0 (.t 2)⟩,
  ⟨(some 6), none, .load none (.t 5)⟩,
  ⟨(some 7), none, .faddr 0 (.t 3)⟩,
  ⟨(some 8), none, .load none (.t 7)⟩,
  ⟨(some 9), none, .bin .eql (.t 6) (.t 8)⟩,
  ⟨(some 10), none, .mov (.t 9)⟩,
  ⟨(some 11), (some (10, true)), .faddr 1 (.t 2)⟩,
  ⟨(some 12), (some (10, true)), .load none (.t 11)⟩,
  ⟨(some 13), (some (10, true)), .faddr 1 (.t 3)⟩,
  ⟨(some 14), (some (10, true)), .load none (.t 13)⟩,
  ⟨(some 15), (some (10, true)), .bin .eql (.t 12) (.t 14)⟩,
  ⟨(some 16), none, .pick (.t 10) (.t 15) (.c (.bool false))⟩,
  ⟨(some 17), none, .mov (.t 16)⟩,
  ⟨(some 18), (some (17, true)), .faddr 2 (.t 2)⟩,
  ⟨(some 19), (some (17, true)), .load none (.t 18)⟩,
  ⟨(some 20), (some (17, true)), .faddr 2 (.t 3)⟩,
  ⟨(some 21), (some (17, true)), .load none (.t 20)⟩,
  ⟨(some 22), (some (17, true)), .call 0 [] (.c (.fn 12 [])) [(.t 19), (.t 21)]⟩,
  ⟨(some 23), none, .pick (.t 17) (.t 22) (.c (.bool false))⟩,
  ⟨(some 4), none, .mov (.t 23)⟩])
 .ret)),
  [.t 4], false, true, 24⟩
theorem co24 : compF Try.prog ⟨[], [], []⟩ false true Try.f24 = some ac24 := by kernel_rfl

/-- paideia/types.Var -/
def ac25 : AF := ⟨(.seq (.reg [⟨(some 2), none, .alloc [(.int .i64 0), (.str []), (.sl .clip [])] false⟩])
 (.seq (.reg [⟨(some 3), none, .mov (.t 0)⟩,
  ⟨(some 4), none, .build [(.int .i64 0), (.str []), (.sl .clip [])] [(0, 1, (.c (.int .i64 1))), (1, 1, (.t 3))]⟩,
  ⟨none, none, .store 3 (.t 2) (.t 4)⟩])
 .ret)),
  [.cell 2 (some 3)], false, true, 5⟩
theorem co25 : compF Try.prog ⟨[], [], []⟩ false true Try.f25 = some ac25 := by kernel_rfl

/-- (*paideia/paideiamake.Seq).Next -/
def ac26 : AF := ⟨(.seq (.reg [⟨(some 4), none, .mov (.c (.int .i64 0))⟩])
 (.seq (.reg [⟨(some 5), none, .mov (.c (.int .i64 0))⟩])
 (.seq (.seq (.reg [⟨(some 6), none, .mov (.t 0)⟩,
  ⟨(some 7), none, .nilck (.t 6)⟩,
  ⟨(some 8), none, .faddr 1 (.t 7)⟩,
  ⟨(some 9), none, .load none (.t 8)⟩,
  ⟨(some 10), none, .mov (.t 0)⟩,
  ⟨(some 11), none, .nilck (.t 10)⟩,
  ⟨(some 12), none, .faddr 0 (.t 11)⟩,
  ⟨(some 13), none, .load none (.t 12)⟩,
  ⟨(some 14), none, .len 1 (.t 13)⟩,
  ⟨(some 15), none, .bin .lss (.t 9) (.t 14)⟩])
 (.cond (.t 15) (.reg [⟨(some 16), none, .mov (.t 0)⟩,
  ⟨(some 17), none, .nilck (.t 16)⟩,
  ⟨(some 18), none, .faddr 0 (.t 17)⟩,
  ⟨(some 19), none, .load none (.t 18)⟩,
  ⟨(some 20), none, .mov (.t 0)⟩,
  ⟨(some 21), none, .nilck (.t 20)⟩,
  ⟨(some 22), none, .faddr 1 (.t 21)⟩,
  ⟨(some 23), none, .load none (.t 22)⟩,
  ⟨(some 24), none, .iaddr 1 (.t 19) (.t 23)⟩,
  ⟨(some 25), none, .load none (.t 24)⟩,
  ⟨(some 5), none, .mov (.t 25)⟩])
 .skip))
 (.seq (.reg [⟨(some 26), none, .mov (.t 0)⟩,
  ⟨(some 27), none, .mov (.t 0)⟩,
  ⟨(some 28), none, .nilck (.t 27)⟩,
  ⟨(some 29), none, .faddr 1 (.t 28)⟩,
  ⟨(some 30), none, .load none (.t 29)⟩,
  ⟨(some 31), none, .bin .add (.t 30) (.c (.int .i64 1))⟩,
  ⟨(some 32), none, .nilck (.t 26)⟩,
  ⟨(some 33), none, .faddr 1 (.t 32)⟩,
  ⟨none, none, .store 1 (.t 33) (.t 31)⟩])
 (.seq (.reg [⟨(some 34), none, .mov (.t 5)⟩,
  ⟨(some 35), none, .mov (.t 1)⟩,
  ⟨(some 36), none, .call 0 [] (.c (.fn 44 [])) [(.t 34), (.t 35)]⟩,
  ⟨(some 4), none, .mov (.t 36)⟩])
 .ret))))),
  [.t 4], false, true, 37⟩
theorem co26 : compF Try.prog ⟨[], [], []⟩ false true Try.f26 = some ac26 := by kernel_rfl

/-- paideia/paideiaref4.Var -/
def ac27 : AF := ⟨(.seq (.reg [⟨(some 2), none, .alloc [(.int .i64 0), (.str []), (.sl .clip [])] false⟩])
 (.seq (.reg [⟨(some 3), none, .mov (.t 0)⟩,
  ⟨(some 4), none, .build [(.int .i64 0), (.str []), (.sl .clip [])] [(0, 1, (.c (.int .i64 1))), (1, 1, (.t 3))]⟩,
  ⟨none, none, .store 3 (.t 2) (.t 4)⟩])
 .ret)),
  [.cell 2 (some 3)], false, true, 5⟩
theorem co27 : compF Try.prog ⟨[], [], []⟩ false true Try.f27 = some ac27 := by kernel_rfl

/-- paideia/paideiaref4.Con -/
def ac28 : AF := ⟨(.seq (.reg [⟨(some 4), none, .alloc [(.int .i64 0), (.str []), (.sl .clip [])] false⟩])
 (.seq (.reg [⟨(some 5), none, .mov (.t 0)⟩,
  ⟨(some 6), none, .mov (.t 1)⟩,
  ⟨(some 7), none, .build [(.int .i64 0), (.str []), (.sl .clip [])] [(0, 1, (.c (.int .i64 2))), (1, 1, (.t 5)), (2, 1, (.t 6))]⟩,
  ⟨none, none, .store 3 (.t 4) (.t 7)⟩])
 .ret)),
  [.cell 4 (some 3)], false, true, 8⟩
theorem co28 : compF Try.prog ⟨[], [], []⟩ false true Try.f28 = some ac28 := by kernel_rfl

/-- paideia/paideiaref4.Fun2 -/
def ac29 : AF := ⟨(.seq (.reg [⟨(some 2), none, .box (.t 0) 3 false⟩,
  ⟨(some 3), none, .box (.t 1) 3 false⟩,
  ⟨(some 4), none, .alloc [(.int .i64 0), (.str []), (.sl .clip [])] false⟩])
 (.seq (.reg [⟨(some 5), none, .load (some 3) (.t 2)⟩,
  ⟨(some 6), none, .load (some 3) (.t 3)⟩,
  ⟨(some 7), none, .bslice [(.int .i64 0), (.str []), (.sl .clip [])] 2 [(0, (.t 5)), (1, (.t 6))]⟩,
  ⟨(some 8), none, .build [(.int .i64 0), (.str []), (.sl .clip [])] [(0, 1, (.c (.int .i64 3))), (2, 1, (.t 7))]⟩,
  ⟨none, none, .store 3 (.t 4) (.t 8)⟩])
 .ret)),
  [.cell 4 (some 3)], false, true, 9⟩
theorem co29 : compF Try.prog ⟨[], [], []⟩ false true Try.f29 = some ac29 := by kernel_rfl

/-- slices.Clone[[]paideia/api.Type,paideia/api.Type] -/
def ac30 : AF := ⟨(.seq (.reg [⟨(some 2), none, .mov (.c (.sl .clip []))⟩])
 (.seq (.seq (.reg [⟨(some 3), none, .mov (.t 0)⟩,
  ⟨(some 4), none, .nilsl false (.t 3)⟩])
 (.cond (.t 4) (.seq (.reg [⟨(some 2), none, .mov (.c (.sl .clip []))⟩])
 .ret)
 .skip))
 (.seq (.reg [⟨(some 5), none, .bslice [(.int .i64 0), (.str []), (.sl .clip [])] 0 []⟩,
  ⟨(some 6), none, .mov (.t 0)⟩,
  ⟨(some 7), none, .append 3 (.t 5) (.t 6)⟩,
  ⟨(some 2), none, .mov (.t 7)⟩])
 .ret))),
  [.t 2], false, true, 8⟩
theorem co30 : compF Try.prog ⟨[], [], []⟩ false true Try.f30 = some ac30 := by kernel_rfl

/-- paideia/types.Clone -/
def ac31 : AF := ⟨(.seq (.reg [⟨(some 1), none, .box (.t 0) 3 false⟩,
  ⟨(some 2), none, .alloc [(.int .i64 0), (.str []), (.sl .clip [])] false⟩])
 (.seq (.reg [⟨(some 6), none, .faddr 0 (.t 1)⟩,
  ⟨(some 7), none, .load none (.t 6)⟩,
  ⟨(some 8), none, .faddr 1 (.t 1)⟩,
  ⟨(some 9), none, .load none (.t 8)⟩,
  ⟨(some 10), none, .build [(.int .i64 0), (.str []), (.sl .clip [])] [(0, 1, (.t 7)), (1, 1, (.t 9))]⟩,
  ⟨(some 3), none, .alloc [(.int .i64 0), (.str []), (.sl .clip [])] false⟩,
  ⟨none, none, .store 3 (.t 3) (.t 10)⟩])
 (.seq (.seq (.reg [⟨(some 11), none, .faddr 2 (.t 1)⟩,
  ⟨(some 12), none, .load none (.t 11)⟩,
  ⟨(some 13), none, .len 1 (.t 12)⟩,
  ⟨(some 14), none, .mov (.c (.int .i64 0))⟩])
 (.block 0 (.loop [12, 13, 14] [2, 3] (.seq (.reg [⟨(some 15), none, .bin .lss (.t 14) (.t 13)⟩])
 (.seq (.cond (.t 15) .skip
 (.exit 0))
 (.seq (.block 1 (.seq (.reg [⟨(some 16), none, .iaddr 3 (.t 12) (.t 14)⟩,
  ⟨(some 17), none, .load (some 3) (.t 16)⟩,
  ⟨(some 5), none, .alloc [(.int .i64 0), (.str []), (.sl .clip [])] false⟩,
  ⟨none, none, .store 3 (.t 5) (.t 17)⟩])
 (.reg [⟨(some 18), none, .faddr 2 (.t 3)⟩,
  ⟨(some 19), none, .loadL none (.t 18)⟩,
  ⟨(some 20), none, .load (some 3) (.t 5)⟩,
  ⟨(some 21), none, .call 0 [] (.c (.fn 31 [])) [(.t 20)]⟩,
  ⟨(some 22), none, .bslice [(.int .i64 0), (.str []), (.sl .clip [])] 1 [(0, (.t 21))]⟩,
  ⟨(some 23), none, .append 3 (.t 19) (.t 22)⟩,
  ⟨(some 24), none, .faddr 2 (.t 3)⟩,
  ⟨none, none, .store 1 (.t 24) (.t 23)⟩])))
 (.reg [⟨(some 25), none, .bin .add (.t 14) (.c (.int .i64 1))⟩,
  ⟨(some 14), none, .mov (.t 25)⟩])))))))
 (.seq (.reg [⟨(some 26), none, .load (some 3) (.t 3)⟩,
  ⟨none, none, .store 3 (.t 2) (.t 26)⟩])
 .ret)))),
  [.cell 2 (some 3)], false, true, 27⟩
theorem co31 : compF Try.prog ⟨[], [(3, [12, 13, 14], [2, 3])], []⟩ false true Try.f31 = some ac31 := by kernel_rfl

/-- paideia/types.free -/
def ac34 : AF := ⟨(.seq (.reg [⟨(some 3), none, .box (.t 0) 3 false⟩,
  ⟨(some 6), none, .mov (.c (.sl .clip []))⟩])
 (.seq (.seq (.reg [⟨(some 9), none, .faddr 0 (.t 3)⟩,
  ⟨(some 10), none, .load none (.t 9)⟩])
 (.block 0 (.seq (.reg [⟨(some 12), none, .bin .eql (.t 10) (.c (.int .i64 1))⟩,
  ⟨(some 11), none, .mov (.t 12)⟩])
 (.cond (.t 11) (.seq (.reg [⟨(some 13), none, .mov (.t 1)⟩,
  ⟨(some 14), none, .faddr 1 (.t 3)⟩,
  ⟨(some 15), none, .load none (.t 14)⟩,
  ⟨(some 16), none, .call 0 [] (.c (.fn 45 [])) [(.t 13), (.t 15)]⟩,
  ⟨(some 17), none, .not (.t 16)⟩,
  ⟨(some 18), none, .mov (.t 17)⟩,
  ⟨(some 19), (some (18, true)), .mov (.t 2)⟩,
  ⟨(some 20), (some (18, true)), .faddr 1 (.t 3)⟩,
  ⟨(some 21), (some (18, true)), .load none (.t 20)⟩,
  ⟨(some 22), (some (18, true)), .call 0 [] (.c (.fn 45 [])) [(.t 19), (.t 21)]⟩,
  ⟨(some 23), (some (18, true)), .not (.t 22)⟩,
  ⟨(some 24), none, .pick (.t 18) (.t 23) (.c (.bool false))⟩])
 (.cond (.t 24) (.reg [⟨(some 25), none, .mov (.t 2)⟩,
  ⟨(some 26), none, .faddr 1 (.t 3)⟩,
  ⟨(some 27), none, .load none (.t 26)⟩,
  ⟨(some 28), none, .bslice [(.str [])] 1 [(0, (.t 27))]⟩,
  ⟨(some 29), none, .append 1 (.t 25) (.t 28)⟩,
  ⟨(some 2), none, .mov (.t 29)⟩])
 .skip))
 (.seq (.reg [⟨(some 31), none, .bin .eql (.t 10) (.c (.int .i64 4))⟩,
  ⟨(some 30), none, .mov (.t 31)⟩])
 (.cond (.t 30) (.reg [⟨(some 32), none, .mov (.t 1)⟩,
  ⟨(some 33), none, .call 0 [] (.c (.fn 46 [])) [(.t 32)]⟩,
  ⟨(some 34), none, .faddr 1 (.t 3)⟩,
  ⟨(some 35), none, .loadL none (.t 34)⟩,
  ⟨(some 36), none, .bslice [(.str [])] 1 [(0, (.t 35))]⟩,
  ⟨(some 37), none, .append 1 (.t 33) (.t 36)⟩,
  ⟨(some 1), none, .mov (.t 37)⟩])
 .skip))))))
 (.seq (.seq (.reg [⟨(some 38), none, .faddr 2 (.t 3)⟩,
  ⟨(some 39), none, .load none (.t 38)⟩,
  ⟨(some 40), none, .len 1 (.t 39)⟩,
  ⟨(some 41), none, .mov (.c (.int .i64 0))⟩])
 (.block 1 (.loop [1, 2, 39, 40, 41] [] (.seq (.reg [⟨(some 42), none, .bin .lss (.t 41) (.t 40)⟩])
 (.seq (.cond (.t 42) .skip
 (.exit 1))
 (.seq (.block 2 (.seq (.reg [⟨(some 43), none, .iaddr 3 (.t 39) (.t 41)⟩,
  ⟨(some 44), none, .load (some 3) (.t 43)⟩,
  ⟨(some 8), none, .alloc [(.int .i64 0), (.str []), (.sl .clip [])] false⟩,
  ⟨none, none, .store 3 (.t 8) (.t 44)⟩])
 (.reg [⟨(some 45), none, .load (some 3) (.t 8)⟩,
  ⟨(some 46), none, .mov (.t 1)⟩,
  ⟨(some 47), none, .mov (.t 2)⟩,
  ⟨(some 48), none, .call 0 [2] (.c (.fn 34 [])) [(.t 45), (.t 46), (.t 47)]⟩,
  ⟨(some 2), none, .mov (.t 48)⟩])))
 (.reg [⟨(some 49), none, .bin .add (.t 41) (.c (.int .i64 1))⟩,
  ⟨(some 41), none, .mov (.t 49)⟩])))))))
 (.seq (.reg [⟨(some 50), none, .mov (.t 2)⟩,
  ⟨(some 6), none, .mov (.t 50)⟩])
 .ret)))),
  [.t 6], true, false, 51⟩
theorem co34 : compF Try.prog ⟨[], [(8, [1, 2, 39, 40, 41], [])], [(34, 0, [2])]⟩ true false Try.f34 = some ac34 := by kernel_rfl

/-- cmp.Or[int] -/
def ac39 : AF := ⟨(.seq (.reg [⟨(some 2), none, .mov (.c (.int .i64 0))⟩])
 (.seq (.reg [⟨(some 3), none, .mov (.c (.int .i64 0))⟩])
 (.seq (.seq (.reg [⟨(some 6), none, .mov (.t 0)⟩,
  ⟨(some 7), none, .len 1 (.t 6)⟩,
  ⟨(some 8), none, .mov (.c (.int .i64 0))⟩])
 (.block 0 (.loop [3, 6, 7, 8] [] (.seq (.reg [⟨(some 9), none, .bin .lss (.t 8) (.t 7)⟩])
 (.seq (.cond (.t 9) .skip
 (.exit 0))
 (.seq (.block 1 (.seq (.reg [⟨(some 10), none, .iaddr 1 (.t 6) (.t 8)⟩,
  ⟨(some 11), none, .load none (.t 10)⟩,
  ⟨(some 5), none, .mov (.t 11)⟩])
 (.seq (.reg [⟨(some 12), none, .mov (.t 5)⟩,
  ⟨(some 13), none, .mov (.t 3)⟩,
  ⟨(some 14), none, .bin .neq (.t 12) (.t 13)⟩])
 (.cond (.t 14) (.seq (.reg [⟨(some 15), none, .mov (.t 5)⟩,
  ⟨(some 2), none, .mov (.t 15)⟩])
 .ret)
 .skip))))
 (.reg [⟨(some 16), none, .bin .add (.t 8) (.c (.int .i64 1))⟩,
  ⟨(some 8), none, .mov (.t 16)⟩])))))))
 (.seq (.reg [⟨(some 17), none, .mov (.t 3)⟩,
  ⟨(some 2), none, .mov (.t 17)⟩])
 .ret)))),
  [.t 2], false, true, 18⟩
theorem co39 : compF Try.prog ⟨[], [(3, [3, 6, 7, 8], [])], []⟩ false true Try.f39 = some ac39 := by kernel_rfl

/-- cmp.Compare[int] -/
def ac40 : AF := ⟨(.seq (.reg [⟨(some 4), none, .mov (.c (.int .i64 0))⟩])
 (.seq (.reg [⟨(some 7), none, .mov (.t 0)⟩,
  ⟨(some 8), none, .call 0 [] (.c (.fn 49 [])) [(.t 7)]⟩,
  ⟨(some 5), none, .mov (.t 8)⟩])
 (.seq (.reg [⟨(some 9), none, .mov (.t 1)⟩,
  ⟨(some 10), none, .call 0 [] (.c (.fn 49 [])) [(.t 9)]⟩,
  ⟨(some 6), none, .mov (.t 10)⟩])
 (.seq (.seq (.reg [⟨(some 11), none, .mov (.t 5)⟩])
 (.cond (.t 11) (.seq (.seq (.reg [⟨(some 12), none, .mov (.t 6)⟩])
 (.cond (.t 12) (.seq (.reg [⟨(some 4), none, .mov (.c (.int .i64 0))⟩])
 .ret)
 .skip))
 (.seq (.reg [⟨(some 4), none, .mov (.c (.int .i64 (-1)))⟩])
 .ret))
 .skip))
 (.seq (.seq (.reg [⟨(some 13), none, .mov (.t 6)⟩])
 (.cond (.t 13) (.seq (.reg [⟨(some 4), none, .mov (.c (.int .i64 1))⟩])
 .ret)
 .skip))
 (.seq (.seq (.reg [⟨(some 14), none, .mov (.t 0)⟩,
  ⟨(some 15), none, .mov (.t 1)⟩,
  ⟨(some 16), none, .bin .lss (.t 14) (.t 15)⟩])
 (.cond (.t 16) (.seq (.reg [⟨(some 4), none, .mov (.c (.int .i64 (-1)))⟩])
 .ret)
 .skip))
 (.seq (.seq (.reg [⟨(some 17), none, .mov (.t 0)⟩,
  ⟨(some 18), none, .mov (.t 1)⟩,
  ⟨(some 19), none, .bin .gtr (.t 17) (.t 18)⟩])
 (.cond (.t 19) (.seq (.reg [⟨(some 4), none, .mov (.c (.int .i64 1))⟩])
 .ret)
 .skip))
 (.seq (.reg [⟨(some 4), none, .mov (.c (.int .i64 0))⟩])
 .ret)))))))),
  [.t 4], false, true, 20⟩
theorem co40 : compF Try.prog ⟨[], [], []⟩ false true Try.f40 = some ac40 := by kernel_rfl

/-- strings.Compare -/
def ac41 : AF := ⟨(.seq (.reg [⟨(some 4), none, .mov (.c (.int .i64 0))⟩])
 (.seq (.reg [⟨(some 5), none, .mov (.t 0)⟩,
  ⟨(some 6), none, .mov (.t 1)⟩,
  ⟨(some 7), none, .call 0 [] (.c (.fn 50 [])) [(.t 5), (.t 6)]⟩,
  ⟨(some 4), none, .mov (.t 7)⟩])
 .ret)),
  [.t 4], false, true, 8⟩
theorem co41 : compF Try.prog ⟨[], [], []⟩ false true Try.f41 = some ac41 := by kernel_rfl

/-- slices.CompareFunc[[]paideia/api.Type,[]paideia/api.Type,paideia/api.Type,paideia/api.Type] -/
def ac42 : AF := ⟨(.seq (.reg [⟨(some 6), none, .mov (.c (.int .i64 0))⟩])
 (.seq (.seq (.reg [⟨(some 11), none, .mov (.t 0)⟩,
  ⟨(some 12), none, .len 1 (.t 11)⟩,
  ⟨(some 13), none, .mov (.c (.int .i64 0))⟩])
 (.block 0 (.loop [0, 1, 2, 11, 12, 13] [] (.seq (.reg [⟨(some 14), none, .bin .lss (.t 13) (.t 12)⟩])
 (.seq (.cond (.t 14) .skip
 (.exit 0))
 (.seq (.block 1 (.seq (.reg [⟨(some 15), none, .mov (.t 13)⟩,
  ⟨(some 16), none, .iaddr 3 (.t 11) (.t 13)⟩,
  ⟨(some 17), none, .load (some 3) (.t 16)⟩,
  ⟨(some 8), none, .alloc [(.int .i64 0), (.str []), (.sl .clip [])] false⟩,
  ⟨(some 7), none, .mov (.t 15)⟩,
  ⟨none, none, .store 3 (.t 8) (.t 17)⟩])
 (.seq (.seq (.reg [⟨(some 18), none, .mov (.t 7)⟩,
  ⟨(some 19), none, .mov (.t 1)⟩,
  ⟨(some 20), none, .len 1 (.t 19)⟩,
  ⟨(some 21), none, .bin .geq (.t 18) (.t 20)⟩])
 (.cond (.t 21) (.seq (.reg [⟨(some 6), none, .mov (.c (.int .i64 1))⟩])
 .ret)
 .skip))
 (.seq (.reg [⟨(some 22), none, .mov (.t 1)⟩,
  ⟨(some 23), none, .mov (.t 7)⟩,
  ⟨(some 24), none, .iaddr 3 (.t 22) (.t 23)⟩,
  ⟨(some 25), none, .load (some 3) (.t 24)⟩,
  ⟨(some 9), none, .alloc [(.int .i64 0), (.str []), (.sl .clip [])] false⟩,
  ⟨none, none, .store 3 (.t 9) (.t 25)⟩])
 (.seq (.reg [⟨(some 26), none, .mov (.t 2)⟩,
  ⟨(some 27), none, .load (some 3) (.t 8)⟩,
  ⟨(some 28), none, .load (some 3) (.t 9)⟩,
  ⟨(some 29), none, .call 0 [] (.t 26) [(.t 27), (.t 28)]⟩,
  ⟨(some 10), none, .mov (.t 29)⟩])
 (.seq (.reg [⟨(some 30), none, .mov (.t 10)⟩,
  ⟨(some 31), none, .bin .neq (.t 30) (.c (.int .i64 0))⟩])
 (.cond (.t 31) (.seq (.reg [⟨(some 32), none, .mov (.t 10)⟩,
  ⟨(some 6), none, .mov (.t 32)⟩])
 .ret)
 .skip)))))))
 (.reg [⟨(some 33), none, .bin .add (.t 13) (.c (.int .i64 1))⟩,
  ⟨(some 13), none, .mov (.t 33)⟩])))))))
 (.seq (.seq (.reg [⟨(some 34), none, .mov (.t 0)⟩,
  ⟨(some 35), none, .len 1 (.t 34)⟩,
  ⟨(some 36), none, .mov (.t 1)⟩,
  ⟨(some 37), none, .len 1 (.t 36)⟩,
  ⟨(some 38), none, .bin .lss (.t 35) (.t 37)⟩])
 (.cond (.t 38) (.seq (.reg [⟨(some 6), none, .mov (.c (.int .i64 (-1)))⟩])
 .ret)
 .skip))
 (.seq (.reg [⟨(some 6), none, .mov (.c (.int .i64 0))⟩])
 .ret)))),
  [.t 6], false, true, 39⟩
theorem co42 : compF Try.prog ⟨[], [(2, [0, 1, 2, 11, 12, 13], [])], []⟩ false true Try.f42 = some ac42 := by kernel_rfl

/-- paideia/paideiaworld.Number -/
def ac44 : AF := ⟨(.seq (.reg [⟨(some 4), none, .mov (.c (.int .i64 0))⟩])
 (.seq (.reg [⟨(some 6), none, .mov (.t 0)⟩,
  ⟨(some 7), none, .mov (.t 1)⟩,
  ⟨(some 8), none, .bin .rem (.t 6) (.t 7)⟩,
  ⟨(some 5), none, .mov (.t 8)⟩])
 (.seq (.seq (.reg [⟨(some 9), none, .mov (.t 5)⟩,
  ⟨(some 10), none, .bin .lss (.t 9) (.c (.int .i64 0))⟩])
 (.cond (.t 10) (.reg [⟨(some 11), none, .mov (.t 5)⟩,
  ⟨(some 12), none, .mov (.t 1)⟩,
  ⟨(some 13), none, .bin .add (.t 11) (.t 12)⟩,
  ⟨(some 5), none, .mov (.t 13)⟩])
 .skip))
 (.seq (.reg [⟨(some 14), none, .mov (.t 5)⟩,
  ⟨(some 4), none, .mov (.t 14)⟩])
 .ret)))),
  [.t 4], false, true, 15⟩
theorem co44 : compF Try.prog ⟨[], [], []⟩ false true Try.f44 = some ac44 := by kernel_rfl

/-- slices.Contains[[]string,string] -/
def ac45 : AF := ⟨(.seq (.reg [⟨(some 4), none, .mov (.c (.bool false))⟩])
 (.seq (.reg [⟨(some 5), none, .mov (.t 0)⟩,
  ⟨(some 6), none, .mov (.t 1)⟩,
  ⟨(some 7), none, .call 0 [] (.c (.fn 51 [])) [(.t 5), (.t 6)]⟩,
  ⟨(some 8), none, .bin .geq (.t 7) (.c (.int .i64 0))⟩,
  ⟨(some 4), none, .mov (.t 8)⟩])
 .ret)),
  [.t 4], false, true, 9⟩
theorem co45 : compF Try.prog ⟨[], [], []⟩ false true Try.f45 = some ac45 := by kernel_rfl

/-- slices.Clone[[]string,string] -/
def ac46 : AF := ⟨(.seq (.reg [⟨(some 2), none, .mov (.c (.sl .clip []))⟩])
 (.seq (.seq (.reg [⟨(some 3), none, .mov (.t 0)⟩,
  ⟨(some 4), none, .nilsl false (.t 3)⟩])
 (.cond (.t 4) (.seq (.reg [⟨(some 2), none, .mov (.c (.sl .clip []))⟩])
 .ret)
 .skip))
 (.seq (.reg [⟨(some 5), none, .bslice [(.str [])] 0 []⟩,
  ⟨(some 6), none, .mov (.t 0)⟩,
  ⟨(some 7), none, .append 1 (.t 5) (.t 6)⟩,
  ⟨(some 2), none, .mov (.t 7)⟩])
 .ret))),
  [.t 2], true, false, 8⟩
theorem co46 : compF Try.prog ⟨[], [], []⟩ true false Try.f46 = some ac46 := by kernel_rfl

/-- cmp.isNaN[int] -/
def ac49 : AF := ⟨(.seq (.reg [⟨(some 2), none, .mov (.c (.bool false))⟩])
 (.seq (.reg [⟨(some 3), none, .mov (.t 0)⟩,
  ⟨(some 4), none, .mov (.t 0)⟩,
  ⟨(some 5), none, .bin .neq (.t 3) (.t 4)⟩,
  ⟨(some 2), none, .mov (.t 5)⟩])
 .ret)),
  [.t 2], false, true, 6⟩
theorem co49 : compF Try.prog ⟨[], [], []⟩ false true Try.f49 = some ac49 := by kernel_rfl

/-- internal/bytealg.CompareString -/
def ac50 : AF := ⟨(.seq (.reg [⟨(some 4), none, .mov (.c (.int .i64 0))⟩])
 (.seq (.reg [⟨(some 5), none, .mov (.t 0)⟩,
  ⟨(some 6), none, .mov (.t 1)⟩,
  ⟨(some 7), none, .call 0 [] (.c (.fn 52 [])) [(.t 5), (.t 6)]⟩,
  ⟨(some 4), none, .mov (.t 7)⟩])
 .ret)),
  [.t 4], false, true, 8⟩
theorem co50 : compF Try.prog ⟨[], [], []⟩ false true Try.f50 = some ac50 := by kernel_rfl

/-- slices.Index[[]string,string] -/
def ac51 : AF := ⟨(.seq (.reg [⟨(some 4), none, .mov (.c (.int .i64 0))⟩])
 (.seq (.seq (.reg [⟨(some 6), none, .mov (.t 0)⟩,
  ⟨(some 7), none, .len 1 (.t 6)⟩,
  ⟨(some 8), none, .mov (.c (.int .i64 0))⟩])
 (.block 0 (.loop [0, 1, 7, 8] [] (.seq (.reg [⟨(some 9), none, .bin .lss (.t 8) (.t 7)⟩])
 (.seq (.cond (.t 9) .skip
 (.exit 0))
 (.seq (.block 1 (.seq (.reg [⟨(some 10), none, .mov (.t 8)⟩,
  ⟨(some 5), none, .mov (.t 10)⟩])
 (.seq (.reg [⟨(some 11), none, .mov (.t 1)⟩,
  ⟨(some 12), none, .mov (.t 0)⟩,
  ⟨(some 13), none, .mov (.t 5)⟩,
  ⟨(some 14), none, .iaddr 1 (.t 12) (.t 13)⟩,
  ⟨(some 15), none, .load none (.t 14)⟩,
  ⟨(some 16), none, .bin .eql (.t 11) (.t 15)⟩])
 (.cond (.t 16) (.seq (.reg [⟨(some 17), none, .mov (.t 5)⟩,
  ⟨(some 4), none, .mov (.t 17)⟩])
 .ret)
 .skip))))
 (.reg [⟨(some 18), none, .bin .add (.t 8) (.c (.int .i64 1))⟩,
  ⟨(some 8), none, .mov (.t 18)⟩])))))))
 (.seq (.reg [⟨(some 4), none, .mov (.c (.int .i64 (-1)))⟩])
 .ret))),
  [.t 4], false, true, 19⟩
theorem co51 : compF Try.prog ⟨[], [(2, [0, 1, 7, 8], [])], []⟩ false true Try.f51 = some ac51 := by kernel_rfl


theorem prim52 : PrimOk Try.prog 52 cmpP := cmpP_ok Try.func52 (by kernel_rfl) (by kernel_rfl) (by kernel_rfl) (by kernel_rfl)

def ap1 : AP := fun f vr => match f, vr with
  | 45, 0 => some (.code ac45)
  | 46, 0 => some (.code ac46)
  | 49, 0 => some (.code ac49)
  | 50, 0 => some (.code ac50)
  | 51, 0 => some (.code ac51)
  | 52, 0 => some (.prim cmpP)
  | f, vr => none

theorem table1 : TableOk Try.prog ap1 := by
  intro f vr fd h
  unfold ap1 at h
  split at h
  · cases h; exact ⟨_, _, Try.func45, co45⟩
  · cases h; exact ⟨_, _, Try.func46, co46⟩
  · cases h; exact ⟨_, _, Try.func49, co49⟩
  · cases h; exact ⟨_, _, Try.func50, co50⟩
  · cases h; exact ⟨_, _, Try.func51, co51⟩
  · cases h; exact prim52
  · cases h

def ap0 : AP := fun f vr => match f, vr with
  | 3, 0 => some (.code ac3)
  | 6, 0 => some (.code ac6)
  | 7, 0 => some (.code ac7)
  | 8, 0 => some (.code ac8)
  | 9, 0 => some (.code ac9)
  | 10, 0 => some (.code ac10)
  | 11, 0 => some (.code ac11)
  | 12, 0 => some (.code ac12)
  | 13, 0 => some (.code ac13)
  | 16, 0 => some (.code ac16)
  | 22, 0 => some (.code ac22)
  | 24, 0 => some (.code ac24)
  | 25, 0 => some (.code ac25)
  | 26, 0 => some (.code ac26)
  | 27, 0 => some (.code ac27)
  | 28, 0 => some (.code ac28)
  | 29, 0 => some (.code ac29)
  | 30, 0 => some (.code ac30)
  | 31, 0 => some (.code ac31)
  | 34, 0 => some (.code ac34)
  | 39, 0 => some (.code ac39)
  | 40, 0 => some (.code ac40)
  | 41, 0 => some (.code ac41)
  | 42, 0 => some (.code ac42)
  | 44, 0 => some (.code ac44)
  | f, vr => ap1 f vr

theorem table0 : TableOk Try.prog ap0 := by
  intro f vr fd h
  unfold ap0 at h
  split at h
  · cases h; exact ⟨_, _, Try.func3, co3⟩
  · cases h; exact ⟨_, _, Try.func6, co6⟩
  · cases h; exact ⟨_, _, Try.func7, co7⟩
  · cases h; exact ⟨_, _, Try.func8, co8⟩
  · cases h; exact ⟨_, _, Try.func9, co9⟩
  · cases h; exact ⟨_, _, Try.func10, co10⟩
  · cases h; exact ⟨_, _, Try.func11, co11⟩
  · cases h; exact ⟨_, _, Try.func12, co12⟩
  · cases h; exact ⟨_, _, Try.func13, co13⟩
  · cases h; exact ⟨_, _, Try.func16, co16⟩
  · cases h; exact ⟨_, _, Try.func22, co22⟩
  · cases h; exact ⟨_, _, Try.func24, co24⟩
  · cases h; exact ⟨_, _, Try.func25, co25⟩
  · cases h; exact ⟨_, _, Try.func26, co26⟩
  · cases h; exact ⟨_, _, Try.func27, co27⟩
  · cases h; exact ⟨_, _, Try.func28, co28⟩
  · cases h; exact ⟨_, _, Try.func29, co29⟩
  · cases h; exact ⟨_, _, Try.func30, co30⟩
  · cases h; exact ⟨_, _, Try.func31, co31⟩
  · cases h; exact ⟨_, _, Try.func34, co34⟩
  · cases h; exact ⟨_, _, Try.func39, co39⟩
  · cases h; exact ⟨_, _, Try.func40, co40⟩
  · cases h; exact ⟨_, _, Try.func41, co41⟩
  · cases h; exact ⟨_, _, Try.func42, co42⟩
  · cases h; exact ⟨_, _, Try.func44, co44⟩
  · exact table1 _ _ _ h

def ap : AP := ap0
theorem tableOk : TableOk Try.prog ap := table0

end Go.Bt
