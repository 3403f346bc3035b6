/- The seat's functions on the abstract machine. -/
import Derived.Test.YthebkhieedogdaaGreatDoorAmX
import Derived.Test.YthebkhieedogdaaGreatDoorAmZ
import Derived.Test.YthebkhieedogdaaGreatDoorAmL
import Derived.Test.YthebkhieedogdaaGreatDoorAmQ
import Derived.Test.YthebkhieedogdaaGreatDoorAmU
import Derived.Test.YthebkhieedogdaaGreatDoorAmF
import Derived.Test.YthebkhieedogdaaGreatDoorXtShelf
import Derived.Test.YthebkhieedogdaaGreatDoorProg
namespace Go.Xt
open Go.Am Go.Proofs

set_option maxRecDepth 100000
def cut3 : Nat := 4
def mid3 : AC := (.reg [⟨(some 12), none, .mov (.t 0)⟩,
  ⟨(some 13), none, .mov (.t 4)⟩,
  ⟨(some 14), none, .len 1 (.t 13)⟩,
  ⟨(some 15), none, .bin .rem (.t 12) (.t 14)⟩,
  ⟨(some 16), none, .mov (.t 4)⟩,
  ⟨(some 17), none, .len 1 (.t 16)⟩,
  ⟨(some 18), none, .bin .add (.t 15) (.t 17)⟩,
  ⟨(some 19), none, .mov (.t 4)⟩,
  ⟨(some 20), none, .len 1 (.t 19)⟩,
  ⟨(some 21), none, .bin .rem (.t 18) (.t 20)⟩,
  ⟨(some 5), none, .mov (.t 21)⟩])
def rest3 : AC := (.seq (.reg [⟨(some 23), none, .mov (.t 4)⟩,
  ⟨(some 24), none, .mov (.t 5)⟩,
  ⟨(some 25), none, .iaddr 1 (.t 23) (.t 24)⟩,
  ⟨(some 26), none, .load none (.t 25)⟩,
  ⟨(some 27), none, .conv .bytes (.t 26)⟩,
  ⟨(some 28), none, .call 0 [] (.c (.fn 5 [])) [(.t 27)]⟩,
  ⟨(some 22), none, .mov (.t 28)⟩,
  ⟨(some 29), none, .extract (.t 22) 0⟩,
  ⟨(some 30), none, .extract (.t 22) 1⟩,
  ⟨(some 6), none, .alloc [(.sl .clip []), (.sl .clip []), (.sl .clip []), (.sl .clip [])] false⟩,
  ⟨(some 7), none, .alloc [(.int .i64 0), (.bool false), (.int .i64 0)] false⟩,
  ⟨none, none, .store 4 (.t 6) (.t 29)⟩,
  ⟨none, none, .store 3 (.t 7) (.t 30)⟩])
 (.seq (.reg [⟨(some 31), none, .mov (.t 3)⟩,
  ⟨(some 32), none, .mov (.t 31)⟩,
  ⟨(some 33), (some (32, true)), .faddr 0 (.t 7)⟩,
  ⟨(some 34), (some (32, true)), .load none (.t 33)⟩,
  ⟨(some 35), (some (32, true)), .bin .eql (.t 34) (.c (.int .i64 0))⟩,
  ⟨(some 36), none, .pick (.t 32) (.t 35) (.c (.bool false))⟩,
  ⟨(some 37), none, .mov (.t 36)⟩,
  ⟨(some 38), (some (37, true)), .load (some 4) (.t 6)⟩,
  ⟨(some 39), (some (37, true)), .call 0 [] (.c (.fn 6 [])) [(.t 38)]⟩,
  ⟨(some 40), (some (37, true)), .mov (.t 4)⟩,
  ⟨(some 41), (some (37, true)), .mov (.t 5)⟩,
  ⟨(some 42), (some (37, true)), .iaddr 1 (.t 40) (.t 41)⟩,
  ⟨(some 43), (some (37, true)), .loadL none (.t 42)⟩,
  ⟨(some 44), (some (37, true)), .bin .eql (.t 39) (.t 43)⟩,
  ⟨(some 45), none, .pick (.t 37) (.t 44) (.c (.bool false))⟩,
  ⟨(some 2), none, .mov (.t 45)⟩])
 .ret))
/-- paideia/paideialaw2.PrinterTexts -/
def ac3 : AF := ⟨(.seq (.reg [⟨(some 2), none, .mov (.c (.bool false))⟩])
 (.seq (.reg [⟨(some 8), none, .call 0 [] (.c (.fn 4 [])) []⟩,
  ⟨(some 3), none, .mov (.t 8)⟩])
 (.seq (.seq (.reg [⟨(some 9), none, .mov (.t 3)⟩,
  ⟨(some 10), none, .not (.t 9)⟩])
 (.cond (.t 10) (.seq (.reg [⟨(some 2), none, .mov (.c (.bool false))⟩])
 .ret)
 .skip))
 (.seq (.reg [⟨(some 11), none, .bslice [(.str [])] 7 [(0, (.c (.str [100, 97, 116, 97, 32, 84, 32, 97, 32, 98, 32, 61, 32, 67, 32, 97, 32, 40, 84, 32, 97, 32, 98, 41, 32, 124, 32, 68, 32, 40, 97, 32, 45, 62, 32, 98, 41, 32, 124, 32, 69, 32, 100, 101, 114, 105, 118, 105, 110, 103, 32, 40, 69, 113, 44, 32, 83, 104, 111, 119, 41, 59, 10]))), (1, (.c (.str [99, 108, 97, 115, 115, 32, 40, 69, 113, 32, 97, 44, 32, 83, 104, 111, 119, 32, 97, 41, 32, 61, 62, 32, 67, 32, 97, 32, 119, 104, 101, 114, 101, 32, 123, 32, 109, 32, 58, 58, 32, 97, 32, 45, 62, 32, 97, 59, 32, 40, 43, 41, 32, 58, 58, 32, 97, 59, 32, 109, 32, 61, 32, 40, 92, 120, 32, 45, 62, 32, 120, 41, 32, 125, 59, 10]))), (2, (.c (.str [99, 108, 97, 115, 115, 32, 68, 32, 97, 32, 61, 62, 32, 67, 32, 97, 32, 119, 104, 101, 114, 101, 32, 123, 32, 125, 59, 10]))), (3, (.c (.str [105, 110, 115, 116, 97, 110, 99, 101, 32, 40, 67, 32, 97, 44, 32, 68, 32, 98, 41, 32, 61, 62, 32, 67, 32, 40, 84, 32, 97, 32, 98, 41, 32, 119, 104, 101, 114, 101, 32, 123, 32, 109, 32, 61, 32, 39, 120, 39, 59, 32, 40, 61, 61, 41, 32, 61, 32, 49, 32, 125, 59, 10]))), (4, (.c (.str [105, 110, 115, 116, 97, 110, 99, 101, 32, 67, 32, 84, 32, 119, 104, 101, 114, 101, 32, 123, 32, 125, 59, 10]))), (5, (.c (.str [120, 32, 58, 58, 32, 40, 69, 113, 32, 97, 44, 32, 79, 114, 100, 32, 98, 41, 32, 61, 62, 32, 97, 32, 45, 62, 32, 98, 59, 32, 120, 32, 61, 32, 40, 108, 101, 116, 32, 123, 32, 121, 32, 61, 32, 49, 59, 32, 122, 32, 58, 58, 32, 97, 59, 32, 122, 32, 61, 32, 121, 32, 125, 32, 105, 110, 32, 40, 99, 97, 115, 101, 32, 122, 32, 111, 102, 32, 123, 32, 67, 32, 112, 32, 95, 32, 45, 62, 32, 112, 59, 32, 113, 32, 45, 62, 32, 113, 59, 32, 95, 32, 45, 62, 32, 40, 40, 102, 32, 49, 41, 32, 39, 92, 110, 39, 41, 32, 125, 41, 41, 59, 10]))), (6, (.c (.str [40, 60, 41, 32, 61, 32, 40, 99, 97, 115, 101, 32, 40, 120, 32, 121, 41, 32, 111, 102, 32, 123, 32, 125, 41, 59, 10, 102, 32, 61, 32, 40, 108, 101, 116, 32, 123, 32, 125, 32, 105, 110, 32, 50, 41, 59, 10])))]⟩,
  ⟨(some 4), none, .mov (.t 11)⟩])
 (.seq mid3 rest3))))),
  [.t 2], false, true, 46⟩
theorem co3 : compF Tryz.prog ⟨[], [], [], [], [], [], 3, [], []⟩ false true Tryz.f3 = some ac3 := by kernel_rfl

/-- paideia/paideialaw2.first -/
def ac4 : AF := ⟨(.seq (.reg [⟨(some 0), none, .mov (.c (.bool false))⟩])
 (.seq (.reg [⟨(some 2), none, .build [(.int .i64 0), (.str []), (.sl .clip [])] [(0, 1, (.c (.int .i64 1))), (1, 1, (.c (.str [97])))]⟩,
  ⟨(some 1), none, .alloc [(.int .i64 0), (.str []), (.sl .clip [])] false⟩,
  ⟨none, none, .store 3 (.t 1) (.t 2)⟩])
 (.seq (.reg [⟨(some 3), none, .load (some 3) (.t 1)⟩,
  ⟨(some 4), none, .load (some 3) (.t 1)⟩,
  ⟨(some 5), none, .bslice [(.int .i64 0), (.str []), (.sl .clip [])] 2 [(0, (.t 3)), (1, (.t 4))]⟩,
  ⟨(some 6), none, .build [(.int .i64 0), (.str []), (.sl .clip [])] [(0, 1, (.c (.int .i64 3))), (2, 1, (.t 5))]⟩,
  ⟨(some 7), none, .call 0 [] (.c (.fn 7 [])) [(.t 6)]⟩,
  ⟨(some 8), none, .bin .eql (.t 7) (.c (.str [97, 32, 45, 62, 32, 97]))⟩,
  ⟨(some 0), none, .mov (.t 8)⟩])
 .ret))),
  [.t 0], false, true, 9⟩
theorem co4 : compF Tryz.prog ⟨[], [], [], [], [], [], 4, [], []⟩ false true Tryz.f4 = some ac4 := by kernel_rfl

/-- paideia/paideiaref1.Program -/
def ac5 : AF := ⟨(.seq (.reg [⟨(some 2), none, .alloc [(.sl .clip []), (.sl .clip []), (.sl .clip []), (.sl .clip [])] false⟩,
  ⟨(some 3), none, .alloc [(.int .i64 0), (.bool false), (.int .i64 0)] false⟩])
 (.seq (.reg [⟨(some 7), none, .mov (.t 0)⟩,
  ⟨(some 8), none, .call 0 [] (.c (.fn 8 [])) [(.t 7)]⟩,
  ⟨(some 4), none, .mov (.t 8)⟩])
 (.seq (.reg [⟨(some 9), none, .mov (.t 4)⟩,
  ⟨(some 10), none, .call 0 [] (.c (.fn 9 [])) [(.t 9)]⟩,
  ⟨(some 5), none, .alloc [(.sl .clip []), (.sl .clip []), (.sl .clip []), (.sl .clip [])] false⟩,
  ⟨none, none, .store 4 (.t 5) (.t 10)⟩])
 (.seq (.reg [⟨(some 11), none, .mov (.t 4)⟩,
  ⟨(some 12), none, .call 0 [] (.c (.fn 10 [])) [(.t 11)]⟩,
  ⟨(some 6), none, .alloc [(.int .i64 0), (.bool false), (.int .i64 0)] false⟩,
  ⟨none, none, .store 3 (.t 6) (.t 12)⟩])
 (.seq (.seq (.reg [⟨(some 13), none, .faddr 0 (.t 6)⟩,
  ⟨(some 14), none, .load none (.t 13)⟩,
  ⟨(some 15), none, .bin .neq (.t 14) (.c (.int .i64 0))⟩])
 (.cond (.t 15) (.seq (.reg [⟨(some 16), none, .build [(.sl .clip []), (.sl .clip []), (.sl .clip []), (.sl .clip [])] []⟩,
  ⟨(some 17), none, .loadX true (some 3) (.t 6) [(.t 2)] []⟩,
  ⟨none, none, .storeX true 4 (.t 2) (.t 16) [(.t 6)] []⟩,
  ⟨none, none, .store 3 (.t 3) (.t 17)⟩])
 .ret)
 .skip))
 (.seq (.reg [⟨(some 18), none, .load (some 4) (.t 5)⟩,
  ⟨(some 19), none, .loadX true (some 3) (.t 6) [(.t 2)] []⟩,
  ⟨none, none, .storeX true 4 (.t 2) (.t 18) [(.t 6)] []⟩,
  ⟨none, none, .store 3 (.t 3) (.t 19)⟩])
 .ret)))))),
  [.cell 2 (some 4), .cell 3 (some 3)], false, true, 20⟩
theorem co5 : compF Tryz.prog ⟨[], [], [], [], [], [], 5, [], []⟩ false true Tryz.f5 = some ac5 := by kernel_rfl

/-- paideia/printer.Program -/
def ac6 : AF := ⟨(.seq (.reg [⟨(some 1), none, .box (.t 0) 4 false⟩,
  ⟨(some 2), none, .mov (.c (.str []))⟩])
 (.seq (.reg [⟨(some 3), none, .mov (.c (.sl .clip []))⟩])
 (.seq (.seq (.reg [⟨(some 12), none, .faddr 0 (.t 1)⟩,
  ⟨(some 13), none, .load none (.t 12)⟩,
  ⟨(some 14), none, .len 1 (.t 13)⟩,
  ⟨(some 15), none, .mov (.c (.int .i64 0))⟩])
 (.block 0 (.loop [3, 13, 14, 15] [1] (.seq (.reg [⟨(some 16), none, .bin .lss (.t 15) (.t 14)⟩])
 (.seq (.cond (.t 16) .skip
 (.exit 0))
 (.seq (.block 1 (.seq (.reg [⟨(some 17), none, .iaddr 5 (.t 13) (.t 15)⟩,
  ⟨(some 18), none, .load (some 5) (.t 17)⟩,
  ⟨(some 5), none, .alloc [(.str []), (.sl .clip []), (.sl .clip []), (.sl .clip []), (.int .i64 0)] false⟩,
  ⟨none, none, .store 5 (.t 5) (.t 18)⟩])
 (.reg [⟨(some 19), none, .mov (.t 3)⟩,
  ⟨(some 20), none, .load (some 5) (.t 5)⟩,
  ⟨(some 21), none, .call 0 [] (.c (.fn 11 [])) [(.t 20)]⟩,
  ⟨(some 22), none, .bslice [(.str [])] 1 [(0, (.t 21))]⟩,
  ⟨(some 23), none, .append 1 (.t 19) (.t 22)⟩,
  ⟨(some 3), none, .mov (.t 23)⟩])))
 (.reg [⟨(some 24), none, .bin .add (.t 15) (.c (.int .i64 1))⟩,
  ⟨(some 15), none, .mov (.t 24)⟩])))))))
 (.seq (.seq (.reg [⟨(some 25), none, .faddr 1 (.t 1)⟩,
  ⟨(some 26), none, .load none (.t 25)⟩,
  ⟨(some 27), none, .len 1 (.t 26)⟩,
  ⟨(some 28), none, .mov (.c (.int .i64 0))⟩])
 (.block 2 (.loop [3, 26, 27, 28] [1] (.seq (.reg [⟨(some 29), none, .bin .lss (.t 28) (.t 27)⟩])
 (.seq (.cond (.t 29) .skip
 (.exit 2))
 (.seq (.block 3 (.seq (.reg [⟨(some 30), none, .iaddr 6 (.t 26) (.t 28)⟩,
  ⟨(some 31), none, .load (some 6) (.t 30)⟩,
  ⟨(some 7), none, .alloc [(.str []), (.str []), (.sl .clip []), (.sl .clip []), (.sl .clip []), (.int .i64 0)] false⟩,
  ⟨none, none, .store 6 (.t 7) (.t 31)⟩])
 (.reg [⟨(some 32), none, .mov (.t 3)⟩,
  ⟨(some 33), none, .load (some 6) (.t 7)⟩,
  ⟨(some 34), none, .call 0 [] (.c (.fn 12 [])) [(.t 33)]⟩,
  ⟨(some 35), none, .bslice [(.str [])] 1 [(0, (.t 34))]⟩,
  ⟨(some 36), none, .append 1 (.t 32) (.t 35)⟩,
  ⟨(some 3), none, .mov (.t 36)⟩])))
 (.reg [⟨(some 37), none, .bin .add (.t 28) (.c (.int .i64 1))⟩,
  ⟨(some 28), none, .mov (.t 37)⟩])))))))
 (.seq (.seq (.reg [⟨(some 38), none, .faddr 2 (.t 1)⟩,
  ⟨(some 39), none, .load none (.t 38)⟩,
  ⟨(some 40), none, .len 1 (.t 39)⟩,
  ⟨(some 41), none, .mov (.c (.int .i64 0))⟩])
 (.block 4 (.loop [3, 39, 40, 41] [1] (.seq (.reg [⟨(some 42), none, .bin .lss (.t 41) (.t 40)⟩])
 (.seq (.cond (.t 42) .skip
 (.exit 4))
 (.seq (.block 5 (.seq (.reg [⟨(some 43), none, .iaddr 6 (.t 39) (.t 41)⟩,
  ⟨(some 44), none, .load (some 6) (.t 43)⟩,
  ⟨(some 9), none, .alloc [(.str []), (.str []), (.sl .clip []), (.sl .clip []), (.sl .clip []), (.int .i64 0)] false⟩,
  ⟨none, none, .store 6 (.t 9) (.t 44)⟩])
 (.reg [⟨(some 45), none, .mov (.t 3)⟩,
  ⟨(some 46), none, .load (some 6) (.t 9)⟩,
  ⟨(some 47), none, .call 0 [] (.c (.fn 13 [])) [(.t 46)]⟩,
  ⟨(some 48), none, .bslice [(.str [])] 1 [(0, (.t 47))]⟩,
  ⟨(some 49), none, .append 1 (.t 45) (.t 48)⟩,
  ⟨(some 3), none, .mov (.t 49)⟩])))
 (.reg [⟨(some 50), none, .bin .add (.t 41) (.c (.int .i64 1))⟩,
  ⟨(some 41), none, .mov (.t 50)⟩])))))))
 (.seq (.seq (.reg [⟨(some 51), none, .faddr 3 (.t 1)⟩,
  ⟨(some 52), none, .load none (.t 51)⟩,
  ⟨(some 53), none, .len 1 (.t 52)⟩,
  ⟨(some 54), none, .mov (.c (.int .i64 0))⟩])
 (.block 6 (.loop [3, 52, 53, 54] [] (.seq (.reg [⟨(some 55), none, .bin .lss (.t 54) (.t 53)⟩])
 (.seq (.cond (.t 55) .skip
 (.exit 6))
 (.seq (.block 7 (.seq (.reg [⟨(some 56), none, .iaddr 15 (.t 52) (.t 54)⟩,
  ⟨(some 57), none, .load (some 15) (.t 56)⟩,
  ⟨(some 11), none, .alloc [(.str []), (.bool false), (.sl .clip []), (.sl .clip []), (.int .i64 0), (.str []), (.sl .clip []), (.int .i64 0), (.int .i64 0), (.str []), (.int .i64 0), (.sl .clip []), (.sl .clip []), (.sl .clip []), (.int .i64 0)] false⟩,
  ⟨none, none, .store 15 (.t 11) (.t 57)⟩])
 (.reg [⟨(some 58), none, .mov (.t 3)⟩,
  ⟨(some 59), none, .load (some 15) (.t 11)⟩,
  ⟨(some 60), none, .call 0 [] (.c (.fn 14 [])) [(.t 59)]⟩,
  ⟨(some 61), none, .bslice [(.str [])] 1 [(0, (.t 60))]⟩,
  ⟨(some 62), none, .append 1 (.t 58) (.t 61)⟩,
  ⟨(some 3), none, .mov (.t 62)⟩])))
 (.reg [⟨(some 63), none, .bin .add (.t 54) (.c (.int .i64 1))⟩,
  ⟨(some 54), none, .mov (.t 63)⟩])))))))
 (.seq (.reg [⟨(some 64), none, .mov (.t 3)⟩,
  ⟨(some 65), none, .call 0 [] (.c (.fn 15 [])) [(.t 64), (.c (.str [])), (.c (.fn 16 []))]⟩,
  ⟨(some 2), none, .mov (.t 65)⟩])
 .ret))))))),
  [.t 2], false, true, 66⟩
theorem co6 : compF Tryz.prog ⟨[], [(3, [3, 13, 14, 15], [1]), (8, [3, 26, 27, 28], [1]), (13, [3, 39, 40, 41], [1]), (18, [3, 52, 53, 54], [])], [], [], [], [], 6, [], []⟩ false true Tryz.f6 = some ac6 := by kernel_rfl

/-- paideia/printer.Type -/
def ac7 : AF := ⟨(.seq (.reg [⟨(some 1), none, .box (.t 0) 3 false⟩,
  ⟨(some 2), none, .mov (.c (.str []))⟩])
 (.seq (.seq (.reg [⟨(some 6), none, .faddr 0 (.t 1)⟩,
  ⟨(some 7), none, .load none (.t 6)⟩])
 (.block 0 (.seq (.reg [⟨(some 9), none, .bin .eql (.t 7) (.c (.int .i64 3))⟩,
  ⟨(some 8), none, .mov (.t 9)⟩])
 (.cond (.t 8) (.seq (.reg [⟨(some 10), none, .load (some 3) (.t 1)⟩,
  ⟨(some 11), none, .call 0 [] (.c (.fn 18 [])) [(.t 10), (.c (.int .i64 0))]⟩,
  ⟨(some 12), none, .call 0 [] (.c (.fn 17 [])) [(.t 11)]⟩,
  ⟨(some 13), none, .bin .add (.t 12) (.c (.str [32, 45, 62, 32]))⟩,
  ⟨(some 14), none, .loadL (some 3) (.t 1)⟩,
  ⟨(some 15), none, .call 0 [] (.c (.fn 18 [])) [(.t 14), (.c (.int .i64 1))]⟩,
  ⟨(some 16), none, .call 0 [] (.c (.fn 7 [])) [(.t 15)]⟩,
  ⟨(some 17), none, .bin .add (.t 13) (.t 16)⟩,
  ⟨(some 2), none, .mov (.t 17)⟩])
 .ret)
 (.seq (.reg [⟨(some 19), none, .bin .eql (.t 7) (.c (.int .i64 4))⟩,
  ⟨(some 18), none, .mov (.t 19)⟩])
 (.cond (.t 18) (.seq (.reg [⟨(some 20), none, .faddr 1 (.t 1)⟩,
  ⟨(some 21), none, .loadL none (.t 20)⟩,
  ⟨(some 22), none, .bin .add (.c (.str [102, 111, 114, 97, 108, 108, 32])) (.t 21)⟩,
  ⟨(some 23), none, .bin .add (.t 22) (.c (.str [46, 32]))⟩,
  ⟨(some 24), none, .load (some 3) (.t 1)⟩,
  ⟨(some 25), none, .call 0 [] (.c (.fn 18 [])) [(.t 24), (.c (.int .i64 0))]⟩,
  ⟨(some 26), none, .call 0 [] (.c (.fn 7 [])) [(.t 25)]⟩,
  ⟨(some 27), none, .bin .add (.t 23) (.t 26)⟩,
  ⟨(some 2), none, .mov (.t 27)⟩])
 .ret)
 .skip))))))
 (.seq (.reg [⟨(some 28), none, .faddr 1 (.t 1)⟩,
  ⟨(some 29), none, .load none (.t 28)⟩,
  ⟨(some 3), none, .mov (.t 29)⟩])
 (.seq (.seq (.reg [⟨(some 30), none, .faddr 2 (.t 1)⟩,
  ⟨(some 31), none, .load none (.t 30)⟩,
  ⟨(some 32), none, .len 1 (.t 31)⟩,
  ⟨(some 33), none, .mov (.c (.int .i64 0))⟩])
 (.block 1 (.loop [3, 31, 32, 33] [] (.seq (.reg [⟨(some 34), none, .bin .lss (.t 33) (.t 32)⟩])
 (.seq (.cond (.t 34) .skip
 (.exit 1))
 (.seq (.block 2 (.seq (.reg [⟨(some 35), none, .iaddr 3 (.t 31) (.t 33)⟩,
  ⟨(some 36), none, .load (some 3) (.t 35)⟩,
  ⟨(some 5), none, .alloc [(.int .i64 0), (.str []), (.sl .clip [])] false⟩,
  ⟨none, none, .store 3 (.t 5) (.t 36)⟩])
 (.reg [⟨(some 37), none, .mov (.t 3)⟩,
  ⟨(some 38), none, .load (some 3) (.t 5)⟩,
  ⟨(some 39), none, .call 0 [] (.c (.fn 19 [])) [(.t 38)]⟩,
  ⟨(some 40), none, .bin .add (.c (.str [32])) (.t 39)⟩,
  ⟨(some 41), none, .bin .add (.t 37) (.t 40)⟩,
  ⟨(some 3), none, .mov (.t 41)⟩])))
 (.reg [⟨(some 42), none, .bin .add (.t 33) (.c (.int .i64 1))⟩,
  ⟨(some 33), none, .mov (.t 42)⟩])))))))
 (.seq (.reg [⟨(some 43), none, .mov (.t 3)⟩,
  ⟨(some 2), none, .mov (.t 43)⟩])
 .ret))))),
  [.t 2], false, true, 44⟩
theorem co7 : compF Tryz.prog ⟨[], [(8, [3, 31, 32, 33], [])], [], [], [], [], 7, [], []⟩ false true Tryz.f7 = some ac7 := by kernel_rfl

/-- paideia/paideiaref1.start -/
def ac8 : AF := ⟨(.seq (.reg [⟨(some 2), none, .mov (.c .nilp)⟩])
 (.seq (.reg [⟨(some 6), none, .mov (.t 0)⟩,
  ⟨(some 7), none, .call 0 [] (.c (.fn 20 [])) [(.t 6)]⟩,
  ⟨(some 5), none, .mov (.t 7)⟩,
  ⟨(some 8), none, .extract (.t 5) 0⟩,
  ⟨(some 9), none, .extract (.t 5) 1⟩,
  ⟨(some 4), none, .alloc [(.int .i64 0), (.bool false), (.int .i64 0)] false⟩,
  ⟨(some 3), none, .mov (.t 8)⟩,
  ⟨none, none, .store 3 (.t 4) (.t 9)⟩])
 (.seq (.reg [⟨(some 10), none, .mov (.t 3)⟩,
  ⟨(some 11), none, .mov (.t 0)⟩,
  ⟨(some 12), none, .len 1 (.t 11)⟩,
  ⟨(some 13), none, .load (some 3) (.t 4)⟩,
  ⟨(some 14), none, .build [(.sl .clip []), (.int .i64 0), (.int .i64 0), (.int .i64 0), (.bool false), (.int .i64 0), (.int .i64 0)] [(0, 1, (.t 10)), (2, 1, (.t 12)), (3, 3, (.t 13))]⟩,
  ⟨(some 15), none, .box (.t 14) 7 true⟩,
  ⟨(some 2), none, .mov (.t 15)⟩])
 .ret))),
  [.t 2], false, false, 16⟩
theorem co8 : compF Tryz.prog ⟨[15], [], [], [], [], [], 8, [], []⟩ false false Tryz.f8 = some ac8 := by kernel_rfl

/-- (*paideia/paideiaref1.parser).program -/
def ac9 : AF := ⟨(.seq (.reg [⟨(some 2), none, .alloc [(.sl .clip []), (.sl .clip []), (.sl .clip []), (.sl .clip [])] false⟩])
 (.seq (.reg [⟨(some 3), none, .alloc [(.sl .clip []), (.sl .clip []), (.sl .clip []), (.sl .clip [])] false⟩])
 (.seq (.reg [⟨(some 4), none, .mov (.c (.sl .clip []))⟩])
 (.seq (.block 0 (.loop [0, 4] [2, 3] (.seq (.seq (.reg [⟨(some 5), none, .mov (.t 0)⟩,
  ⟨(some 6), none, .call 0 [] (.c (.fn 21 [])) [(.t 5)]⟩])
 (.cond (.t 6) .skip
 (.exit 0)))
 (.block 1 (.seq (.block 2 (.loop [0, 4] [2, 3] (.seq (.seq (.reg [⟨(some 7), none, .mov (.t 0)⟩,
  ⟨(some 8), none, .call 0 [] (.c (.fn 22 [])) [(.t 7), (.c (.str [59]))]⟩])
 (.cond (.t 8) .skip
 (.exit 2)))
 (.block 3 (.reg [⟨(some 9), none, .mov (.t 0)⟩,
  ⟨(some 10), none, .mov (.t 0)⟩,
  ⟨(some 11), none, .nilck (.t 10)⟩,
  ⟨(some 12), none, .faddr 1 (.t 11)⟩,
  ⟨(some 13), none, .load none (.t 12)⟩,
  ⟨(some 14), none, .bin .add (.t 13) (.c (.int .i64 1))⟩,
  ⟨(some 15), none, .nilck (.t 9)⟩,
  ⟨(some 16), none, .faddr 1 (.t 15)⟩,
  ⟨none, none, .store 1 (.t 16) (.t 14)⟩])))))
 (.seq (.seq (.reg [⟨(some 17), none, .mov (.t 0)⟩,
  ⟨(some 18), none, .nilck (.t 17)⟩,
  ⟨(some 19), none, .faddr 1 (.t 18)⟩,
  ⟨(some 20), none, .load none (.t 19)⟩,
  ⟨(some 21), none, .mov (.t 0)⟩,
  ⟨(some 22), none, .nilck (.t 21)⟩,
  ⟨(some 23), none, .faddr 0 (.t 22)⟩,
  ⟨(some 24), none, .load none (.t 23)⟩,
  ⟨(some 25), none, .len 1 (.t 24)⟩,
  ⟨(some 26), none, .bin .geq (.t 20) (.t 25)⟩])
 (.cond (.t 26) (.exit 0)
 .skip))
 (.seq (.block 4 (.seq (.reg [⟨(some 37), none, .mov (.t 0)⟩,
  ⟨(some 38), none, .call 0 [] (.c (.fn 22 [])) [(.t 37), (.c (.str [100, 97, 116, 97]))]⟩,
  ⟨(some 36), none, .mov (.t 38)⟩])
 (.cond (.t 36) (.reg [⟨(some 39), none, .faddr 0 (.t 3)⟩,
  ⟨(some 40), none, .loadL none (.t 39)⟩,
  ⟨(some 41), none, .mov (.t 0)⟩,
  ⟨(some 42), none, .call 0 [] (.c (.fn 23 [])) [(.t 41)]⟩,
  ⟨(some 43), none, .bslice [(.str []), (.sl .clip []), (.sl .clip []), (.sl .clip []), (.int .i64 0)] 1 [(0, (.t 42))]⟩,
  ⟨(some 44), none, .append 5 (.t 40) (.t 43)⟩,
  ⟨(some 45), none, .faddr 0 (.t 3)⟩,
  ⟨none, none, .store 1 (.t 45) (.t 44)⟩])
 (.seq (.reg [⟨(some 47), none, .mov (.t 0)⟩,
  ⟨(some 48), none, .call 0 [] (.c (.fn 22 [])) [(.t 47), (.c (.str [99, 108, 97, 115, 115]))]⟩,
  ⟨(some 46), none, .mov (.t 48)⟩])
 (.cond (.t 46) (.reg [⟨(some 49), none, .faddr 1 (.t 3)⟩,
  ⟨(some 50), none, .loadL none (.t 49)⟩,
  ⟨(some 51), none, .mov (.t 0)⟩,
  ⟨(some 52), none, .call 0 [] (.c (.fn 24 [])) [(.t 51)]⟩,
  ⟨(some 53), none, .bslice [(.str []), (.str []), (.sl .clip []), (.sl .clip []), (.sl .clip []), (.int .i64 0)] 1 [(0, (.t 52))]⟩,
  ⟨(some 54), none, .append 6 (.t 50) (.t 53)⟩,
  ⟨(some 55), none, .faddr 1 (.t 3)⟩,
  ⟨none, none, .store 1 (.t 55) (.t 54)⟩])
 (.seq (.reg [⟨(some 57), none, .mov (.t 0)⟩,
  ⟨(some 58), none, .call 0 [] (.c (.fn 22 [])) [(.t 57), (.c (.str [105, 110, 115, 116, 97, 110, 99, 101]))]⟩,
  ⟨(some 56), none, .mov (.t 58)⟩])
 (.cond (.t 56) (.reg [⟨(some 59), none, .faddr 2 (.t 3)⟩,
  ⟨(some 60), none, .loadL none (.t 59)⟩,
  ⟨(some 61), none, .mov (.t 0)⟩,
  ⟨(some 62), none, .call 0 [] (.c (.fn 25 [])) [(.t 61)]⟩,
  ⟨(some 63), none, .bslice [(.str []), (.str []), (.sl .clip []), (.sl .clip []), (.sl .clip []), (.int .i64 0)] 1 [(0, (.t 62))]⟩,
  ⟨(some 64), none, .append 6 (.t 60) (.t 63)⟩,
  ⟨(some 65), none, .faddr 2 (.t 3)⟩,
  ⟨none, none, .store 1 (.t 65) (.t 64)⟩])
 (.reg [⟨(some 28), none, .mov (.t 0)⟩,
  ⟨(some 29), none, .mov (.t 4)⟩,
  ⟨(some 30), none, .faddr 3 (.t 3)⟩,
  ⟨(some 31), none, .load none (.t 30)⟩,
  ⟨(some 32), none, .call 0 [] (.c (.fn 26 [])) [(.t 28), (.t 29), (.t 31)]⟩,
  ⟨(some 27), none, .mov (.t 32)⟩,
  ⟨(some 33), none, .extract (.t 27) 0⟩,
  ⟨(some 34), none, .extract (.t 27) 1⟩,
  ⟨(some 4), none, .mov (.t 33)⟩,
  ⟨(some 35), none, .faddr 3 (.t 3)⟩,
  ⟨none, none, .store 1 (.t 35) (.t 34)⟩]))))))))
 (.reg [⟨(some 66), none, .mov (.t 0)⟩,
  ⟨(some 67), none, .call 0 [] (.c (.fn 27 [])) [(.t 66), (.c (.bool false))]⟩]))))))))
 (.seq (.reg [⟨(some 68), none, .mov (.t 0)⟩,
  ⟨(some 69), none, .mov (.t 4)⟩,
  ⟨(some 70), none, .faddr 3 (.t 3)⟩,
  ⟨(some 71), none, .load none (.t 70)⟩,
  ⟨(some 72), none, .call 0 [] (.c (.fn 28 [])) [(.t 68), (.t 69), (.t 71)]⟩,
  ⟨(some 73), none, .faddr 3 (.t 3)⟩,
  ⟨none, none, .store 1 (.t 73) (.t 72)⟩])
 (.seq (.reg [⟨(some 74), none, .load (some 4) (.t 3)⟩,
  ⟨none, none, .store 4 (.t 2) (.t 74)⟩])
 .ret)))))),
  [.cell 2 (some 4)], false, false, 75⟩
theorem co9 : compF Tryz.prog ⟨[], [(3, [0, 4], [2, 3]), (4, [0, 4], [2, 3])], [], [], [], [], 9, [], []⟩ false false Tryz.f9 = some ac9 := by kernel_rfl

/-- (*paideia/paideiaref1.parser).done -/
def ac10 : AF := ⟨(.seq (.reg [⟨(some 2), none, .alloc [(.int .i64 0), (.bool false), (.int .i64 0)] false⟩])
 (.seq (.seq (.reg [⟨(some 3), none, .mov (.t 0)⟩,
  ⟨(some 4), none, .call 0 [] (.c (.fn 21 [])) [(.t 3)]⟩,
  ⟨(some 5), none, .mov (.t 4)⟩,
  ⟨(some 6), (some (5, true)), .mov (.t 0)⟩,
  ⟨(some 7), (some (5, true)), .nilck (.t 6)⟩,
  ⟨(some 8), (some (5, true)), .faddr 1 (.t 7)⟩,
  ⟨(some 9), (some (5, true)), .load none (.t 8)⟩,
  ⟨(some 10), (some (5, true)), .mov (.t 0)⟩,
  ⟨(some 11), (some (5, true)), .nilck (.t 10)⟩,
  ⟨(some 12), (some (5, true)), .faddr 0 (.t 11)⟩,
  ⟨(some 13), (some (5, true)), .load none (.t 12)⟩,
  ⟨(some 14), (some (5, true)), .len 1 (.t 13)⟩,
  ⟨(some 15), (some (5, true)), .bin .lss (.t 9) (.t 14)⟩,
  ⟨(some 16), none, .pick (.t 5) (.t 15) (.c (.bool false))⟩])
 (.cond (.t 16) (.reg [⟨(some 17), none, .mov (.t 0)⟩,
  ⟨(some 18), none, .call 0 [] (.c (.fn 29 [])) [(.t 17)]⟩])
 .skip))
 (.seq (.reg [⟨(some 19), none, .mov (.t 0)⟩,
  ⟨(some 20), none, .nilck (.t 19)⟩,
  ⟨(some 21), none, .faddr 3 (.t 20)⟩,
  ⟨(some 22), none, .load (some 3) (.t 21)⟩,
  ⟨none, none, .store 3 (.t 2) (.t 22)⟩])
 .ret))),
  [.cell 2 (some 3)], false, false, 23⟩
theorem co10 : compF Tryz.prog ⟨[], [], [], [], [], [], 10, [], []⟩ false false Tryz.f10 = some ac10 := by kernel_rfl

/-- paideia/printer.data -/
def ac11 : AF := ⟨(.seq (.reg [⟨(some 1), none, .box (.t 0) 5 false⟩,
  ⟨(some 2), none, .mov (.c (.str []))⟩])
 (.seq (.reg [⟨(some 5), none, .faddr 2 (.t 1)⟩,
  ⟨(some 6), none, .load none (.t 5)⟩,
  ⟨(some 7), none, .call 0 [] (.c (.fn 30 [])) [(.t 6), (.c (.str [32, 124, 32])), (.c (.fn 31 []))]⟩,
  ⟨(some 3), none, .mov (.t 7)⟩])
 (.seq (.reg [⟨(some 8), none, .faddr 0 (.t 1)⟩,
  ⟨(some 9), none, .loadL none (.t 8)⟩,
  ⟨(some 10), none, .bin .add (.c (.str [100, 97, 116, 97, 32])) (.t 9)⟩,
  ⟨(some 11), none, .faddr 1 (.t 1)⟩,
  ⟨(some 12), none, .load none (.t 11)⟩,
  ⟨(some 13), none, .call 0 [] (.c (.fn 32 [])) [(.t 12)]⟩,
  ⟨(some 14), none, .bin .add (.t 10) (.t 13)⟩,
  ⟨(some 15), none, .bin .add (.t 14) (.c (.str [32, 61, 32]))⟩,
  ⟨(some 16), none, .mov (.t 3)⟩,
  ⟨(some 17), none, .bin .add (.t 15) (.t 16)⟩,
  ⟨(some 4), none, .mov (.t 17)⟩])
 (.seq (.seq (.reg [⟨(some 18), none, .faddr 3 (.t 1)⟩,
  ⟨(some 19), none, .load none (.t 18)⟩,
  ⟨(some 20), none, .len 1 (.t 19)⟩,
  ⟨(some 21), none, .bin .gtr (.t 20) (.c (.int .i64 0))⟩])
 (.cond (.t 21) (.reg [⟨(some 22), none, .mov (.t 4)⟩,
  ⟨(some 23), none, .faddr 3 (.t 1)⟩,
  ⟨(some 24), none, .load none (.t 23)⟩,
  ⟨(some 25), none, .call 0 [] (.c (.fn 33 [])) [(.t 24), (.c (.str [44, 32]))]⟩,
  ⟨(some 26), none, .bin .add (.c (.str [32, 100, 101, 114, 105, 118, 105, 110, 103, 32, 40])) (.t 25)⟩,
  ⟨(some 27), none, .bin .add (.t 26) (.c (.str [41]))⟩,
  ⟨(some 28), none, .bin .add (.t 22) (.t 27)⟩,
  ⟨(some 4), none, .mov (.t 28)⟩])
 .skip))
 (.seq (.reg [⟨(some 29), none, .mov (.t 4)⟩,
  ⟨(some 2), none, .mov (.t 29)⟩])
 .ret))))),
  [.t 2], false, true, 30⟩
theorem co11 : compF Tryz.prog ⟨[], [], [], [], [], [], 11, [], []⟩ false true Tryz.f11 = some ac11 := by kernel_rfl

/-- paideia/printer.class -/
def ac12 : AF := ⟨(.seq (.reg [⟨(some 1), none, .box (.t 0) 6 false⟩,
  ⟨(some 2), none, .mov (.c (.str []))⟩])
 (.seq (.reg [⟨(some 3), none, .mov (.c (.sl .clip []))⟩])
 (.seq (.seq (.reg [⟨(some 11), none, .faddr 2 (.t 1)⟩,
  ⟨(some 12), none, .load none (.t 11)⟩,
  ⟨(some 13), none, .len 1 (.t 12)⟩,
  ⟨(some 14), none, .mov (.c (.int .i64 0))⟩])
 (.block 0 (.loop [3, 12, 13, 14] [1] (.seq (.reg [⟨(some 15), none, .bin .lss (.t 14) (.t 13)⟩])
 (.seq (.cond (.t 15) .skip
 (.exit 0))
 (.seq (.block 1 (.seq (.reg [⟨(some 16), none, .iaddr 1 (.t 12) (.t 14)⟩,
  ⟨(some 17), none, .load none (.t 16)⟩,
  ⟨(some 5), none, .mov (.t 17)⟩])
 (.reg [⟨(some 18), none, .mov (.t 3)⟩,
  ⟨(some 19), none, .mov (.t 5)⟩,
  ⟨(some 20), none, .faddr 1 (.t 1)⟩,
  ⟨(some 21), none, .load none (.t 20)⟩,
  ⟨(some 22), none, .build [(.int .i64 0), (.str []), (.sl .clip [])] [(0, 1, (.c (.int .i64 1))), (1, 1, (.t 21))]⟩,
  ⟨(some 23), none, .build [(.str []), (.int .i64 0), (.str []), (.sl .clip [])] [(0, 1, (.t 19)), (1, 3, (.t 22))]⟩,
  ⟨(some 24), none, .bslice [(.str []), (.int .i64 0), (.str []), (.sl .clip [])] 1 [(0, (.t 23))]⟩,
  ⟨(some 25), none, .append 4 (.t 18) (.t 24)⟩,
  ⟨(some 3), none, .mov (.t 25)⟩])))
 (.reg [⟨(some 26), none, .bin .add (.t 14) (.c (.int .i64 1))⟩,
  ⟨(some 14), none, .mov (.t 26)⟩])))))))
 (.seq (.reg [⟨(some 6), none, .mov (.c (.sl .clip []))⟩])
 (.seq (.seq (.reg [⟨(some 27), none, .faddr 3 (.t 1)⟩,
  ⟨(some 28), none, .load none (.t 27)⟩,
  ⟨(some 29), none, .len 1 (.t 28)⟩,
  ⟨(some 30), none, .mov (.c (.int .i64 0))⟩])
 (.block 2 (.loop [3, 6, 28, 29, 30] [1] (.seq (.reg [⟨(some 31), none, .bin .lss (.t 30) (.t 29)⟩])
 (.seq (.cond (.t 31) .skip
 (.exit 2))
 (.seq (.block 3 (.seq (.reg [⟨(some 32), none, .iaddr 4 (.t 28) (.t 30)⟩,
  ⟨(some 33), none, .load (some 4) (.t 32)⟩,
  ⟨(some 8), none, .alloc [(.str []), (.int .i64 0), (.str []), (.sl .clip [])] false⟩,
  ⟨none, none, .store 4 (.t 8) (.t 33)⟩])
 (.reg [⟨(some 34), none, .mov (.t 6)⟩,
  ⟨(some 35), none, .faddr 0 (.t 8)⟩,
  ⟨(some 36), none, .load none (.t 35)⟩,
  ⟨(some 37), none, .call 0 [] (.c (.fn 34 [])) [(.t 36)]⟩,
  ⟨(some 38), none, .bin .add (.t 37) (.c (.str [32, 58, 58, 32]))⟩,
  ⟨(some 39), none, .faddr 1 (.t 8)⟩,
  ⟨(some 40), none, .loadL (some 3) (.t 39)⟩,
  ⟨(some 41), none, .call 0 [] (.c (.fn 7 [])) [(.t 40)]⟩,
  ⟨(some 42), none, .bin .add (.t 38) (.t 41)⟩,
  ⟨(some 43), none, .bslice [(.str [])] 1 [(0, (.t 42))]⟩,
  ⟨(some 44), none, .append 1 (.t 34) (.t 43)⟩,
  ⟨(some 6), none, .mov (.t 44)⟩])))
 (.reg [⟨(some 45), none, .bin .add (.t 30) (.c (.int .i64 1))⟩,
  ⟨(some 30), none, .mov (.t 45)⟩])))))))
 (.seq (.seq (.reg [⟨(some 46), none, .faddr 4 (.t 1)⟩,
  ⟨(some 47), none, .load none (.t 46)⟩,
  ⟨(some 48), none, .len 1 (.t 47)⟩,
  ⟨(some 49), none, .mov (.c (.int .i64 0))⟩])
 (.block 4 (.loop [3, 6, 47, 48, 49] [1] (.seq (.reg [⟨(some 50), none, .bin .lss (.t 49) (.t 48)⟩])
 (.seq (.cond (.t 50) .skip
 (.exit 4))
 (.seq (.block 5 (.seq (.reg [⟨(some 51), none, .iaddr 15 (.t 47) (.t 49)⟩,
  ⟨(some 52), none, .load (some 15) (.t 51)⟩,
  ⟨(some 10), none, .alloc [(.str []), (.bool false), (.sl .clip []), (.sl .clip []), (.int .i64 0), (.str []), (.sl .clip []), (.int .i64 0), (.int .i64 0), (.str []), (.int .i64 0), (.sl .clip []), (.sl .clip []), (.sl .clip []), (.int .i64 0)] false⟩,
  ⟨none, none, .store 15 (.t 10) (.t 52)⟩])
 (.reg [⟨(some 53), none, .mov (.t 6)⟩,
  ⟨(some 54), none, .load (some 15) (.t 10)⟩,
  ⟨(some 55), none, .call 0 [] (.c (.fn 14 [])) [(.t 54)]⟩,
  ⟨(some 56), none, .bslice [(.str [])] 1 [(0, (.t 55))]⟩,
  ⟨(some 57), none, .append 1 (.t 53) (.t 56)⟩,
  ⟨(some 6), none, .mov (.t 57)⟩])))
 (.reg [⟨(some 58), none, .bin .add (.t 49) (.c (.int .i64 1))⟩,
  ⟨(some 49), none, .mov (.t 58)⟩])))))))
 (.seq (.reg [⟨(some 59), none, .mov (.t 3)⟩,
  ⟨(some 60), none, .call 0 [] (.c (.fn 35 [])) [(.t 59)]⟩,
  ⟨(some 61), none, .bin .add (.c (.str [99, 108, 97, 115, 115, 32])) (.t 60)⟩,
  ⟨(some 62), none, .faddr 0 (.t 1)⟩,
  ⟨(some 63), none, .loadL none (.t 62)⟩,
  ⟨(some 64), none, .bin .add (.t 61) (.t 63)⟩,
  ⟨(some 65), none, .bin .add (.t 64) (.c (.str [32]))⟩,
  ⟨(some 66), none, .faddr 1 (.t 1)⟩,
  ⟨(some 67), none, .loadL none (.t 66)⟩,
  ⟨(some 68), none, .bin .add (.t 65) (.t 67)⟩,
  ⟨(some 69), none, .bin .add (.t 68) (.c (.str [32, 119, 104, 101, 114, 101, 32]))⟩,
  ⟨(some 70), none, .mov (.t 6)⟩,
  ⟨(some 71), none, .call 0 [] (.c (.fn 33 [])) [(.t 70), (.c (.str [59, 32]))]⟩,
  ⟨(some 72), none, .call 0 [] (.c (.fn 36 [])) [(.t 71)]⟩,
  ⟨(some 73), none, .bin .add (.t 69) (.t 72)⟩,
  ⟨(some 2), none, .mov (.t 73)⟩])
 .ret))))))),
  [.t 2], false, true, 74⟩
theorem co12 : compF Tryz.prog ⟨[], [(3, [3, 12, 13, 14], [1]), (9, [3, 6, 28, 29, 30], [1]), (14, [3, 6, 47, 48, 49], [1])], [], [], [], [], 12, [], []⟩ false true Tryz.f12 = some ac12 := by kernel_rfl

/-- paideia/printer.instance -/
def ac13 : AF := ⟨(.seq (.reg [⟨(some 1), none, .box (.t 0) 6 false⟩,
  ⟨(some 2), none, .mov (.c (.str []))⟩])
 (.seq (.reg [⟨(some 4), none, .faddr 1 (.t 1)⟩,
  ⟨(some 5), none, .load none (.t 4)⟩,
  ⟨(some 3), none, .mov (.t 5)⟩])
 (.seq (.seq (.reg [⟨(some 6), none, .faddr 2 (.t 1)⟩,
  ⟨(some 7), none, .load none (.t 6)⟩,
  ⟨(some 8), none, .len 1 (.t 7)⟩,
  ⟨(some 9), none, .bin .gtr (.t 8) (.c (.int .i64 0))⟩])
 (.cond (.t 9) (.reg [⟨(some 10), none, .faddr 1 (.t 1)⟩,
  ⟨(some 11), none, .loadL none (.t 10)⟩,
  ⟨(some 12), none, .bin .add (.c (.str [40])) (.t 11)⟩,
  ⟨(some 13), none, .faddr 2 (.t 1)⟩,
  ⟨(some 14), none, .load none (.t 13)⟩,
  ⟨(some 15), none, .call 0 [] (.c (.fn 32 [])) [(.t 14)]⟩,
  ⟨(some 16), none, .bin .add (.t 12) (.t 15)⟩,
  ⟨(some 17), none, .bin .add (.t 16) (.c (.str [41]))⟩,
  ⟨(some 3), none, .mov (.t 17)⟩])
 .skip))
 (.seq (.reg [⟨(some 18), none, .faddr 3 (.t 1)⟩,
  ⟨(some 19), none, .load none (.t 18)⟩,
  ⟨(some 20), none, .call 0 [] (.c (.fn 35 [])) [(.t 19)]⟩,
  ⟨(some 21), none, .bin .add (.c (.str [105, 110, 115, 116, 97, 110, 99, 101, 32])) (.t 20)⟩,
  ⟨(some 22), none, .faddr 0 (.t 1)⟩,
  ⟨(some 23), none, .loadL none (.t 22)⟩,
  ⟨(some 24), none, .bin .add (.t 21) (.t 23)⟩,
  ⟨(some 25), none, .bin .add (.t 24) (.c (.str [32]))⟩,
  ⟨(some 26), none, .mov (.t 3)⟩,
  ⟨(some 27), none, .bin .add (.t 25) (.t 26)⟩,
  ⟨(some 28), none, .bin .add (.t 27) (.c (.str [32, 119, 104, 101, 114, 101, 32]))⟩,
  ⟨(some 29), none, .faddr 4 (.t 1)⟩,
  ⟨(some 30), none, .loadL none (.t 29)⟩,
  ⟨(some 31), none, .call 0 [] (.c (.fn 37 [])) [(.t 30), (.c (.str [59, 32])), (.c (.fn 14 []))]⟩,
  ⟨(some 32), none, .call 0 [] (.c (.fn 36 [])) [(.t 31)]⟩,
  ⟨(some 33), none, .bin .add (.t 28) (.t 32)⟩,
  ⟨(some 2), none, .mov (.t 33)⟩])
 .ret)))),
  [.t 2], false, true, 34⟩
theorem co13 : compF Tryz.prog ⟨[], [], [], [], [], [], 13, [], []⟩ false true Tryz.f13 = some ac13 := by kernel_rfl

/-- paideia/printer.Bind -/
def ac14 : AF := ⟨(.seq (.reg [⟨(some 1), none, .box (.t 0) 15 false⟩,
  ⟨(some 2), none, .mov (.c (.str []))⟩])
 (.seq (.reg [⟨(some 4), none, .faddr 0 (.t 1)⟩,
  ⟨(some 5), none, .load none (.t 4)⟩,
  ⟨(some 6), none, .call 0 [] (.c (.fn 34 [])) [(.t 5)]⟩,
  ⟨(some 7), none, .bin .add (.t 6) (.c (.str [32, 61, 32]))⟩,
  ⟨(some 8), none, .faddr 7 (.t 1)⟩,
  ⟨(some 9), none, .loadL (some 7) (.t 8)⟩,
  ⟨(some 10), none, .call 0 [] (.c (.fn 38 [])) [(.t 9)]⟩,
  ⟨(some 11), none, .bin .add (.t 7) (.t 10)⟩,
  ⟨(some 3), none, .mov (.t 11)⟩])
 (.seq (.seq (.reg [⟨(some 12), none, .faddr 1 (.t 1)⟩,
  ⟨(some 13), none, .load none (.t 12)⟩])
 (.cond (.t 13) (.seq (.reg [⟨(some 14), none, .faddr 0 (.t 1)⟩,
  ⟨(some 15), none, .load none (.t 14)⟩,
  ⟨(some 16), none, .call 0 [] (.c (.fn 34 [])) [(.t 15)]⟩,
  ⟨(some 17), none, .bin .add (.t 16) (.c (.str [32, 58, 58, 32]))⟩,
  ⟨(some 18), none, .faddr 2 (.t 1)⟩,
  ⟨(some 19), none, .loadL (some 5) (.t 18)⟩,
  ⟨(some 20), none, .call 0 [] (.c (.fn 39 [])) [(.t 19)]⟩,
  ⟨(some 21), none, .bin .add (.t 17) (.t 20)⟩,
  ⟨(some 22), none, .bin .add (.t 21) (.c (.str [59, 32]))⟩,
  ⟨(some 23), none, .mov (.t 3)⟩,
  ⟨(some 24), none, .bin .add (.t 22) (.t 23)⟩,
  ⟨(some 2), none, .mov (.t 24)⟩])
 .ret)
 .skip))
 (.seq (.reg [⟨(some 25), none, .mov (.t 3)⟩,
  ⟨(some 2), none, .mov (.t 25)⟩])
 .ret)))),
  [.t 2], false, true, 26⟩
theorem co14 : compF Tryz.prog ⟨[], [], [], [], [], [], 14, [], []⟩ false true Tryz.f14 = some ac14 := by kernel_rfl

/-- paideia/printer.joined[string] -/
def ac15 : AF := ⟨(.seq (.reg [⟨(some 6), none, .mov (.c (.str []))⟩])
 (.seq (.reg [⟨(some 7), none, .mov (.c (.sl .clip []))⟩])
 (.seq (.seq (.reg [⟨(some 10), none, .mov (.t 0)⟩,
  ⟨(some 11), none, .len 1 (.t 10)⟩,
  ⟨(some 12), none, .mov (.c (.int .i64 0))⟩])
 (.block 0 (.loop [1, 2, 7, 10, 11, 12] [] (.seq (.reg [⟨(some 13), none, .bin .lss (.t 12) (.t 11)⟩])
 (.seq (.cond (.t 13) .skip
 (.exit 0))
 (.seq (.block 1 (.seq (.reg [⟨(some 14), none, .iaddr 1 (.t 10) (.t 12)⟩,
  ⟨(some 15), none, .load none (.t 14)⟩,
  ⟨(some 9), none, .mov (.t 15)⟩])
 (.reg [⟨(some 16), none, .mov (.t 7)⟩,
  ⟨(some 17), none, .mov (.t 2)⟩,
  ⟨(some 18), none, .mov (.t 9)⟩,
  ⟨(some 19), none, .call 0 [] (.t 17) [(.t 18)]⟩,
  ⟨(some 20), none, .bslice [(.str [])] 1 [(0, (.t 19))]⟩,
  ⟨(some 21), none, .append 1 (.t 16) (.t 20)⟩,
  ⟨(some 7), none, .mov (.t 21)⟩])))
 (.reg [⟨(some 22), none, .bin .add (.t 12) (.c (.int .i64 1))⟩,
  ⟨(some 12), none, .mov (.t 22)⟩])))))))
 (.seq (.reg [⟨(some 23), none, .mov (.t 7)⟩,
  ⟨(some 24), none, .mov (.t 1)⟩,
  ⟨(some 25), none, .call 0 [] (.c (.fn 33 [])) [(.t 23), (.t 24)]⟩,
  ⟨(some 6), none, .mov (.t 25)⟩])
 .ret)))),
  [.t 6], false, true, 26⟩
theorem co15 : compF Tryz.prog ⟨[], [(3, [1, 2, 7, 10, 11, 12], [])], [], [], [], [], 15, [], []⟩ false true Tryz.f15 = some ac15 := by kernel_rfl

/-- paideia/printer.Program$1 -/
def ac16 : AF := ⟨(.seq (.reg [⟨(some 2), none, .mov (.c (.str []))⟩])
 (.seq (.reg [⟨(some 3), none, .mov (.t 0)⟩,
  ⟨(some 4), none, .bin .add (.t 3) (.c (.str [59, 10]))⟩,
  ⟨(some 2), none, .mov (.t 4)⟩])
 .ret)),
  [.t 2], false, false, 5⟩
theorem co16 : compF Tryz.prog ⟨[], [], [], [], [], [], 16, [], []⟩ false false Tryz.f16 = some ac16 := by kernel_rfl

/-- paideia/printer.left -/
def ac17 : AF := ⟨(.seq (.reg [⟨(some 1), none, .box (.t 0) 3 false⟩,
  ⟨(some 2), none, .mov (.c (.str []))⟩])
 (.seq (.seq (.reg [⟨(some 3), none, .faddr 0 (.t 1)⟩,
  ⟨(some 4), none, .load none (.t 3)⟩,
  ⟨(some 5), none, .bin .eql (.t 4) (.c (.int .i64 3))⟩,
  ⟨(some 6), none, .mov (.t 5)⟩,
  ⟨(some 7), (some (6, false)), .faddr 0 (.t 1)⟩,
  ⟨(some 8), (some (6, false)), .load none (.t 7)⟩,
  ⟨(some 9), (some (6, false)), .bin .eql (.t 8) (.c (.int .i64 4))⟩,
  ⟨(some 10), none, .pick (.t 6) (.c (.bool true)) (.t 9)⟩])
 (.cond (.t 10) (.seq (.reg [⟨(some 11), none, .load (some 3) (.t 1)⟩,
  ⟨(some 12), none, .call 0 [] (.c (.fn 7 [])) [(.t 11)]⟩,
  ⟨(some 13), none, .bin .add (.c (.str [40])) (.t 12)⟩,
  ⟨(some 14), none, .bin .add (.t 13) (.c (.str [41]))⟩,
  ⟨(some 2), none, .mov (.t 14)⟩])
 .ret)
 .skip))
 (.seq (.reg [⟨(some 15), none, .load (some 3) (.t 1)⟩,
  ⟨(some 16), none, .call 0 [] (.c (.fn 7 [])) [(.t 15)]⟩,
  ⟨(some 2), none, .mov (.t 16)⟩])
 .ret))),
  [.t 2], false, true, 17⟩
theorem co17 : compF Tryz.prog ⟨[], [], [], [], [], [], 17, [], []⟩ false true Tryz.f17 = some ac17 := by kernel_rfl

/-- paideia/printer.part -/
def ac18 : AF := ⟨(.seq (.reg [⟨(some 2), none, .box (.t 0) 3 false⟩,
  ⟨(some 4), none, .alloc [(.int .i64 0), (.str []), (.sl .clip [])] false⟩])
 (.seq (.seq (.reg [⟨(some 5), none, .mov (.t 1)⟩,
  ⟨(some 6), none, .faddr 2 (.t 2)⟩,
  ⟨(some 7), none, .load none (.t 6)⟩,
  ⟨(some 8), none, .len 1 (.t 7)⟩,
  ⟨(some 9), none, .bin .lss (.t 5) (.t 8)⟩])
 (.cond (.t 9) (.seq (.reg [⟨(some 10), none, .faddr 2 (.t 2)⟩,
  ⟨(some 11), none, .load none (.t 10)⟩,
  ⟨(some 12), none, .mov (.t 1)⟩,
  ⟨(some 13), none, .iaddr 3 (.t 11) (.t 12)⟩,
  ⟨(some 14), none, .load (some 3) (.t 13)⟩,
  ⟨none, none, .store 3 (.t 4) (.t 14)⟩])
 .ret)
 .skip))
 (.seq (.reg [⟨(some 15), none, .build [(.int .i64 0), (.str []), (.sl .clip [])] []⟩,
  ⟨none, none, .store 3 (.t 4) (.t 15)⟩])
 .ret))),
  [.cell 4 (some 3)], false, true, 16⟩
theorem co18 : compF Tryz.prog ⟨[], [], [], [], [], [], 18, [], []⟩ false true Tryz.f18 = some ac18 := by kernel_rfl

/-- paideia/printer.Arg -/
def ac19 : AF := ⟨(.seq (.reg [⟨(some 1), none, .box (.t 0) 3 false⟩,
  ⟨(some 2), none, .mov (.c (.str []))⟩])
 (.seq (.seq (.reg [⟨(some 3), none, .faddr 0 (.t 1)⟩,
  ⟨(some 4), none, .load none (.t 3)⟩,
  ⟨(some 5), none, .bin .eql (.t 4) (.c (.int .i64 3))⟩,
  ⟨(some 6), none, .mov (.t 5)⟩,
  ⟨(some 7), (some (6, false)), .faddr 0 (.t 1)⟩,
  ⟨(some 8), (some (6, false)), .load none (.t 7)⟩,
  ⟨(some 9), (some (6, false)), .bin .eql (.t 8) (.c (.int .i64 4))⟩,
  ⟨(some 10), none, .pick (.t 6) (.c (.bool true)) (.t 9)⟩,
  ⟨(some 11), none, .mov (.t 10)⟩,
  ⟨(some 12), (some (11, false)), .faddr 0 (.t 1)⟩,
  ⟨(some 13), (some (11, false)), .load none (.t 12)⟩,
  ⟨(some 14), (some (11, false)), .bin .eql (.t 13) (.c (.int .i64 2))⟩,
  ⟨(some 15), (some (11, false)), .mov (.t 14)⟩,
  ⟨(some 16), (some (15, true)), .faddr 2 (.t 1)⟩,
  ⟨(some 17), (some (15, true)), .load none (.t 16)⟩,
  ⟨(some 18), (some (15, true)), .len 1 (.t 17)⟩,
  ⟨(some 19), (some (15, true)), .bin .gtr (.t 18) (.c (.int .i64 0))⟩,
  ⟨(some 20), (some (11, false)), .pick (.t 15) (.t 19) (.c (.bool false))⟩,
  ⟨(some 21), none, .pick (.t 11) (.c (.bool true)) (.t 20)⟩])
 (.cond (.t 21) (.seq (.reg [⟨(some 22), none, .load (some 3) (.t 1)⟩,
  ⟨(some 23), none, .call 0 [] (.c (.fn 7 [])) [(.t 22)]⟩,
  ⟨(some 24), none, .bin .add (.c (.str [40])) (.t 23)⟩,
  ⟨(some 25), none, .bin .add (.t 24) (.c (.str [41]))⟩,
  ⟨(some 2), none, .mov (.t 25)⟩])
 .ret)
 .skip))
 (.seq (.reg [⟨(some 26), none, .load (some 3) (.t 1)⟩,
  ⟨(some 27), none, .call 0 [] (.c (.fn 7 [])) [(.t 26)]⟩,
  ⟨(some 2), none, .mov (.t 27)⟩])
 .ret))),
  [.t 2], false, true, 28⟩
theorem co19 : compF Tryz.prog ⟨[], [], [], [], [], [], 19, [], []⟩ false true Tryz.f19 = some ac19 := by kernel_rfl

/-- paideia/paideiaref1.Split -/
def ac20 : AF := ⟨(.seq (.reg [⟨(some 2), none, .mov (.c (.sl .clip []))⟩,
  ⟨(some 3), none, .alloc [(.int .i64 0), (.bool false), (.int .i64 0)] false⟩])
 (.seq (.seq (.reg [⟨(some 8), none, .mov (.t 0)⟩,
  ⟨(some 9), none, .len 1 (.t 8)⟩,
  ⟨(some 10), none, .bin .gtr (.t 9) (.c (.int .i64 20000))⟩])
 (.cond (.t 10) (.seq (.reg [⟨(some 11), none, .call 0 [] (.c (.fn 40 [])) [(.c (.int .i64 111)), (.c (.int .i64 20000))]⟩,
  ⟨(some 2), none, .mov (.c (.sl .clip []))⟩,
  ⟨none, none, .store 3 (.t 3) (.t 11)⟩])
 .ret)
 .skip))
 (.seq (.reg [⟨(some 4), none, .mov (.c (.sl .clip []))⟩])
 (.seq (.seq (.reg [⟨(some 5), none, .mov (.c (.int .i64 0))⟩])
 (.block 0 (.loop [0, 4, 5] [3] (.seq (.seq (.reg [⟨(some 12), none, .mov (.t 5)⟩,
  ⟨(some 13), none, .mov (.t 0)⟩,
  ⟨(some 14), none, .len 1 (.t 13)⟩,
  ⟨(some 15), none, .bin .lss (.t 12) (.t 14)⟩])
 (.cond (.t 15) .skip
 (.exit 0)))
 (.block 1 (.block 2 (.seq (.reg [⟨(some 37), none, .mov (.t 0)⟩,
  ⟨(some 38), none, .mov (.t 5)⟩,
  ⟨(some 39), none, .iaddr 1 (.t 37) (.t 38)⟩,
  ⟨(some 40), none, .load none (.t 39)⟩,
  ⟨(some 41), none, .bin .eql (.t 40) (.c (.int .u8 32))⟩,
  ⟨(some 42), none, .mov (.t 41)⟩,
  ⟨(some 43), (some (42, false)), .mov (.t 0)⟩,
  ⟨(some 44), (some (42, false)), .mov (.t 5)⟩,
  ⟨(some 45), (some (42, false)), .iaddr 1 (.t 43) (.t 44)⟩,
  ⟨(some 46), (some (42, false)), .load none (.t 45)⟩,
  ⟨(some 47), (some (42, false)), .bin .eql (.t 46) (.c (.int .u8 9))⟩,
  ⟨(some 48), none, .pick (.t 42) (.c (.bool true)) (.t 47)⟩,
  ⟨(some 49), none, .mov (.t 48)⟩,
  ⟨(some 50), (some (49, false)), .mov (.t 0)⟩,
  ⟨(some 51), (some (49, false)), .mov (.t 5)⟩,
  ⟨(some 52), (some (49, false)), .iaddr 1 (.t 50) (.t 51)⟩,
  ⟨(some 53), (some (49, false)), .load none (.t 52)⟩,
  ⟨(some 54), (some (49, false)), .bin .eql (.t 53) (.c (.int .u8 10))⟩,
  ⟨(some 55), none, .pick (.t 49) (.c (.bool true)) (.t 54)⟩,
  ⟨(some 56), none, .mov (.t 55)⟩,
  ⟨(some 57), (some (56, false)), .mov (.t 0)⟩,
  ⟨(some 58), (some (56, false)), .mov (.t 5)⟩,
  ⟨(some 59), (some (56, false)), .iaddr 1 (.t 57) (.t 58)⟩,
  ⟨(some 60), (some (56, false)), .load none (.t 59)⟩,
  ⟨(some 61), (some (56, false)), .bin .eql (.t 60) (.c (.int .u8 13))⟩,
  ⟨(some 62), none, .pick (.t 56) (.c (.bool true)) (.t 61)⟩,
  ⟨(some 36), none, .mov (.t 62)⟩])
 (.cond (.t 36) (.reg [⟨(some 63), none, .mov (.t 5)⟩,
  ⟨(some 64), none, .bin .add (.t 63) (.c (.int .i64 1))⟩,
  ⟨(some 5), none, .mov (.t 64)⟩])
 (.seq (.reg [⟨(some 66), none, .mov (.t 0)⟩,
  ⟨(some 67), none, .mov (.t 5)⟩,
  ⟨(some 68), none, .iaddr 1 (.t 66) (.t 67)⟩,
  ⟨(some 69), none, .load none (.t 68)⟩,
  ⟨(some 70), none, .bin .eql (.t 69) (.c (.int .u8 45))⟩,
  ⟨(some 71), none, .mov (.t 70)⟩,
  ⟨(some 72), (some (71, true)), .mov (.t 5)⟩,
  ⟨(some 73), (some (71, true)), .bin .add (.t 72) (.c (.int .i64 1))⟩,
  ⟨(some 74), (some (71, true)), .mov (.t 0)⟩,
  ⟨(some 75), (some (71, true)), .len 1 (.t 74)⟩,
  ⟨(some 76), (some (71, true)), .bin .lss (.t 73) (.t 75)⟩,
  ⟨(some 77), none, .pick (.t 71) (.t 76) (.c (.bool false))⟩,
  ⟨(some 78), none, .mov (.t 77)⟩,
  ⟨(some 79), (some (78, true)), .mov (.t 0)⟩,
  ⟨(some 80), (some (78, true)), .mov (.t 5)⟩,
  ⟨(some 81), (some (78, true)), .bin .add (.t 80) (.c (.int .i64 1))⟩,
  ⟨(some 82), (some (78, true)), .iaddr 1 (.t 79) (.t 81)⟩,
  ⟨(some 83), (some (78, true)), .load none (.t 82)⟩,
  ⟨(some 84), (some (78, true)), .bin .eql (.t 83) (.c (.int .u8 45))⟩,
  ⟨(some 85), none, .pick (.t 78) (.t 84) (.c (.bool false))⟩,
  ⟨(some 65), none, .mov (.t 85)⟩])
 (.cond (.t 65) (.block 3 (.loop [0, 4, 5] [3] (.seq (.seq (.reg [⟨(some 86), none, .mov (.t 5)⟩,
  ⟨(some 87), none, .mov (.t 0)⟩,
  ⟨(some 88), none, .len 1 (.t 87)⟩,
  ⟨(some 89), none, .bin .lss (.t 86) (.t 88)⟩,
  ⟨(some 90), none, .mov (.t 89)⟩,
  ⟨(some 91), (some (90, true)), .mov (.t 0)⟩,
  ⟨(some 92), (some (90, true)), .mov (.t 5)⟩,
  ⟨(some 93), (some (90, true)), .iaddr 1 (.t 91) (.t 92)⟩,
  ⟨(some 94), (some (90, true)), .load none (.t 93)⟩,
  ⟨(some 95), (some (90, true)), .bin .neq (.t 94) (.c (.int .u8 10))⟩,
  ⟨(some 96), none, .pick (.t 90) (.t 95) (.c (.bool false))⟩])
 (.cond (.t 96) .skip
 (.exit 3)))
 (.block 4 (.reg [⟨(some 97), none, .mov (.t 5)⟩,
  ⟨(some 98), none, .bin .add (.t 97) (.c (.int .i64 1))⟩,
  ⟨(some 5), none, .mov (.t 98)⟩])))))
 (.seq (.reg [⟨(some 17), none, .mov (.t 0)⟩,
  ⟨(some 18), none, .mov (.t 5)⟩,
  ⟨(some 19), none, .slice 1 (.t 17) (some (.t 18)) none none⟩,
  ⟨(some 20), none, .call 0 [] (.c (.fn 41 [])) [(.t 19)]⟩,
  ⟨(some 16), none, .mov (.t 20)⟩,
  ⟨(some 21), none, .extract (.t 16) 0⟩,
  ⟨(some 22), none, .extract (.t 16) 1⟩,
  ⟨(some 6), none, .alloc [(.int .i64 0), (.int .i64 0), (.str []), (.int .i64 0)] false⟩,
  ⟨none, none, .store 4 (.t 6) (.t 21)⟩,
  ⟨(some 7), none, .mov (.t 22)⟩])
 (.seq (.seq (.reg [⟨(some 23), none, .mov (.t 7)⟩,
  ⟨(some 24), none, .bin .eql (.t 23) (.c (.int .i64 0))⟩])
 (.cond (.t 24) (.seq (.reg [⟨(some 25), none, .mov (.t 5)⟩,
  ⟨(some 26), none, .call 0 [] (.c (.fn 40 [])) [(.c (.int .i64 101)), (.t 25)]⟩,
  ⟨(some 2), none, .mov (.c (.sl .clip []))⟩,
  ⟨none, none, .store 3 (.t 3) (.t 26)⟩])
 .ret)
 .skip))
 (.seq (.reg [⟨(some 27), none, .mov (.t 5)⟩,
  ⟨(some 28), none, .faddr 1 (.t 6)⟩,
  ⟨none, none, .store 1 (.t 28) (.t 27)⟩])
 (.seq (.reg [⟨(some 29), none, .mov (.t 4)⟩,
  ⟨(some 30), none, .load (some 4) (.t 6)⟩,
  ⟨(some 31), none, .bslice [(.int .i64 0), (.int .i64 0), (.str []), (.int .i64 0)] 1 [(0, (.t 30))]⟩,
  ⟨(some 32), none, .append 4 (.t 29) (.t 31)⟩,
  ⟨(some 4), none, .mov (.t 32)⟩])
 (.reg [⟨(some 33), none, .mov (.t 5)⟩,
  ⟨(some 34), none, .mov (.t 7)⟩,
  ⟨(some 35), none, .bin .add (.t 33) (.t 34)⟩,
  ⟨(some 5), none, .mov (.t 35)⟩])))))))))))))))
 (.seq (.reg [⟨(some 99), none, .mov (.t 4)⟩,
  ⟨(some 100), none, .call 0 [] (.c (.fn 42 [])) []⟩,
  ⟨(some 2), none, .mov (.t 99)⟩,
  ⟨none, none, .store 3 (.t 3) (.t 100)⟩])
 .ret))))),
  [.t 2, .cell 3 (some 3)], false, true, 101⟩
theorem co20 : compF Tryz.prog ⟨[], [(5, [0, 4, 5], [3]), (15, [0, 4, 5], [3])], [], [], [], [], 20, [], []⟩ false true Tryz.f20 = some ac20 := by kernel_rfl

/-- (*paideia/paideiaref1.parser).fine -/
def ac21 : AF := ⟨(.seq (.reg [⟨(some 2), none, .mov (.c (.bool false))⟩])
 (.seq (.reg [⟨(some 3), none, .mov (.t 0)⟩,
  ⟨(some 4), none, .nilck (.t 3)⟩,
  ⟨(some 5), none, .faddr 3 (.t 4)⟩,
  ⟨(some 6), none, .faddr 0 (.t 5)⟩,
  ⟨(some 7), none, .load none (.t 6)⟩,
  ⟨(some 8), none, .bin .eql (.t 7) (.c (.int .i64 0))⟩,
  ⟨(some 2), none, .mov (.t 8)⟩])
 .ret)),
  [.t 2], false, false, 9⟩
theorem co21 : compF Tryz.prog ⟨[], [], [], [], [], [], 21, [], []⟩ false false Tryz.f21 = some ac21 := by kernel_rfl

/-- (*paideia/paideiaref1.parser).is -/
def ac22 : AF := ⟨(.seq (.reg [⟨(some 4), none, .mov (.c (.bool false))⟩])
 (.seq (.reg [⟨(some 5), none, .mov (.t 0)⟩,
  ⟨(some 6), none, .mov (.t 0)⟩,
  ⟨(some 7), none, .nilck (.t 6)⟩,
  ⟨(some 8), none, .faddr 1 (.t 7)⟩,
  ⟨(some 9), none, .load none (.t 8)⟩,
  ⟨(some 10), none, .mov (.t 1)⟩,
  ⟨(some 11), none, .call 0 [] (.c (.fn 43 [])) [(.t 5), (.t 9), (.t 10)]⟩,
  ⟨(some 4), none, .mov (.t 11)⟩])
 .ret)),
  [.t 4], false, false, 12⟩
theorem co22 : compF Tryz.prog ⟨[], [], [], [], [], [], 22, [], []⟩ false false Tryz.f22 = some ac22 := by kernel_rfl

/-- (*paideia/paideiaref1.parser).data -/
def ac23 : AF := ⟨(.seq (.reg [⟨(some 2), none, .alloc [(.str []), (.sl .clip []), (.sl .clip []), (.sl .clip []), (.int .i64 0)] false⟩])
 (.seq (.reg [⟨(some 5), none, .mov (.t 0)⟩,
  ⟨(some 6), none, .call 0 [] (.c (.fn 44 [])) [(.t 5)]⟩,
  ⟨(some 7), none, .build [(.str []), (.sl .clip []), (.sl .clip []), (.sl .clip []), (.int .i64 0)] [(4, 1, (.t 6))]⟩,
  ⟨(some 3), none, .alloc [(.str []), (.sl .clip []), (.sl .clip []), (.sl .clip []), (.int .i64 0)] false⟩,
  ⟨none, none, .store 5 (.t 3) (.t 7)⟩])
 (.seq (.reg [⟨(some 8), none, .mov (.t 0)⟩,
  ⟨(some 9), none, .call 0 [] (.c (.fn 45 [])) [(.t 8), (.c (.str [100, 97, 116, 97]))]⟩])
 (.seq (.reg [⟨(some 10), none, .mov (.t 0)⟩,
  ⟨(some 11), none, .call 0 [] (.c (.fn 46 [])) [(.t 10), (.c (.int .i64 2))]⟩,
  ⟨(some 12), none, .faddr 0 (.t 3)⟩,
  ⟨none, none, .store 1 (.t 12) (.t 11)⟩])
 (.seq (.block 0 (.loop [0] [2, 3] (.seq (.seq (.reg [⟨(some 13), none, .mov (.t 0)⟩,
  ⟨(some 14), none, .call 0 [] (.c (.fn 47 [])) [(.t 13), (.c (.int .i64 1))]⟩])
 (.cond (.t 14) .skip
 (.exit 0)))
 (.block 1 (.reg [⟨(some 15), none, .faddr 1 (.t 3)⟩,
  ⟨(some 16), none, .loadL none (.t 15)⟩,
  ⟨(some 17), none, .mov (.t 0)⟩,
  ⟨(some 18), none, .call 0 [] (.c (.fn 46 [])) [(.t 17), (.c (.int .i64 1))]⟩,
  ⟨(some 19), none, .bslice [(.str [])] 1 [(0, (.t 18))]⟩,
  ⟨(some 20), none, .append 1 (.t 16) (.t 19)⟩,
  ⟨(some 21), none, .faddr 1 (.t 3)⟩,
  ⟨none, none, .store 1 (.t 21) (.t 20)⟩])))))
 (.seq (.reg [⟨(some 22), none, .mov (.t 0)⟩,
  ⟨(some 23), none, .call 0 [] (.c (.fn 45 [])) [(.t 22), (.c (.str [61]))]⟩])
 (.seq (.block 2 (.loop [0] [2, 3] (.seq (.seq (.reg [⟨(some 24), none, .mov (.t 0)⟩,
  ⟨(some 25), none, .call 0 [] (.c (.fn 21 [])) [(.t 24)]⟩])
 (.cond (.t 25) .skip
 (.exit 2)))
 (.block 3 (.seq (.reg [⟨(some 26), none, .mov (.t 0)⟩,
  ⟨(some 27), none, .call 0 [] (.c (.fn 46 [])) [(.t 26), (.c (.int .i64 2))]⟩,
  ⟨(some 28), none, .build [(.str []), (.sl .clip [])] [(0, 1, (.t 27))]⟩,
  ⟨(some 4), none, .alloc [(.str []), (.sl .clip [])] false⟩,
  ⟨none, none, .store 2 (.t 4) (.t 28)⟩])
 (.seq (.block 4 (.loop [0] [2, 3, 4] (.seq (.seq (.reg [⟨(some 29), none, .mov (.t 0)⟩,
  ⟨(some 30), none, .call 0 [] (.c (.fn 48 [])) [(.t 29)]⟩])
 (.cond (.t 30) .skip
 (.exit 4)))
 (.block 5 (.reg [⟨(some 31), none, .faddr 1 (.t 4)⟩,
  ⟨(some 32), none, .loadL none (.t 31)⟩,
  ⟨(some 33), none, .mov (.t 0)⟩,
  ⟨(some 34), none, .call 0 [] (.c (.fn 49 [])) [(.t 33)]⟩,
  ⟨(some 35), none, .bslice [(.int .i64 0), (.str []), (.sl .clip [])] 1 [(0, (.t 34))]⟩,
  ⟨(some 36), none, .append 3 (.t 32) (.t 35)⟩,
  ⟨(some 37), none, .faddr 1 (.t 4)⟩,
  ⟨none, none, .store 1 (.t 37) (.t 36)⟩])))))
 (.seq (.reg [⟨(some 38), none, .faddr 2 (.t 3)⟩,
  ⟨(some 39), none, .load none (.t 38)⟩,
  ⟨(some 40), none, .load (some 2) (.t 4)⟩,
  ⟨(some 41), none, .bslice [(.str []), (.sl .clip [])] 1 [(0, (.t 40))]⟩,
  ⟨(some 42), none, .append 2 (.t 39) (.t 41)⟩,
  ⟨(some 43), none, .faddr 2 (.t 3)⟩,
  ⟨none, none, .store 1 (.t 43) (.t 42)⟩])
 (.seq (.seq (.reg [⟨(some 44), none, .mov (.t 0)⟩,
  ⟨(some 45), none, .call 0 [] (.c (.fn 22 [])) [(.t 44), (.c (.str [124]))]⟩,
  ⟨(some 46), none, .not (.t 45)⟩])
 (.cond (.t 46) (.exit 2)
 .skip))
 (.reg [⟨(some 47), none, .mov (.t 0)⟩,
  ⟨(some 48), none, .mov (.t 0)⟩,
  ⟨(some 49), none, .nilck (.t 48)⟩,
  ⟨(some 50), none, .faddr 1 (.t 49)⟩,
  ⟨(some 51), none, .load none (.t 50)⟩,
  ⟨(some 52), none, .bin .add (.t 51) (.c (.int .i64 1))⟩,
  ⟨(some 53), none, .nilck (.t 47)⟩,
  ⟨(some 54), none, .faddr 1 (.t 53)⟩,
  ⟨none, none, .store 1 (.t 54) (.t 52)⟩])))))))))
 (.seq (.seq (.reg [⟨(some 55), none, .mov (.t 0)⟩,
  ⟨(some 56), none, .call 0 [] (.c (.fn 22 [])) [(.t 55), (.c (.str [100, 101, 114, 105, 118, 105, 110, 103]))]⟩,
  ⟨(some 57), none, .not (.t 56)⟩])
 (.cond (.t 57) (.seq (.reg [⟨(some 58), none, .load (some 5) (.t 3)⟩,
  ⟨none, none, .store 5 (.t 2) (.t 58)⟩])
 .ret)
 .skip))
 (.seq (.reg [⟨(some 59), none, .mov (.t 0)⟩,
  ⟨(some 60), none, .mov (.t 0)⟩,
  ⟨(some 61), none, .nilck (.t 60)⟩,
  ⟨(some 62), none, .faddr 1 (.t 61)⟩,
  ⟨(some 63), none, .load none (.t 62)⟩,
  ⟨(some 64), none, .bin .add (.t 63) (.c (.int .i64 1))⟩,
  ⟨(some 65), none, .nilck (.t 59)⟩,
  ⟨(some 66), none, .faddr 1 (.t 65)⟩,
  ⟨none, none, .store 1 (.t 66) (.t 64)⟩])
 (.seq (.seq (.reg [⟨(some 67), none, .mov (.t 0)⟩,
  ⟨(some 68), none, .call 0 [] (.c (.fn 22 [])) [(.t 67), (.c (.str [40]))]⟩,
  ⟨(some 69), none, .not (.t 68)⟩])
 (.cond (.t 69) (.seq (.reg [⟨(some 70), none, .mov (.t 0)⟩,
  ⟨(some 71), none, .call 0 [] (.c (.fn 46 [])) [(.t 70), (.c (.int .i64 2))]⟩,
  ⟨(some 72), none, .bslice [(.str [])] 1 [(0, (.t 71))]⟩,
  ⟨(some 73), none, .faddr 3 (.t 3)⟩,
  ⟨none, none, .store 1 (.t 73) (.t 72)⟩])
 (.seq (.reg [⟨(some 74), none, .load (some 5) (.t 3)⟩,
  ⟨none, none, .store 5 (.t 2) (.t 74)⟩])
 .ret))
 .skip))
 (.seq (.reg [⟨(some 75), none, .mov (.t 0)⟩,
  ⟨(some 76), none, .mov (.t 0)⟩,
  ⟨(some 77), none, .nilck (.t 76)⟩,
  ⟨(some 78), none, .faddr 1 (.t 77)⟩,
  ⟨(some 79), none, .load none (.t 78)⟩,
  ⟨(some 80), none, .bin .add (.t 79) (.c (.int .i64 1))⟩,
  ⟨(some 81), none, .nilck (.t 75)⟩,
  ⟨(some 82), none, .faddr 1 (.t 81)⟩,
  ⟨none, none, .store 1 (.t 82) (.t 80)⟩])
 (.seq (.seq (.reg [⟨(some 83), none, .mov (.t 0)⟩,
  ⟨(some 84), none, .call 0 [] (.c (.fn 22 [])) [(.t 83), (.c (.str [41]))]⟩])
 (.cond (.t 84) (.seq (.reg [⟨(some 85), none, .mov (.t 0)⟩,
  ⟨(some 86), none, .mov (.t 0)⟩,
  ⟨(some 87), none, .nilck (.t 86)⟩,
  ⟨(some 88), none, .faddr 1 (.t 87)⟩,
  ⟨(some 89), none, .load none (.t 88)⟩,
  ⟨(some 90), none, .bin .add (.t 89) (.c (.int .i64 1))⟩,
  ⟨(some 91), none, .nilck (.t 85)⟩,
  ⟨(some 92), none, .faddr 1 (.t 91)⟩,
  ⟨none, none, .store 1 (.t 92) (.t 90)⟩])
 (.seq (.reg [⟨(some 93), none, .load (some 5) (.t 3)⟩,
  ⟨none, none, .store 5 (.t 2) (.t 93)⟩])
 .ret))
 .skip))
 (.seq (.reg [⟨(some 94), none, .faddr 3 (.t 3)⟩,
  ⟨(some 95), none, .loadL none (.t 94)⟩,
  ⟨(some 96), none, .mov (.t 0)⟩,
  ⟨(some 97), none, .call 0 [] (.c (.fn 46 [])) [(.t 96), (.c (.int .i64 2))]⟩,
  ⟨(some 98), none, .bslice [(.str [])] 1 [(0, (.t 97))]⟩,
  ⟨(some 99), none, .append 1 (.t 95) (.t 98)⟩,
  ⟨(some 100), none, .faddr 3 (.t 3)⟩,
  ⟨none, none, .store 1 (.t 100) (.t 99)⟩])
 (.seq (.block 6 (.loop [0] [2, 3] (.seq (.seq (.reg [⟨(some 101), none, .mov (.t 0)⟩,
  ⟨(some 102), none, .call 0 [] (.c (.fn 22 [])) [(.t 101), (.c (.str [44]))]⟩])
 (.cond (.t 102) .skip
 (.exit 6)))
 (.block 7 (.seq (.reg [⟨(some 103), none, .mov (.t 0)⟩,
  ⟨(some 104), none, .mov (.t 0)⟩,
  ⟨(some 105), none, .nilck (.t 104)⟩,
  ⟨(some 106), none, .faddr 1 (.t 105)⟩,
  ⟨(some 107), none, .load none (.t 106)⟩,
  ⟨(some 108), none, .bin .add (.t 107) (.c (.int .i64 1))⟩,
  ⟨(some 109), none, .nilck (.t 103)⟩,
  ⟨(some 110), none, .faddr 1 (.t 109)⟩,
  ⟨none, none, .store 1 (.t 110) (.t 108)⟩])
 (.reg [⟨(some 111), none, .faddr 3 (.t 3)⟩,
  ⟨(some 112), none, .loadL none (.t 111)⟩,
  ⟨(some 113), none, .mov (.t 0)⟩,
  ⟨(some 114), none, .call 0 [] (.c (.fn 46 [])) [(.t 113), (.c (.int .i64 2))]⟩,
  ⟨(some 115), none, .bslice [(.str [])] 1 [(0, (.t 114))]⟩,
  ⟨(some 116), none, .append 1 (.t 112) (.t 115)⟩,
  ⟨(some 117), none, .faddr 3 (.t 3)⟩,
  ⟨none, none, .store 1 (.t 117) (.t 116)⟩]))))))
 (.seq (.reg [⟨(some 118), none, .mov (.t 0)⟩,
  ⟨(some 119), none, .call 0 [] (.c (.fn 45 [])) [(.t 118), (.c (.str [41]))]⟩])
 (.seq (.reg [⟨(some 120), none, .load (some 5) (.t 3)⟩,
  ⟨none, none, .store 5 (.t 2) (.t 120)⟩])
 .ret)))))))))))))))),
  [.cell 2 (some 5)], false, false, 121⟩
theorem co23 : compF Tryz.prog ⟨[], [(4, [0], [2, 3]), (7, [0], [2, 3]), (9, [0], [2, 3, 4]), (25, [0], [2, 3])], [], [], [], [], 23, [], []⟩ false false Tryz.f23 = some ac23 := by kernel_rfl

/-- (*paideia/paideiaref1.parser).class -/
def ac24 : AF := ⟨(.seq (.reg [⟨(some 2), none, .alloc [(.str []), (.str []), (.sl .clip []), (.sl .clip []), (.sl .clip []), (.int .i64 0)] false⟩])
 (.seq (.reg [⟨(some 9), none, .mov (.t 0)⟩,
  ⟨(some 10), none, .call 0 [] (.c (.fn 44 [])) [(.t 9)]⟩,
  ⟨(some 11), none, .build [(.str []), (.str []), (.sl .clip []), (.sl .clip []), (.sl .clip []), (.int .i64 0)] [(5, 1, (.t 10))]⟩,
  ⟨(some 3), none, .alloc [(.str []), (.str []), (.sl .clip []), (.sl .clip []), (.sl .clip []), (.int .i64 0)] false⟩,
  ⟨none, none, .store 6 (.t 3) (.t 11)⟩])
 (.seq (.reg [⟨(some 12), none, .mov (.t 0)⟩,
  ⟨(some 13), none, .call 0 [] (.c (.fn 45 [])) [(.t 12), (.c (.str [99, 108, 97, 115, 115]))]⟩])
 (.seq (.reg [⟨(some 14), none, .mov (.t 0)⟩,
  ⟨(some 15), none, .call 0 [] (.c (.fn 50 [])) [(.t 14), (.c (.bool true))]⟩,
  ⟨(some 4), none, .mov (.t 15)⟩])
 (.seq (.reg [⟨(some 16), none, .mov (.t 0)⟩,
  ⟨(some 17), none, .call 0 [] (.c (.fn 46 [])) [(.t 16), (.c (.int .i64 2))]⟩,
  ⟨(some 18), none, .faddr 0 (.t 3)⟩,
  ⟨none, none, .store 1 (.t 18) (.t 17)⟩])
 (.seq (.reg [⟨(some 19), none, .mov (.t 0)⟩,
  ⟨(some 20), none, .call 0 [] (.c (.fn 44 [])) [(.t 19)]⟩,
  ⟨(some 5), none, .mov (.t 20)⟩])
 (.seq (.reg [⟨(some 21), none, .mov (.t 0)⟩,
  ⟨(some 22), none, .call 0 [] (.c (.fn 46 [])) [(.t 21), (.c (.int .i64 1))]⟩,
  ⟨(some 23), none, .faddr 1 (.t 3)⟩,
  ⟨none, none, .store 1 (.t 23) (.t 22)⟩])
 (.seq (.seq (.reg [⟨(some 6), none, .mov (.c (.int .i64 0))⟩])
 (.block 0 (.loop [0, 4, 5, 6] [2, 3] (.seq (.seq (.reg [⟨(some 24), none, .mov (.t 6)⟩,
  ⟨(some 25), none, .mov (.t 4)⟩,
  ⟨(some 26), none, .len 1 (.t 25)⟩,
  ⟨(some 27), none, .bin .lss (.t 24) (.t 26)⟩])
 (.cond (.t 27) .skip
 (.exit 0)))
 (.seq (.block 1 (.seq (.seq (.reg [⟨(some 30), none, .mov (.t 4)⟩,
  ⟨(some 31), none, .mov (.t 6)⟩,
  ⟨(some 32), none, .iaddr 4 (.t 30) (.t 31)⟩,
  ⟨(some 33), none, .faddr 1 (.t 32)⟩,
  ⟨(some 34), none, .faddr 1 (.t 33)⟩,
  ⟨(some 35), none, .load none (.t 34)⟩,
  ⟨(some 36), none, .faddr 1 (.t 3)⟩,
  ⟨(some 37), none, .load none (.t 36)⟩,
  ⟨(some 38), none, .bin .neq (.t 35) (.t 37)⟩])
 (.cond (.t 38) (.reg [⟨(some 39), none, .mov (.t 0)⟩,
  ⟨(some 40), none, .mov (.t 5)⟩,
  ⟨(some 41), none, .call 0 [] (.c (.fn 51 [])) [(.t 39), (.c (.int .i64 102)), (.t 40)]⟩])
 .skip))
 (.reg [⟨(some 42), none, .faddr 2 (.t 3)⟩,
  ⟨(some 43), none, .load none (.t 42)⟩,
  ⟨(some 44), none, .mov (.t 4)⟩,
  ⟨(some 45), none, .mov (.t 6)⟩,
  ⟨(some 46), none, .iaddr 4 (.t 44) (.t 45)⟩,
  ⟨(some 47), none, .faddr 0 (.t 46)⟩,
  ⟨(some 48), none, .load none (.t 47)⟩,
  ⟨(some 49), none, .bslice [(.str [])] 1 [(0, (.t 48))]⟩,
  ⟨(some 50), none, .append 1 (.t 43) (.t 49)⟩,
  ⟨(some 51), none, .faddr 2 (.t 3)⟩,
  ⟨none, none, .store 1 (.t 51) (.t 50)⟩])))
 (.reg [⟨(some 28), none, .mov (.t 6)⟩,
  ⟨(some 29), none, .bin .add (.t 28) (.c (.int .i64 1))⟩,
  ⟨(some 6), none, .mov (.t 29)⟩]))))))
 (.seq (.reg [⟨(some 52), none, .mov (.t 0)⟩,
  ⟨(some 53), none, .call 0 [] (.c (.fn 45 [])) [(.t 52), (.c (.str [119, 104, 101, 114, 101]))]⟩])
 (.seq (.reg [⟨(some 54), none, .mov (.t 0)⟩,
  ⟨(some 55), none, .call 0 [] (.c (.fn 45 [])) [(.t 54), (.c (.str [123]))]⟩])
 (.seq (.block 2 (.loop [0] [2, 3] (.seq (.seq (.reg [⟨(some 56), none, .mov (.t 0)⟩,
  ⟨(some 57), none, .call 0 [] (.c (.fn 21 [])) [(.t 56)]⟩])
 (.cond (.t 57) .skip
 (.exit 2)))
 (.block 3 (.seq (.block 4 (.loop [0] [2, 3] (.seq (.seq (.reg [⟨(some 58), none, .mov (.t 0)⟩,
  ⟨(some 59), none, .call 0 [] (.c (.fn 22 [])) [(.t 58), (.c (.str [59]))]⟩])
 (.cond (.t 59) .skip
 (.exit 4)))
 (.block 5 (.reg [⟨(some 60), none, .mov (.t 0)⟩,
  ⟨(some 61), none, .mov (.t 0)⟩,
  ⟨(some 62), none, .nilck (.t 61)⟩,
  ⟨(some 63), none, .faddr 1 (.t 62)⟩,
  ⟨(some 64), none, .load none (.t 63)⟩,
  ⟨(some 65), none, .bin .add (.t 64) (.c (.int .i64 1))⟩,
  ⟨(some 66), none, .nilck (.t 60)⟩,
  ⟨(some 67), none, .faddr 1 (.t 66)⟩,
  ⟨none, none, .store 1 (.t 67) (.t 65)⟩])))))
 (.seq (.seq (.reg [⟨(some 68), none, .mov (.t 0)⟩,
  ⟨(some 69), none, .call 0 [] (.c (.fn 22 [])) [(.t 68), (.c (.str [125]))]⟩])
 (.cond (.t 69) (.exit 2)
 .skip))
 (.seq (.reg [⟨(some 71), none, .mov (.t 0)⟩,
  ⟨(some 72), none, .call 0 [] (.c (.fn 26 [])) [(.t 71), (.c (.sl .clip [])), (.c (.sl .clip []))]⟩,
  ⟨(some 70), none, .mov (.t 72)⟩,
  ⟨(some 73), none, .extract (.t 70) 0⟩,
  ⟨(some 74), none, .extract (.t 70) 1⟩,
  ⟨(some 7), none, .mov (.t 73)⟩,
  ⟨(some 8), none, .mov (.t 74)⟩])
 (.seq (.seq (.reg [⟨(some 75), none, .mov (.t 7)⟩,
  ⟨(some 76), none, .len 1 (.t 75)⟩,
  ⟨(some 77), none, .bin .gtr (.t 76) (.c (.int .i64 0))⟩])
 (.cond (.t 77) (.seq (.seq (.reg [⟨(some 78), none, .mov (.t 7)⟩,
  ⟨(some 79), none, .iaddr 7 (.t 78) (.c (.int .i64 0))⟩,
  ⟨(some 80), none, .faddr 2 (.t 79)⟩,
  ⟨(some 81), none, .faddr 1 (.t 80)⟩,
  ⟨(some 82), none, .load none (.t 81)⟩,
  ⟨(some 83), none, .len 1 (.t 82)⟩,
  ⟨(some 84), none, .bin .gtr (.t 83) (.c (.int .i64 0))⟩])
 (.cond (.t 84) (.reg [⟨(some 85), none, .mov (.t 0)⟩,
  ⟨(some 86), none, .mov (.t 7)⟩,
  ⟨(some 87), none, .iaddr 7 (.t 86) (.c (.int .i64 0))⟩,
  ⟨(some 88), none, .faddr 1 (.t 87)⟩,
  ⟨(some 89), none, .load none (.t 88)⟩,
  ⟨(some 90), none, .call 0 [] (.c (.fn 51 [])) [(.t 85), (.c (.int .i64 102)), (.t 89)]⟩])
 .skip))
 (.reg [⟨(some 91), none, .faddr 3 (.t 3)⟩,
  ⟨(some 92), none, .load none (.t 91)⟩,
  ⟨(some 93), none, .mov (.t 7)⟩,
  ⟨(some 94), none, .iaddr 7 (.t 93) (.c (.int .i64 0))⟩,
  ⟨(some 95), none, .faddr 0 (.t 94)⟩,
  ⟨(some 96), none, .load none (.t 95)⟩,
  ⟨(some 97), none, .mov (.t 7)⟩,
  ⟨(some 98), none, .iaddr 7 (.t 97) (.c (.int .i64 0))⟩,
  ⟨(some 99), none, .faddr 2 (.t 98)⟩,
  ⟨(some 100), none, .faddr 2 (.t 99)⟩,
  ⟨(some 101), none, .load (some 3) (.t 100)⟩,
  ⟨(some 102), none, .build [(.str []), (.int .i64 0), (.str []), (.sl .clip [])] [(0, 1, (.t 96)), (1, 3, (.t 101))]⟩,
  ⟨(some 103), none, .bslice [(.str []), (.int .i64 0), (.str []), (.sl .clip [])] 1 [(0, (.t 102))]⟩,
  ⟨(some 104), none, .append 4 (.t 92) (.t 103)⟩,
  ⟨(some 105), none, .faddr 3 (.t 3)⟩,
  ⟨none, none, .store 1 (.t 105) (.t 104)⟩]))
 .skip))
 (.seq (.reg [⟨(some 106), none, .faddr 4 (.t 3)⟩,
  ⟨(some 107), none, .load none (.t 106)⟩,
  ⟨(some 108), none, .mov (.t 8)⟩,
  ⟨(some 109), none, .append 15 (.t 107) (.t 108)⟩,
  ⟨(some 110), none, .faddr 4 (.t 3)⟩,
  ⟨none, none, .store 1 (.t 110) (.t 109)⟩])
 (.reg [⟨(some 111), none, .mov (.t 0)⟩,
  ⟨(some 112), none, .call 0 [] (.c (.fn 27 [])) [(.t 111), (.c (.bool true))]⟩]))))))))))
 (.seq (.reg [⟨(some 113), none, .mov (.t 0)⟩,
  ⟨(some 114), none, .call 0 [] (.c (.fn 45 [])) [(.t 113), (.c (.str [125]))]⟩])
 (.seq (.reg [⟨(some 115), none, .load (some 6) (.t 3)⟩,
  ⟨none, none, .store 6 (.t 2) (.t 115)⟩])
 .ret))))))))))))),
  [.cell 2 (some 6)], false, false, 116⟩
theorem co24 : compF Tryz.prog ⟨[], [(8, [0, 4, 5, 6], [2, 3]), (15, [0], [2, 3]), (16, [0], [2, 3])], [], [], [], [], 24, [], []⟩ false false Tryz.f24 = some ac24 := by kernel_rfl

/-- (*paideia/paideiaref1.parser).instance -/
def ac25 : AF := ⟨(.seq (.reg [⟨(some 2), none, .alloc [(.str []), (.str []), (.sl .clip []), (.sl .clip []), (.sl .clip []), (.int .i64 0)] false⟩])
 (.seq (.reg [⟨(some 4), none, .mov (.t 0)⟩,
  ⟨(some 5), none, .call 0 [] (.c (.fn 44 [])) [(.t 4)]⟩,
  ⟨(some 6), none, .build [(.str []), (.str []), (.sl .clip []), (.sl .clip []), (.sl .clip []), (.int .i64 0)] [(5, 1, (.t 5))]⟩,
  ⟨(some 3), none, .alloc [(.str []), (.str []), (.sl .clip []), (.sl .clip []), (.sl .clip []), (.int .i64 0)] false⟩,
  ⟨none, none, .store 6 (.t 3) (.t 6)⟩])
 (.seq (.reg [⟨(some 7), none, .mov (.t 0)⟩,
  ⟨(some 8), none, .call 0 [] (.c (.fn 45 [])) [(.t 7), (.c (.str [105, 110, 115, 116, 97, 110, 99, 101]))]⟩])
 (.seq (.reg [⟨(some 9), none, .mov (.t 0)⟩,
  ⟨(some 10), none, .call 0 [] (.c (.fn 50 [])) [(.t 9), (.c (.bool true))]⟩,
  ⟨(some 11), none, .faddr 3 (.t 3)⟩,
  ⟨none, none, .store 1 (.t 11) (.t 10)⟩])
 (.seq (.reg [⟨(some 12), none, .mov (.t 0)⟩,
  ⟨(some 13), none, .call 0 [] (.c (.fn 46 [])) [(.t 12), (.c (.int .i64 2))]⟩,
  ⟨(some 14), none, .faddr 0 (.t 3)⟩,
  ⟨none, none, .store 1 (.t 14) (.t 13)⟩])
 (.seq (.seq (.reg [⟨(some 15), none, .mov (.t 0)⟩,
  ⟨(some 16), none, .call 0 [] (.c (.fn 22 [])) [(.t 15), (.c (.str [40]))]⟩])
 (.cond (.t 16) (.seq (.reg [⟨(some 17), none, .mov (.t 0)⟩,
  ⟨(some 18), none, .mov (.t 0)⟩,
  ⟨(some 19), none, .nilck (.t 18)⟩,
  ⟨(some 20), none, .faddr 1 (.t 19)⟩,
  ⟨(some 21), none, .load none (.t 20)⟩,
  ⟨(some 22), none, .bin .add (.t 21) (.c (.int .i64 1))⟩,
  ⟨(some 23), none, .nilck (.t 17)⟩,
  ⟨(some 24), none, .faddr 1 (.t 23)⟩,
  ⟨none, none, .store 1 (.t 24) (.t 22)⟩])
 (.seq (.reg [⟨(some 25), none, .mov (.t 0)⟩,
  ⟨(some 26), none, .call 0 [] (.c (.fn 46 [])) [(.t 25), (.c (.int .i64 2))]⟩,
  ⟨(some 27), none, .faddr 1 (.t 3)⟩,
  ⟨none, none, .store 1 (.t 27) (.t 26)⟩])
 (.seq (.block 0 (.loop [0] [2, 3] (.seq (.seq (.reg [⟨(some 28), none, .mov (.t 0)⟩,
  ⟨(some 29), none, .call 0 [] (.c (.fn 47 [])) [(.t 28), (.c (.int .i64 1))]⟩])
 (.cond (.t 29) .skip
 (.exit 0)))
 (.block 1 (.reg [⟨(some 30), none, .faddr 2 (.t 3)⟩,
  ⟨(some 31), none, .loadL none (.t 30)⟩,
  ⟨(some 32), none, .mov (.t 0)⟩,
  ⟨(some 33), none, .call 0 [] (.c (.fn 46 [])) [(.t 32), (.c (.int .i64 1))]⟩,
  ⟨(some 34), none, .bslice [(.str [])] 1 [(0, (.t 33))]⟩,
  ⟨(some 35), none, .append 1 (.t 31) (.t 34)⟩,
  ⟨(some 36), none, .faddr 2 (.t 3)⟩,
  ⟨none, none, .store 1 (.t 36) (.t 35)⟩])))))
 (.reg [⟨(some 37), none, .mov (.t 0)⟩,
  ⟨(some 38), none, .call 0 [] (.c (.fn 45 [])) [(.t 37), (.c (.str [41]))]⟩]))))
 (.reg [⟨(some 39), none, .mov (.t 0)⟩,
  ⟨(some 40), none, .call 0 [] (.c (.fn 46 [])) [(.t 39), (.c (.int .i64 2))]⟩,
  ⟨(some 41), none, .faddr 1 (.t 3)⟩,
  ⟨none, none, .store 1 (.t 41) (.t 40)⟩])))
 (.seq (.reg [⟨(some 42), none, .mov (.t 0)⟩,
  ⟨(some 43), none, .call 0 [] (.c (.fn 45 [])) [(.t 42), (.c (.str [119, 104, 101, 114, 101]))]⟩])
 (.seq (.reg [⟨(some 44), none, .mov (.t 0)⟩,
  ⟨(some 45), none, .call 0 [] (.c (.fn 45 [])) [(.t 44), (.c (.str [123]))]⟩])
 (.seq (.reg [⟨(some 46), none, .mov (.t 0)⟩,
  ⟨(some 47), none, .call 0 [] (.c (.fn 52 [])) [(.t 46)]⟩,
  ⟨(some 48), none, .faddr 4 (.t 3)⟩,
  ⟨none, none, .store 1 (.t 48) (.t 47)⟩])
 (.seq (.reg [⟨(some 49), none, .mov (.t 0)⟩,
  ⟨(some 50), none, .call 0 [] (.c (.fn 45 [])) [(.t 49), (.c (.str [125]))]⟩])
 (.seq (.reg [⟨(some 51), none, .load (some 6) (.t 3)⟩,
  ⟨none, none, .store 6 (.t 2) (.t 51)⟩])
 .ret))))))))))),
  [.cell 2 (some 6)], false, false, 52⟩
theorem co25 : compF Tryz.prog ⟨[], [(8, [0], [2, 3])], [], [], [], [], 25, [], []⟩ false false Tryz.f25 = some ac25 := by kernel_rfl

/-- (*paideia/paideiaref1.parser).def -/
def ac26 : AF := ⟨(.seq (.reg [⟨(some 6), none, .mov (.c (.sl .clip []))⟩,
  ⟨(some 7), none, .mov (.c (.sl .clip []))⟩])
 (.seq (.reg [⟨(some 13), none, .mov (.t 0)⟩,
  ⟨(some 14), none, .call 0 [] (.c (.fn 53 [])) [(.t 13)]⟩,
  ⟨(some 12), none, .mov (.t 14)⟩,
  ⟨(some 15), none, .extract (.t 12) 0⟩,
  ⟨(some 16), none, .extract (.t 12) 1⟩,
  ⟨(some 8), none, .mov (.t 15)⟩,
  ⟨(some 9), none, .mov (.t 16)⟩])
 (.seq (.seq (.reg [⟨(some 17), none, .mov (.t 0)⟩,
  ⟨(some 18), none, .call 0 [] (.c (.fn 22 [])) [(.t 17), (.c (.str [58, 58]))]⟩])
 (.cond (.t 18) (.seq (.reg [⟨(some 19), none, .mov (.t 0)⟩,
  ⟨(some 20), none, .mov (.t 0)⟩,
  ⟨(some 21), none, .nilck (.t 20)⟩,
  ⟨(some 22), none, .faddr 1 (.t 21)⟩,
  ⟨(some 23), none, .load none (.t 22)⟩,
  ⟨(some 24), none, .bin .add (.t 23) (.c (.int .i64 1))⟩,
  ⟨(some 25), none, .nilck (.t 19)⟩,
  ⟨(some 26), none, .faddr 1 (.t 25)⟩,
  ⟨none, none, .store 1 (.t 26) (.t 24)⟩])
 (.seq (.reg [⟨(some 27), none, .bslice [(.str []), (.int .i64 0), (.sl .clip []), (.sl .clip []), (.int .i64 0), (.str []), (.sl .clip [])] 0 []⟩,
  ⟨(some 28), none, .mov (.t 1)⟩,
  ⟨(some 29), none, .append 7 (.t 27) (.t 28)⟩,
  ⟨(some 30), none, .mov (.t 8)⟩,
  ⟨(some 31), none, .mov (.t 9)⟩,
  ⟨(some 32), none, .mov (.t 0)⟩,
  ⟨(some 33), none, .call 0 [] (.c (.fn 54 [])) [(.t 32)]⟩,
  ⟨(some 34), none, .build [(.str []), (.int .i64 0), (.sl .clip []), (.sl .clip []), (.int .i64 0), (.str []), (.sl .clip [])] [(0, 1, (.t 30)), (1, 1, (.t 31)), (2, 5, (.t 33))]⟩,
  ⟨(some 35), none, .bslice [(.str []), (.int .i64 0), (.sl .clip []), (.sl .clip []), (.int .i64 0), (.str []), (.sl .clip [])] 1 [(0, (.t 34))]⟩,
  ⟨(some 36), none, .append 7 (.t 29) (.t 35)⟩,
  ⟨(some 37), none, .mov (.t 2)⟩,
  ⟨(some 6), none, .mov (.t 36)⟩,
  ⟨(some 7), none, .mov (.t 37)⟩])
 .ret))
 .skip))
 (.seq (.reg [⟨(some 10), none, .mov (.c (.sl .clip []))⟩])
 (.seq (.block 0 (.loop [0, 1, 2, 8, 9, 10] [] (.seq (.seq (.reg [⟨(some 38), none, .mov (.t 0)⟩,
  ⟨(some 39), none, .call 0 [] (.c (.fn 47 [])) [(.t 38), (.c (.int .i64 1))]⟩])
 (.cond (.t 39) .skip
 (.exit 0)))
 (.block 1 (.reg [⟨(some 40), none, .mov (.t 10)⟩,
  ⟨(some 41), none, .mov (.t 0)⟩,
  ⟨(some 42), none, .call 0 [] (.c (.fn 46 [])) [(.t 41), (.c (.int .i64 1))]⟩,
  ⟨(some 43), none, .bslice [(.str [])] 1 [(0, (.t 42))]⟩,
  ⟨(some 44), none, .append 1 (.t 40) (.t 43)⟩,
  ⟨(some 10), none, .mov (.t 44)⟩])))))
 (.seq (.reg [⟨(some 45), none, .mov (.t 0)⟩,
  ⟨(some 46), none, .call 0 [] (.c (.fn 45 [])) [(.t 45), (.c (.str [61]))]⟩])
 (.seq (.reg [⟨(some 47), none, .mov (.t 0)⟩,
  ⟨(some 48), none, .call 0 [] (.c (.fn 55 [])) [(.t 47)]⟩,
  ⟨(some 11), none, .alloc [(.int .i64 0), (.int .i64 0), (.str []), (.int .i64 0), (.sl .clip []), (.sl .clip []), (.sl .clip [])] false⟩,
  ⟨none, none, .store 7 (.t 11) (.t 48)⟩])
 (.seq (.reg [⟨(some 49), none, .mov (.t 1)⟩,
  ⟨(some 50), none, .bslice [(.str []), (.bool false), (.sl .clip []), (.sl .clip []), (.int .i64 0), (.str []), (.sl .clip []), (.int .i64 0), (.int .i64 0), (.str []), (.int .i64 0), (.sl .clip []), (.sl .clip []), (.sl .clip []), (.int .i64 0)] 0 []⟩,
  ⟨(some 51), none, .mov (.t 2)⟩,
  ⟨(some 52), none, .append 15 (.t 50) (.t 51)⟩,
  ⟨(some 53), none, .mov (.t 8)⟩,
  ⟨(some 54), none, .mov (.t 9)⟩,
  ⟨(some 55), none, .mov (.t 10)⟩,
  ⟨(some 56), none, .loadL (some 7) (.t 11)⟩,
  ⟨(some 57), none, .mov (.t 9)⟩,
  ⟨(some 58), none, .call 0 [] (.c (.fn 56 [])) [(.t 55), (.t 56), (.t 57)]⟩,
  ⟨(some 59), none, .build [(.str []), (.bool false), (.sl .clip []), (.sl .clip []), (.int .i64 0), (.str []), (.sl .clip []), (.int .i64 0), (.int .i64 0), (.str []), (.int .i64 0), (.sl .clip []), (.sl .clip []), (.sl .clip []), (.int .i64 0)] [(0, 1, (.t 53)), (14, 1, (.t 54)), (7, 7, (.t 58))]⟩,
  ⟨(some 60), none, .bslice [(.str []), (.bool false), (.sl .clip []), (.sl .clip []), (.int .i64 0), (.str []), (.sl .clip []), (.int .i64 0), (.int .i64 0), (.str []), (.int .i64 0), (.sl .clip []), (.sl .clip []), (.sl .clip []), (.int .i64 0)] 1 [(0, (.t 59))]⟩,
  ⟨(some 61), none, .append 15 (.t 52) (.t 60)⟩,
  ⟨(some 6), none, .mov (.t 49)⟩,
  ⟨(some 7), none, .mov (.t 61)⟩])
 .ret)))))))),
  [.t 6, .t 7], false, false, 62⟩
theorem co26 : compF Tryz.prog ⟨[], [(6, [0, 1, 2, 8, 9, 10], [])], [], [], [], [], 26, [], []⟩ false false Tryz.f26 = some ac26 := by kernel_rfl

/-- (*paideia/paideiaref1.parser).ends -/
def ac27 : AF := ⟨(.seq (.seq (.reg [⟨(some 4), none, .mov (.t 0)⟩,
  ⟨(some 5), none, .call 0 [] (.c (.fn 21 [])) [(.t 4)]⟩,
  ⟨(some 6), none, .not (.t 5)⟩,
  ⟨(some 7), none, .mov (.t 6)⟩,
  ⟨(some 8), (some (7, false)), .mov (.t 0)⟩,
  ⟨(some 9), (some (7, false)), .call 0 [] (.c (.fn 22 [])) [(.t 8), (.c (.str [59]))]⟩,
  ⟨(some 10), none, .pick (.t 7) (.c (.bool true)) (.t 9)⟩,
  ⟨(some 11), none, .mov (.t 10)⟩,
  ⟨(some 12), (some (11, false)), .mov (.t 1)⟩,
  ⟨(some 13), (some (11, false)), .mov (.t 12)⟩,
  ⟨(some 14), (some (13, true)), .mov (.t 0)⟩,
  ⟨(some 15), (some (13, true)), .call 0 [] (.c (.fn 22 [])) [(.t 14), (.c (.str [125]))]⟩,
  ⟨(some 16), (some (11, false)), .pick (.t 13) (.t 15) (.c (.bool false))⟩,
  ⟨(some 17), none, .pick (.t 11) (.c (.bool true)) (.t 16)⟩,
  ⟨(some 18), none, .mov (.t 17)⟩,
  ⟨(some 19), (some (18, false)), .mov (.t 1)⟩,
  ⟨(some 20), (some (18, false)), .not (.t 19)⟩,
  ⟨(some 21), (some (18, false)), .mov (.t 20)⟩,
  ⟨(some 22), (some (21, true)), .mov (.t 0)⟩,
  ⟨(some 23), (some (21, true)), .nilck (.t 22)⟩,
  ⟨(some 24), (some (21, true)), .faddr 1 (.t 23)⟩,
  ⟨(some 25), (some (21, true)), .load none (.t 24)⟩,
  ⟨(some 26), (some (21, true)), .mov (.t 0)⟩,
  ⟨(some 27), (some (21, true)), .nilck (.t 26)⟩,
  ⟨(some 28), (some (21, true)), .faddr 0 (.t 27)⟩,
  ⟨(some 29), (some (21, true)), .load none (.t 28)⟩,
  ⟨(some 30), (some (21, true)), .len 1 (.t 29)⟩,
  ⟨(some 31), (some (21, true)), .bin .geq (.t 25) (.t 30)⟩,
  ⟨(some 32), (some (18, false)), .pick (.t 21) (.t 31) (.c (.bool false))⟩,
  ⟨(some 33), none, .pick (.t 18) (.c (.bool true)) (.t 32)⟩])
 (.cond (.t 33) .ret
 .skip))
 (.reg [⟨(some 34), none, .mov (.t 0)⟩,
  ⟨(some 35), none, .call 0 [] (.c (.fn 29 [])) [(.t 34)]⟩])),
  [], false, false, 36⟩
theorem co27 : compF Tryz.prog ⟨[], [], [], [], [], [], 27, [], []⟩ false false Tryz.f27 = some ac27 := by kernel_rfl

/-- (*paideia/paideiaref1.parser).join -/
def ac28 : AF := ⟨(.seq (.reg [⟨(some 6), none, .mov (.c (.sl .clip []))⟩])
 (.seq (.reg [⟨(some 12), none, .bslice [(.str []), (.bool false), (.sl .clip []), (.sl .clip []), (.int .i64 0), (.str []), (.sl .clip []), (.int .i64 0), (.int .i64 0), (.str []), (.int .i64 0), (.sl .clip []), (.sl .clip []), (.sl .clip []), (.int .i64 0)] 0 []⟩,
  ⟨(some 13), none, .mov (.t 2)⟩,
  ⟨(some 14), none, .appm 15 [] (.t 12) (.t 13)⟩,
  ⟨(some 7), none, .mov (.t 14)⟩])
 (.seq (.seq (.reg [⟨(some 8), none, .mov (.c (.int .i64 0))⟩])
 (.block 0 (.loop [0, 1, 7, 8] [] (.seq (.seq (.reg [⟨(some 15), none, .mov (.t 8)⟩,
  ⟨(some 16), none, .mov (.t 1)⟩,
  ⟨(some 17), none, .len 1 (.t 16)⟩,
  ⟨(some 18), none, .bin .lss (.t 15) (.t 17)⟩,
  ⟨(some 19), none, .mov (.t 18)⟩,
  ⟨(some 20), (some (19, true)), .mov (.t 0)⟩,
  ⟨(some 21), (some (19, true)), .call 0 [] (.c (.fn 21 [])) [(.t 20)]⟩,
  ⟨(some 22), none, .pick (.t 19) (.t 21) (.c (.bool false))⟩])
 (.cond (.t 22) .skip
 (.exit 0)))
 (.seq (.block 1 (.seq (.reg [⟨(some 9), none, .mov (.c (.int .i64 (-1)))⟩])
 (.seq (.seq (.reg [⟨(some 10), none, .mov (.c (.int .i64 0))⟩])
 (.block 2 (.loop [0, 1, 7, 8, 9, 10] [] (.seq (.seq (.reg [⟨(some 25), none, .mov (.t 10)⟩,
  ⟨(some 26), none, .mov (.t 7)⟩,
  ⟨(some 27), none, .len 1 (.t 26)⟩,
  ⟨(some 28), none, .bin .lss (.t 25) (.t 27)⟩,
  ⟨(some 29), none, .mov (.t 28)⟩,
  ⟨(some 30), (some (29, true)), .mov (.t 9)⟩,
  ⟨(some 31), (some (29, true)), .bin .lss (.t 30) (.c (.int .i64 0))⟩,
  ⟨(some 32), none, .pick (.t 29) (.t 31) (.c (.bool false))⟩])
 (.cond (.t 32) .skip
 (.exit 2)))
 (.seq (.block 3 (.seq (.reg [⟨(some 35), none, .mov (.t 7)⟩,
  ⟨(some 36), none, .mov (.t 10)⟩,
  ⟨(some 37), none, .iaddr 15 (.t 35) (.t 36)⟩,
  ⟨(some 38), none, .faddr 0 (.t 37)⟩,
  ⟨(some 39), none, .load none (.t 38)⟩,
  ⟨(some 40), none, .mov (.t 1)⟩,
  ⟨(some 41), none, .mov (.t 8)⟩,
  ⟨(some 42), none, .iaddr 7 (.t 40) (.t 41)⟩,
  ⟨(some 43), none, .faddr 0 (.t 42)⟩,
  ⟨(some 44), none, .load none (.t 43)⟩,
  ⟨(some 45), none, .bin .eql (.t 39) (.t 44)⟩,
  ⟨(some 46), none, .mov (.t 45)⟩,
  ⟨(some 47), (some (46, true)), .mov (.t 7)⟩,
  ⟨(some 48), (some (46, true)), .mov (.t 10)⟩,
  ⟨(some 49), (some (46, true)), .iaddr 15 (.t 47) (.t 48)⟩,
  ⟨(some 50), (some (46, true)), .faddr 1 (.t 49)⟩,
  ⟨(some 51), (some (46, true)), .load none (.t 50)⟩,
  ⟨(some 52), (some (46, true)), .not (.t 51)⟩,
  ⟨(some 53), none, .pick (.t 46) (.t 52) (.c (.bool false))⟩])
 (.cond (.t 53) (.reg [⟨(some 54), none, .mov (.t 10)⟩,
  ⟨(some 9), none, .mov (.t 54)⟩])
 .skip)))
 (.reg [⟨(some 33), none, .mov (.t 10)⟩,
  ⟨(some 34), none, .bin .add (.t 33) (.c (.int .i64 1))⟩,
  ⟨(some 10), none, .mov (.t 34)⟩]))))))
 (.seq (.seq (.reg [⟨(some 11), none, .mov (.c (.int .i64 0))⟩])
 (.block 4 (.loop [0, 1, 7, 8, 9, 11] [] (.seq (.seq (.reg [⟨(some 55), none, .mov (.t 11)⟩,
  ⟨(some 56), none, .mov (.t 8)⟩,
  ⟨(some 57), none, .bin .lss (.t 55) (.t 56)⟩])
 (.cond (.t 57) .skip
 (.exit 4)))
 (.seq (.block 5 (.seq (.reg [⟨(some 60), none, .mov (.t 1)⟩,
  ⟨(some 61), none, .mov (.t 11)⟩,
  ⟨(some 62), none, .iaddr 7 (.t 60) (.t 61)⟩,
  ⟨(some 63), none, .faddr 0 (.t 62)⟩,
  ⟨(some 64), none, .load none (.t 63)⟩,
  ⟨(some 65), none, .mov (.t 1)⟩,
  ⟨(some 66), none, .mov (.t 8)⟩,
  ⟨(some 67), none, .iaddr 7 (.t 65) (.t 66)⟩,
  ⟨(some 68), none, .faddr 0 (.t 67)⟩,
  ⟨(some 69), none, .load none (.t 68)⟩,
  ⟨(some 70), none, .bin .eql (.t 64) (.t 69)⟩])
 (.cond (.t 70) (.reg [⟨(some 9), none, .mov (.c (.int .i64 (-1)))⟩])
 .skip)))
 (.reg [⟨(some 58), none, .mov (.t 11)⟩,
  ⟨(some 59), none, .bin .add (.t 58) (.c (.int .i64 1))⟩,
  ⟨(some 11), none, .mov (.t 59)⟩]))))))
 (.seq (.seq (.reg [⟨(some 71), none, .mov (.t 9)⟩,
  ⟨(some 72), none, .bin .lss (.t 71) (.c (.int .i64 0))⟩])
 (.cond (.t 72) (.seq (.reg [⟨(some 73), none, .mov (.t 0)⟩,
  ⟨(some 74), none, .mov (.t 1)⟩,
  ⟨(some 75), none, .mov (.t 8)⟩,
  ⟨(some 76), none, .iaddr 7 (.t 74) (.t 75)⟩,
  ⟨(some 77), none, .faddr 1 (.t 76)⟩,
  ⟨(some 78), none, .load none (.t 77)⟩,
  ⟨(some 79), none, .call 0 [] (.c (.fn 51 [])) [(.t 73), (.c (.int .i64 102)), (.t 78)]⟩])
 (.seq (.reg [⟨(some 80), none, .mov (.t 7)⟩,
  ⟨(some 6), none, .mov (.t 80)⟩])
 .ret))
 .skip))
 (.seq (.reg [⟨(some 81), none, .mov (.t 7)⟩,
  ⟨(some 82), none, .mov (.t 9)⟩,
  ⟨(some 83), none, .iaddr 15 (.t 81) (.t 82)⟩,
  ⟨(some 84), none, .faddr 1 (.t 83)⟩,
  ⟨none, none, .store 1 (.t 84) (.c (.bool true))⟩])
 (.reg [⟨(some 85), none, .mov (.t 7)⟩,
  ⟨(some 86), none, .mov (.t 9)⟩,
  ⟨(some 87), none, .mov (.t 1)⟩,
  ⟨(some 88), none, .mov (.t 8)⟩,
  ⟨(some 89), none, .iaddr 7 (.t 87) (.t 88)⟩,
  ⟨(some 90), none, .faddr 2 (.t 89)⟩,
  ⟨(some 91), none, .load (some 5) (.t 90)⟩,
  ⟨(some 92), none, .iaddr 15 (.t 85) (.t 86)⟩,
  ⟨(some 93), none, .faddr 2 (.t 92)⟩,
  ⟨none, none, .store 5 (.t 93) (.t 91)⟩])))))))
 (.reg [⟨(some 23), none, .mov (.t 8)⟩,
  ⟨(some 24), none, .bin .add (.t 23) (.c (.int .i64 1))⟩,
  ⟨(some 8), none, .mov (.t 24)⟩]))))))
 (.seq (.reg [⟨(some 94), none, .mov (.t 7)⟩,
  ⟨(some 6), none, .mov (.t 94)⟩])
 .ret)))),
  [.t 6], false, true, 95⟩
theorem co28 : compF Tryz.prog ⟨[], [(3, [0, 1, 7, 8], []), (7, [0, 1, 7, 8, 9, 10], []), (12, [0, 1, 7, 8, 9, 11], [])], [], [], [14], [14], 28, [], []⟩ false true Tryz.f28 = some ac28 := by kernel_rfl

/-- (*paideia/paideiaref1.parser).wrong -/
def ac29 : AF := ⟨(.reg [⟨(some 2), none, .mov (.t 0)⟩,
  ⟨(some 3), none, .mov (.t 0)⟩,
  ⟨(some 4), none, .call 0 [] (.c (.fn 44 [])) [(.t 3)]⟩,
  ⟨(some 5), none, .call 0 [] (.c (.fn 51 [])) [(.t 2), (.c (.int .i64 102)), (.t 4)]⟩]),
  [], false, false, 6⟩
theorem co29 : compF Tryz.prog ⟨[], [], [], [], [], [], 29, [], []⟩ false false Tryz.f29 = some ac29 := by kernel_rfl

/-- paideia/printer.joined[paideia/api.Con] -/
def ac30 : AF := ⟨(.seq (.reg [⟨(some 6), none, .mov (.c (.str []))⟩])
 (.seq (.reg [⟨(some 7), none, .mov (.c (.sl .clip []))⟩])
 (.seq (.seq (.reg [⟨(some 10), none, .mov (.t 0)⟩,
  ⟨(some 11), none, .len 1 (.t 10)⟩,
  ⟨(some 12), none, .mov (.c (.int .i64 0))⟩])
 (.block 0 (.loop [1, 2, 7, 10, 11, 12] [] (.seq (.reg [⟨(some 13), none, .bin .lss (.t 12) (.t 11)⟩])
 (.seq (.cond (.t 13) .skip
 (.exit 0))
 (.seq (.block 1 (.seq (.reg [⟨(some 14), none, .iaddr 2 (.t 10) (.t 12)⟩,
  ⟨(some 15), none, .load (some 2) (.t 14)⟩,
  ⟨(some 9), none, .alloc [(.str []), (.sl .clip [])] false⟩,
  ⟨none, none, .store 2 (.t 9) (.t 15)⟩])
 (.reg [⟨(some 16), none, .mov (.t 7)⟩,
  ⟨(some 17), none, .mov (.t 2)⟩,
  ⟨(some 18), none, .load (some 2) (.t 9)⟩,
  ⟨(some 19), none, .call 0 [] (.t 17) [(.t 18)]⟩,
  ⟨(some 20), none, .bslice [(.str [])] 1 [(0, (.t 19))]⟩,
  ⟨(some 21), none, .append 1 (.t 16) (.t 20)⟩,
  ⟨(some 7), none, .mov (.t 21)⟩])))
 (.reg [⟨(some 22), none, .bin .add (.t 12) (.c (.int .i64 1))⟩,
  ⟨(some 12), none, .mov (.t 22)⟩])))))))
 (.seq (.reg [⟨(some 23), none, .mov (.t 7)⟩,
  ⟨(some 24), none, .mov (.t 1)⟩,
  ⟨(some 25), none, .call 0 [] (.c (.fn 33 [])) [(.t 23), (.t 24)]⟩,
  ⟨(some 6), none, .mov (.t 25)⟩])
 .ret)))),
  [.t 6], false, true, 26⟩
theorem co30 : compF Tryz.prog ⟨[], [(3, [1, 2, 7, 10, 11, 12], [])], [], [], [], [], 30, [], []⟩ false true Tryz.f30 = some ac30 := by kernel_rfl

/-- paideia/printer.data$1 -/
def ac31 : AF := ⟨(.seq (.reg [⟨(some 1), none, .box (.t 0) 2 false⟩,
  ⟨(some 2), none, .mov (.c (.str []))⟩])
 (.seq (.reg [⟨(some 6), none, .faddr 0 (.t 1)⟩,
  ⟨(some 7), none, .load none (.t 6)⟩,
  ⟨(some 3), none, .mov (.t 7)⟩])
 (.seq (.seq (.reg [⟨(some 8), none, .faddr 1 (.t 1)⟩,
  ⟨(some 9), none, .load none (.t 8)⟩,
  ⟨(some 10), none, .len 1 (.t 9)⟩,
  ⟨(some 11), none, .mov (.c (.int .i64 0))⟩])
 (.block 0 (.loop [3, 9, 10, 11] [] (.seq (.reg [⟨(some 12), none, .bin .lss (.t 11) (.t 10)⟩])
 (.seq (.cond (.t 12) .skip
 (.exit 0))
 (.seq (.block 1 (.seq (.reg [⟨(some 13), none, .iaddr 3 (.t 9) (.t 11)⟩,
  ⟨(some 14), none, .load (some 3) (.t 13)⟩,
  ⟨(some 5), none, .alloc [(.int .i64 0), (.str []), (.sl .clip [])] false⟩,
  ⟨none, none, .store 3 (.t 5) (.t 14)⟩])
 (.reg [⟨(some 15), none, .mov (.t 3)⟩,
  ⟨(some 16), none, .load (some 3) (.t 5)⟩,
  ⟨(some 17), none, .call 0 [] (.c (.fn 19 [])) [(.t 16)]⟩,
  ⟨(some 18), none, .bin .add (.c (.str [32])) (.t 17)⟩,
  ⟨(some 19), none, .bin .add (.t 15) (.t 18)⟩,
  ⟨(some 3), none, .mov (.t 19)⟩])))
 (.reg [⟨(some 20), none, .bin .add (.t 11) (.c (.int .i64 1))⟩,
  ⟨(some 11), none, .mov (.t 20)⟩])))))))
 (.seq (.reg [⟨(some 21), none, .mov (.t 3)⟩,
  ⟨(some 2), none, .mov (.t 21)⟩])
 .ret)))),
  [.t 2], false, false, 22⟩
theorem co31 : compF Tryz.prog ⟨[], [(3, [3, 9, 10, 11], [])], [], [], [], [], 31, [], []⟩ false false Tryz.f31 = some ac31 := by kernel_rfl

/-- paideia/printer.words -/
def ac32 : AF := ⟨(.seq (.reg [⟨(some 2), none, .mov (.c (.str []))⟩])
 (.seq (.reg [⟨(some 3), none, .mov (.c (.str []))⟩])
 (.seq (.seq (.reg [⟨(some 6), none, .mov (.t 0)⟩,
  ⟨(some 7), none, .len 1 (.t 6)⟩,
  ⟨(some 8), none, .mov (.c (.int .i64 0))⟩])
 (.block 0 (.loop [3, 6, 7, 8] [] (.seq (.reg [⟨(some 9), none, .bin .lss (.t 8) (.t 7)⟩])
 (.seq (.cond (.t 9) .skip
 (.exit 0))
 (.seq (.block 1 (.seq (.reg [⟨(some 10), none, .iaddr 1 (.t 6) (.t 8)⟩,
  ⟨(some 11), none, .load none (.t 10)⟩,
  ⟨(some 5), none, .mov (.t 11)⟩])
 (.reg [⟨(some 12), none, .mov (.t 3)⟩,
  ⟨(some 13), none, .mov (.t 5)⟩,
  ⟨(some 14), none, .bin .add (.c (.str [32])) (.t 13)⟩,
  ⟨(some 15), none, .bin .add (.t 12) (.t 14)⟩,
  ⟨(some 3), none, .mov (.t 15)⟩])))
 (.reg [⟨(some 16), none, .bin .add (.t 8) (.c (.int .i64 1))⟩,
  ⟨(some 8), none, .mov (.t 16)⟩])))))))
 (.seq (.reg [⟨(some 17), none, .mov (.t 3)⟩,
  ⟨(some 2), none, .mov (.t 17)⟩])
 .ret)))),
  [.t 2], false, true, 18⟩
theorem co32 : compF Tryz.prog ⟨[], [(3, [3, 6, 7, 8], [])], [], [], [], [], 32, [], []⟩ false true Tryz.f32 = some ac32 := by kernel_rfl

/-- paideia/printer.Name -/
def ac34 : AF := ⟨(.seq (.reg [⟨(some 2), none, .mov (.c (.str []))⟩])
 (.seq (.seq (.reg [⟨(some 3), none, .mov (.t 0)⟩,
  ⟨(some 4), none, .call 0 [] (.c (.fn 60 [])) [(.t 3)]⟩])
 (.cond (.t 4) (.seq (.reg [⟨(some 5), none, .mov (.t 0)⟩,
  ⟨(some 6), none, .bin .add (.c (.str [40])) (.t 5)⟩,
  ⟨(some 7), none, .bin .add (.t 6) (.c (.str [41]))⟩,
  ⟨(some 2), none, .mov (.t 7)⟩])
 .ret)
 .skip))
 (.seq (.reg [⟨(some 8), none, .mov (.t 0)⟩,
  ⟨(some 2), none, .mov (.t 8)⟩])
 .ret))),
  [.t 2], false, true, 9⟩
theorem co34 : compF Tryz.prog ⟨[], [], [], [], [], [], 34, [], []⟩ false true Tryz.f34 = some ac34 := by kernel_rfl

/-- paideia/printer.context -/
def ac35 : AF := ⟨(.seq (.reg [⟨(some 2), none, .mov (.c (.str []))⟩])
 (.seq (.reg [⟨(some 4), none, .mov (.t 0)⟩,
  ⟨(some 5), none, .call 0 [] (.c (.fn 61 [])) [(.t 4), (.c (.str [44, 32])), (.c (.fn 62 []))]⟩,
  ⟨(some 3), none, .mov (.t 5)⟩])
 (.seq (.seq (.reg [⟨(some 6), none, .mov (.t 0)⟩,
  ⟨(some 7), none, .len 1 (.t 6)⟩])
 (.block 0 (.seq (.reg [⟨(some 9), none, .bin .eql (.t 7) (.c (.int .i64 0))⟩,
  ⟨(some 8), none, .mov (.t 9)⟩])
 (.cond (.t 8) (.seq (.reg [⟨(some 2), none, .mov (.c (.str []))⟩])
 .ret)
 (.seq (.reg [⟨(some 11), none, .bin .eql (.t 7) (.c (.int .i64 1))⟩,
  ⟨(some 10), none, .mov (.t 11)⟩])
 (.cond (.t 10) (.seq (.reg [⟨(some 12), none, .mov (.t 3)⟩,
  ⟨(some 13), none, .bin .add (.t 12) (.c (.str [32, 61, 62, 32]))⟩,
  ⟨(some 2), none, .mov (.t 13)⟩])
 .ret)
 .skip))))))
 (.seq (.reg [⟨(some 14), none, .mov (.t 3)⟩,
  ⟨(some 15), none, .bin .add (.c (.str [40])) (.t 14)⟩,
  ⟨(some 16), none, .bin .add (.t 15) (.c (.str [41, 32, 61, 62, 32]))⟩,
  ⟨(some 2), none, .mov (.t 16)⟩])
 .ret)))),
  [.t 2], false, true, 17⟩
theorem co35 : compF Tryz.prog ⟨[], [], [], [], [], [], 35, [], []⟩ false true Tryz.f35 = some ac35 := by kernel_rfl

/-- paideia/printer.Braces -/
def ac36 : AF := ⟨(.seq (.reg [⟨(some 2), none, .mov (.c (.str []))⟩])
 (.seq (.seq (.reg [⟨(some 3), none, .mov (.t 0)⟩,
  ⟨(some 4), none, .bin .eql (.t 3) (.c (.str []))⟩])
 (.cond (.t 4) (.seq (.reg [⟨(some 2), none, .mov (.c (.str [123, 32, 125]))⟩])
 .ret)
 .skip))
 (.seq (.reg [⟨(some 5), none, .mov (.t 0)⟩,
  ⟨(some 6), none, .bin .add (.c (.str [123, 32])) (.t 5)⟩,
  ⟨(some 7), none, .bin .add (.t 6) (.c (.str [32, 125]))⟩,
  ⟨(some 2), none, .mov (.t 7)⟩])
 .ret))),
  [.t 2], false, true, 8⟩
theorem co36 : compF Tryz.prog ⟨[], [], [], [], [], [], 36, [], []⟩ false true Tryz.f36 = some ac36 := by kernel_rfl

/-- paideia/printer.joined[paideia/api.Bind] -/
def ac37 : AF := ⟨(.seq (.reg [⟨(some 6), none, .mov (.c (.str []))⟩])
 (.seq (.reg [⟨(some 7), none, .mov (.c (.sl .clip []))⟩])
 (.seq (.seq (.reg [⟨(some 10), none, .mov (.t 0)⟩,
  ⟨(some 11), none, .len 1 (.t 10)⟩,
  ⟨(some 12), none, .mov (.c (.int .i64 0))⟩])
 (.block 0 (.loop [1, 2, 7, 10, 11, 12] [] (.seq (.reg [⟨(some 13), none, .bin .lss (.t 12) (.t 11)⟩])
 (.seq (.cond (.t 13) .skip
 (.exit 0))
 (.seq (.block 1 (.seq (.reg [⟨(some 14), none, .iaddr 15 (.t 10) (.t 12)⟩,
  ⟨(some 15), none, .load (some 15) (.t 14)⟩,
  ⟨(some 9), none, .alloc [(.str []), (.bool false), (.sl .clip []), (.sl .clip []), (.int .i64 0), (.str []), (.sl .clip []), (.int .i64 0), (.int .i64 0), (.str []), (.int .i64 0), (.sl .clip []), (.sl .clip []), (.sl .clip []), (.int .i64 0)] false⟩,
  ⟨none, none, .store 15 (.t 9) (.t 15)⟩])
 (.reg [⟨(some 16), none, .mov (.t 7)⟩,
  ⟨(some 17), none, .mov (.t 2)⟩,
  ⟨(some 18), none, .load (some 15) (.t 9)⟩,
  ⟨(some 19), none, .call 0 [] (.t 17) [(.t 18)]⟩,
  ⟨(some 20), none, .bslice [(.str [])] 1 [(0, (.t 19))]⟩,
  ⟨(some 21), none, .append 1 (.t 16) (.t 20)⟩,
  ⟨(some 7), none, .mov (.t 21)⟩])))
 (.reg [⟨(some 22), none, .bin .add (.t 12) (.c (.int .i64 1))⟩,
  ⟨(some 12), none, .mov (.t 22)⟩])))))))
 (.seq (.reg [⟨(some 23), none, .mov (.t 7)⟩,
  ⟨(some 24), none, .mov (.t 1)⟩,
  ⟨(some 25), none, .call 0 [] (.c (.fn 33 [])) [(.t 23), (.t 24)]⟩,
  ⟨(some 6), none, .mov (.t 25)⟩])
 .ret)))),
  [.t 6], false, true, 26⟩
theorem co37 : compF Tryz.prog ⟨[], [(3, [1, 2, 7, 10, 11, 12], [])], [], [], [], [], 37, [], []⟩ false true Tryz.f37 = some ac37 := by kernel_rfl

/-- paideia/printer.Expr -/
def ac38 : AF := ⟨(.seq (.reg [⟨(some 1), none, .box (.t 0) 7 false⟩,
  ⟨(some 2), none, .mov (.c (.str []))⟩])
 (.seq (.seq (.reg [⟨(some 3), none, .faddr 0 (.t 1)⟩,
  ⟨(some 4), none, .load none (.t 3)⟩])
 (.block 0 (.seq (.seq (.reg [⟨(some 6), none, .bin .eql (.t 4) (.c (.int .i64 1))⟩,
  ⟨(some 5), none, .mov (.t 6)⟩])
 (.cond (.t 5) .skip
 (.reg [⟨(some 7), none, .bin .eql (.t 4) (.c (.int .i64 2))⟩,
  ⟨(some 5), none, .mov (.t 7)⟩])))
 (.cond (.t 5) (.seq (.reg [⟨(some 8), none, .faddr 2 (.t 1)⟩,
  ⟨(some 9), none, .load none (.t 8)⟩,
  ⟨(some 10), none, .call 0 [] (.c (.fn 34 [])) [(.t 9)]⟩,
  ⟨(some 2), none, .mov (.t 10)⟩])
 .ret)
 (.seq (.reg [⟨(some 12), none, .bin .eql (.t 4) (.c (.int .i64 3))⟩,
  ⟨(some 11), none, .mov (.t 12)⟩])
 (.cond (.t 11) (.seq (.reg [⟨(some 13), none, .faddr 3 (.t 1)⟩,
  ⟨(some 14), none, .load none (.t 13)⟩,
  ⟨(some 15), none, .call 0 [] (.c (.fn 63 [])) [(.t 14), (.c (.int .i64 10))]⟩,
  ⟨(some 2), none, .mov (.t 15)⟩])
 .ret)
 (.seq (.reg [⟨(some 17), none, .bin .eql (.t 4) (.c (.int .i64 4))⟩,
  ⟨(some 16), none, .mov (.t 17)⟩])
 (.cond (.t 16) (.seq (.reg [⟨(some 18), none, .faddr 3 (.t 1)⟩,
  ⟨(some 19), none, .load none (.t 18)⟩,
  ⟨(some 20), none, .call 0 [] (.c (.fn 64 [])) [(.t 19)]⟩,
  ⟨(some 2), none, .mov (.t 20)⟩])
 .ret)
 (.seq (.reg [⟨(some 22), none, .bin .eql (.t 4) (.c (.int .i64 5))⟩,
  ⟨(some 21), none, .mov (.t 22)⟩])
 (.cond (.t 21) (.seq (.reg [⟨(some 23), none, .load (some 7) (.t 1)⟩,
  ⟨(some 24), none, .call 0 [] (.c (.fn 65 [])) [(.t 23), (.c (.int .i64 0))]⟩,
  ⟨(some 25), none, .call 0 [] (.c (.fn 38 [])) [(.t 24)]⟩,
  ⟨(some 26), none, .bin .add (.c (.str [40])) (.t 25)⟩,
  ⟨(some 27), none, .bin .add (.t 26) (.c (.str [32]))⟩,
  ⟨(some 28), none, .loadL (some 7) (.t 1)⟩,
  ⟨(some 29), none, .call 0 [] (.c (.fn 65 [])) [(.t 28), (.c (.int .i64 1))]⟩,
  ⟨(some 30), none, .call 0 [] (.c (.fn 38 [])) [(.t 29)]⟩,
  ⟨(some 31), none, .bin .add (.t 27) (.t 30)⟩,
  ⟨(some 32), none, .bin .add (.t 31) (.c (.str [41]))⟩,
  ⟨(some 2), none, .mov (.t 32)⟩])
 .ret)
 (.seq (.reg [⟨(some 34), none, .bin .eql (.t 4) (.c (.int .i64 6))⟩,
  ⟨(some 33), none, .mov (.t 34)⟩])
 (.cond (.t 33) (.seq (.reg [⟨(some 35), none, .faddr 2 (.t 1)⟩,
  ⟨(some 36), none, .loadL none (.t 35)⟩,
  ⟨(some 37), none, .bin .add (.c (.str [40, 92])) (.t 36)⟩,
  ⟨(some 38), none, .bin .add (.t 37) (.c (.str [32, 45, 62, 32]))⟩,
  ⟨(some 39), none, .load (some 7) (.t 1)⟩,
  ⟨(some 40), none, .call 0 [] (.c (.fn 65 [])) [(.t 39), (.c (.int .i64 0))]⟩,
  ⟨(some 41), none, .call 0 [] (.c (.fn 38 [])) [(.t 40)]⟩,
  ⟨(some 42), none, .bin .add (.t 38) (.t 41)⟩,
  ⟨(some 43), none, .bin .add (.t 42) (.c (.str [41]))⟩,
  ⟨(some 2), none, .mov (.t 43)⟩])
 .ret)
 (.seq (.reg [⟨(some 45), none, .bin .eql (.t 4) (.c (.int .i64 7))⟩,
  ⟨(some 44), none, .mov (.t 45)⟩])
 (.cond (.t 44) (.seq (.reg [⟨(some 46), none, .faddr 6 (.t 1)⟩,
  ⟨(some 47), none, .load none (.t 46)⟩,
  ⟨(some 48), none, .call 0 [] (.c (.fn 37 [])) [(.t 47), (.c (.str [59, 32])), (.c (.fn 14 []))]⟩,
  ⟨(some 49), none, .call 0 [] (.c (.fn 36 [])) [(.t 48)]⟩,
  ⟨(some 50), none, .bin .add (.c (.str [40, 108, 101, 116, 32])) (.t 49)⟩,
  ⟨(some 51), none, .bin .add (.t 50) (.c (.str [32, 105, 110, 32]))⟩,
  ⟨(some 52), none, .loadL (some 7) (.t 1)⟩,
  ⟨(some 53), none, .call 0 [] (.c (.fn 65 [])) [(.t 52), (.c (.int .i64 0))]⟩,
  ⟨(some 54), none, .call 0 [] (.c (.fn 38 [])) [(.t 53)]⟩,
  ⟨(some 55), none, .bin .add (.t 51) (.t 54)⟩,
  ⟨(some 56), none, .bin .add (.t 55) (.c (.str [41]))⟩,
  ⟨(some 2), none, .mov (.t 56)⟩])
 .ret)
 (.seq (.reg [⟨(some 58), none, .bin .eql (.t 4) (.c (.int .i64 8))⟩,
  ⟨(some 57), none, .mov (.t 58)⟩])
 (.cond (.t 57) (.seq (.reg [⟨(some 59), none, .load (some 7) (.t 1)⟩,
  ⟨(some 60), none, .call 0 [] (.c (.fn 65 [])) [(.t 59), (.c (.int .i64 0))]⟩,
  ⟨(some 61), none, .call 0 [] (.c (.fn 38 [])) [(.t 60)]⟩,
  ⟨(some 62), none, .bin .add (.c (.str [40, 99, 97, 115, 101, 32])) (.t 61)⟩,
  ⟨(some 63), none, .bin .add (.t 62) (.c (.str [32, 111, 102, 32]))⟩,
  ⟨(some 64), none, .faddr 5 (.t 1)⟩,
  ⟨(some 65), none, .loadL none (.t 64)⟩,
  ⟨(some 66), none, .call 0 [] (.c (.fn 66 [])) [(.t 65), (.c (.str [59, 32])), (.c (.fn 67 []))]⟩,
  ⟨(some 67), none, .call 0 [] (.c (.fn 36 [])) [(.t 66)]⟩,
  ⟨(some 68), none, .bin .add (.t 63) (.t 67)⟩,
  ⟨(some 69), none, .bin .add (.t 68) (.c (.str [41]))⟩,
  ⟨(some 2), none, .mov (.t 69)⟩])
 .ret)
 .skip))))))))))))))))
 (.seq (.reg [⟨(some 2), none, .mov (.c (.str []))⟩])
 .ret))),
  [.t 2], false, true, 70⟩
theorem co38 : compF Tryz.prog ⟨[], [], [], [], [], [], 38, [], []⟩ false true Tryz.f38 = some ac38 := by kernel_rfl

/-- paideia/printer.Scheme -/
def ac39 : AF := ⟨(.seq (.reg [⟨(some 1), none, .box (.t 0) 5 false⟩,
  ⟨(some 2), none, .mov (.c (.str []))⟩])
 (.seq (.reg [⟨(some 3), none, .faddr 1 (.t 1)⟩,
  ⟨(some 4), none, .load none (.t 3)⟩,
  ⟨(some 5), none, .call 0 [] (.c (.fn 35 [])) [(.t 4)]⟩,
  ⟨(some 6), none, .faddr 2 (.t 1)⟩,
  ⟨(some 7), none, .loadL (some 3) (.t 6)⟩,
  ⟨(some 8), none, .call 0 [] (.c (.fn 7 [])) [(.t 7)]⟩,
  ⟨(some 9), none, .bin .add (.t 5) (.t 8)⟩,
  ⟨(some 2), none, .mov (.t 9)⟩])
 .ret)),
  [.t 2], false, true, 10⟩
theorem co39 : compF Tryz.prog ⟨[], [], [], [], [], [], 39, [], []⟩ false true Tryz.f39 = some ac39 := by kernel_rfl

/-- paideia/paideiaref.Placed -/
def ac40 : AF := ⟨(.seq (.reg [⟨(some 4), none, .alloc [(.int .i64 0), (.bool false), (.int .i64 0)] false⟩])
 (.seq (.seq (.reg [⟨(some 5), none, .mov (.t 0)⟩,
  ⟨(some 6), none, .bin .eql (.t 5) (.c (.int .i64 0))⟩])
 (.cond (.t 6) (.seq (.reg [⟨(some 7), none, .call 0 [] (.c (.fn 42 [])) []⟩,
  ⟨none, none, .store 3 (.t 4) (.t 7)⟩])
 .ret)
 .skip))
 (.seq (.reg [⟨(some 8), none, .mov (.t 0)⟩,
  ⟨(some 9), none, .mov (.t 1)⟩,
  ⟨(some 10), none, .build [(.int .i64 0), (.bool false), (.int .i64 0)] [(0, 1, (.t 8)), (1, 1, (.c (.bool true))), (2, 1, (.t 9))]⟩,
  ⟨none, none, .store 3 (.t 4) (.t 10)⟩])
 .ret))),
  [.cell 4 (some 3)], false, true, 11⟩
theorem co40 : compF Tryz.prog ⟨[], [], [], [], [], [], 40, [], []⟩ false true Tryz.f40 = some ac40 := by kernel_rfl

/-- paideia/paideiaref1.word -/
def ac41 : AF := ⟨(.seq (.reg [⟨(some 2), none, .alloc [(.int .i64 0), (.int .i64 0), (.str []), (.int .i64 0)] false⟩,
  ⟨(some 3), none, .mov (.c (.int .i64 0))⟩])
 (.seq (.reg [⟨(some 17), none, .mov (.t 0)⟩,
  ⟨(some 18), none, .iaddr 1 (.t 17) (.c (.int .i64 0))⟩,
  ⟨(some 19), none, .load none (.t 18)⟩,
  ⟨(some 4), none, .mov (.t 19)⟩])
 (.seq (.reg [⟨(some 5), none, .mov (.c (.int .i64 1))⟩])
 (.seq (.block 0 (.seq (.reg [⟨(some 21), none, .mov (.t 4)⟩,
  ⟨(some 22), none, .call 0 [] (.c (.fn 68 [])) [(.t 21)]⟩,
  ⟨(some 23), none, .mov (.t 22)⟩,
  ⟨(some 24), (some (23, false)), .mov (.t 4)⟩,
  ⟨(some 25), (some (23, false)), .call 0 [] (.c (.fn 69 [])) [(.t 24)]⟩,
  ⟨(some 26), none, .pick (.t 23) (.c (.bool true)) (.t 25)⟩,
  ⟨(some 20), none, .mov (.t 26)⟩])
 (.cond (.t 20) (.seq (.block 1 (.loop [0, 4, 5] [2] (.seq (.seq (.reg [⟨(some 27), none, .mov (.t 5)⟩,
  ⟨(some 28), none, .mov (.t 0)⟩,
  ⟨(some 29), none, .len 1 (.t 28)⟩,
  ⟨(some 30), none, .bin .lss (.t 27) (.t 29)⟩,
  ⟨(some 31), none, .mov (.t 30)⟩,
  ⟨(some 32), (some (31, true)), .mov (.t 0)⟩,
  ⟨(some 33), (some (31, true)), .mov (.t 5)⟩,
  ⟨(some 34), (some (31, true)), .iaddr 1 (.t 32) (.t 33)⟩,
  ⟨(some 35), (some (31, true)), .load none (.t 34)⟩,
  ⟨(some 36), (some (31, true)), .call 0 [] (.c (.fn 70 [])) [(.t 35)]⟩,
  ⟨(some 37), none, .pick (.t 31) (.t 36) (.c (.bool false))⟩])
 (.cond (.t 37) .skip
 (.exit 1)))
 (.block 2 (.reg [⟨(some 38), none, .mov (.t 5)⟩,
  ⟨(some 39), none, .bin .add (.t 38) (.c (.int .i64 1))⟩,
  ⟨(some 5), none, .mov (.t 39)⟩])))))
 (.seq (.reg [⟨(some 40), none, .mov (.t 0)⟩,
  ⟨(some 41), none, .mov (.t 5)⟩,
  ⟨(some 42), none, .slice 1 (.t 40) none (some (.t 41)) none⟩,
  ⟨(some 43), none, .conv .text (.t 42)⟩,
  ⟨(some 6), none, .mov (.t 43)⟩])
 (.seq (.reg [⟨(some 7), none, .mov (.c (.int .i64 1))⟩])
 (.seq (.seq (.reg [⟨(some 44), none, .mov (.t 4)⟩,
  ⟨(some 45), none, .call 0 [] (.c (.fn 69 [])) [(.t 44)]⟩])
 (.cond (.t 45) (.reg [⟨(some 7), none, .mov (.c (.int .i64 2))⟩])
 (.seq (.reg [⟨(some 46), none, .mov (.t 6)⟩,
  ⟨(some 47), none, .bin .eql (.t 46) (.c (.str [95]))⟩,
  ⟨(some 48), none, .mov (.t 47)⟩,
  ⟨(some 49), (some (48, false)), .mov (.t 6)⟩,
  ⟨(some 50), (some (48, false)), .call 0 [] (.c (.fn 71 [])) [(.t 49)]⟩,
  ⟨(some 51), none, .pick (.t 48) (.c (.bool true)) (.t 50)⟩])
 (.cond (.t 51) (.reg [⟨(some 7), none, .mov (.c (.int .i64 6))⟩])
 .skip))))
 (.seq (.seq (.reg [⟨(some 52), none, .mov (.t 5)⟩,
  ⟨(some 53), none, .bin .gtr (.t 52) (.c (.int .i64 40))⟩])
 (.cond (.t 53) (.seq (.reg [⟨(some 54), none, .build [(.int .i64 0), (.int .i64 0), (.str []), (.int .i64 0)] []⟩,
  ⟨none, none, .store 4 (.t 2) (.t 54)⟩,
  ⟨(some 3), none, .mov (.c (.int .i64 0))⟩])
 .ret)
 .skip))
 (.seq (.reg [⟨(some 55), none, .mov (.t 7)⟩,
  ⟨(some 56), none, .mov (.t 6)⟩,
  ⟨(some 57), none, .build [(.int .i64 0), (.int .i64 0), (.str []), (.int .i64 0)] [(0, 1, (.t 55)), (2, 1, (.t 56))]⟩,
  ⟨(some 58), none, .mov (.t 5)⟩,
  ⟨none, none, .store 4 (.t 2) (.t 57)⟩,
  ⟨(some 3), none, .mov (.t 58)⟩])
 .ret))))))
 (.seq (.reg [⟨(some 60), none, .mov (.t 4)⟩,
  ⟨(some 61), none, .call 0 [] (.c (.fn 72 [])) [(.t 60)]⟩,
  ⟨(some 59), none, .mov (.t 61)⟩])
 (.cond (.t 59) (.seq (.block 3 (.loop [0, 5] [2] (.seq (.seq (.reg [⟨(some 62), none, .mov (.t 5)⟩,
  ⟨(some 63), none, .mov (.t 0)⟩,
  ⟨(some 64), none, .len 1 (.t 63)⟩,
  ⟨(some 65), none, .bin .lss (.t 62) (.t 64)⟩,
  ⟨(some 66), none, .mov (.t 65)⟩,
  ⟨(some 67), (some (66, true)), .mov (.t 0)⟩,
  ⟨(some 68), (some (66, true)), .mov (.t 5)⟩,
  ⟨(some 69), (some (66, true)), .iaddr 1 (.t 67) (.t 68)⟩,
  ⟨(some 70), (some (66, true)), .load none (.t 69)⟩,
  ⟨(some 71), (some (66, true)), .call 0 [] (.c (.fn 72 [])) [(.t 70)]⟩,
  ⟨(some 72), none, .pick (.t 66) (.t 71) (.c (.bool false))⟩])
 (.cond (.t 72) .skip
 (.exit 3)))
 (.block 4 (.reg [⟨(some 73), none, .mov (.t 5)⟩,
  ⟨(some 74), none, .bin .add (.t 73) (.c (.int .i64 1))⟩,
  ⟨(some 5), none, .mov (.t 74)⟩])))))
 (.seq (.seq (.reg [⟨(some 75), none, .mov (.t 5)⟩,
  ⟨(some 76), none, .bin .gtr (.t 75) (.c (.int .i64 15))⟩])
 (.cond (.t 76) (.seq (.reg [⟨(some 77), none, .build [(.int .i64 0), (.int .i64 0), (.str []), (.int .i64 0)] []⟩,
  ⟨none, none, .store 4 (.t 2) (.t 77)⟩,
  ⟨(some 3), none, .mov (.c (.int .i64 0))⟩])
 .ret)
 .skip))
 (.seq (.reg [⟨(some 8), none, .mov (.c (.int .i64 0))⟩])
 (.seq (.seq (.reg [⟨(some 9), none, .mov (.c (.int .i64 0))⟩])
 (.block 5 (.loop [0, 5, 8, 9] [2] (.seq (.seq (.reg [⟨(some 78), none, .mov (.t 9)⟩,
  ⟨(some 79), none, .mov (.t 5)⟩,
  ⟨(some 80), none, .bin .lss (.t 78) (.t 79)⟩])
 (.cond (.t 80) .skip
 (.exit 5)))
 (.seq (.block 6 (.reg [⟨(some 83), none, .mov (.t 8)⟩,
  ⟨(some 84), none, .bin .mul (.c (.int .i64 10)) (.t 83)⟩,
  ⟨(some 85), none, .mov (.t 0)⟩,
  ⟨(some 86), none, .mov (.t 9)⟩,
  ⟨(some 87), none, .iaddr 1 (.t 85) (.t 86)⟩,
  ⟨(some 88), none, .load none (.t 87)⟩,
  ⟨(some 89), none, .bin .sub (.t 88) (.c (.int .u8 48))⟩,
  ⟨(some 90), none, .conv (.int .i64) (.t 89)⟩,
  ⟨(some 91), none, .bin .add (.t 84) (.t 90)⟩,
  ⟨(some 8), none, .mov (.t 91)⟩]))
 (.reg [⟨(some 81), none, .mov (.t 9)⟩,
  ⟨(some 82), none, .bin .add (.t 81) (.c (.int .i64 1))⟩,
  ⟨(some 9), none, .mov (.t 82)⟩]))))))
 (.seq (.reg [⟨(some 92), none, .mov (.t 0)⟩,
  ⟨(some 93), none, .mov (.t 5)⟩,
  ⟨(some 94), none, .slice 1 (.t 92) none (some (.t 93)) none⟩,
  ⟨(some 95), none, .conv .text (.t 94)⟩,
  ⟨(some 96), none, .mov (.t 8)⟩,
  ⟨(some 97), none, .build [(.int .i64 0), (.int .i64 0), (.str []), (.int .i64 0)] [(0, 1, (.c (.int .i64 3))), (2, 1, (.t 95)), (3, 1, (.t 96))]⟩,
  ⟨(some 98), none, .mov (.t 5)⟩,
  ⟨none, none, .store 4 (.t 2) (.t 97)⟩,
  ⟨(some 3), none, .mov (.t 98)⟩])
 .ret)))))
 (.seq (.reg [⟨(some 100), none, .mov (.t 4)⟩,
  ⟨(some 101), none, .bin .eql (.t 100) (.c (.int .u8 39))⟩,
  ⟨(some 99), none, .mov (.t 101)⟩])
 (.cond (.t 99) (.seq (.reg [⟨(some 103), none, .mov (.t 0)⟩,
  ⟨(some 104), none, .call 0 [] (.c (.fn 73 [])) [(.t 103)]⟩,
  ⟨(some 102), none, .mov (.t 104)⟩,
  ⟨(some 105), none, .extract (.t 102) 0⟩,
  ⟨(some 106), none, .extract (.t 102) 1⟩,
  ⟨(some 10), none, .mov (.t 105)⟩,
  ⟨(some 11), none, .mov (.t 106)⟩])
 (.seq (.seq (.reg [⟨(some 107), none, .mov (.t 10)⟩,
  ⟨(some 108), none, .bin .eql (.t 107) (.c (.int .i64 0))⟩])
 (.cond (.t 108) (.seq (.reg [⟨(some 109), none, .build [(.int .i64 0), (.int .i64 0), (.str []), (.int .i64 0)] []⟩,
  ⟨none, none, .store 4 (.t 2) (.t 109)⟩,
  ⟨(some 3), none, .mov (.c (.int .i64 0))⟩])
 .ret)
 .skip))
 (.seq (.reg [⟨(some 110), none, .mov (.t 0)⟩,
  ⟨(some 111), none, .mov (.t 10)⟩,
  ⟨(some 112), none, .slice 1 (.t 110) none (some (.t 111)) none⟩,
  ⟨(some 113), none, .conv .text (.t 112)⟩,
  ⟨(some 114), none, .mov (.t 11)⟩,
  ⟨(some 115), none, .build [(.int .i64 0), (.int .i64 0), (.str []), (.int .i64 0)] [(0, 1, (.c (.int .i64 4))), (2, 1, (.t 113)), (3, 1, (.t 114))]⟩,
  ⟨(some 116), none, .mov (.t 10)⟩,
  ⟨none, none, .store 4 (.t 2) (.t 115)⟩,
  ⟨(some 3), none, .mov (.t 116)⟩])
 .ret)))
 .skip)))))))
 (.seq (.reg [⟨(some 12), none, .mov (.c (.str []))⟩])
 (.seq (.seq (.reg [⟨(some 117), none, .mov (.t 0)⟩,
  ⟨(some 118), none, .len 1 (.t 117)⟩,
  ⟨(some 119), none, .bin .gtr (.t 118) (.c (.int .i64 1))⟩])
 (.cond (.t 119) (.reg [⟨(some 120), none, .mov (.t 0)⟩,
  ⟨(some 121), none, .slice 1 (.t 120) none (some (.c (.int .i64 2))) none⟩,
  ⟨(some 122), none, .conv .text (.t 121)⟩,
  ⟨(some 12), none, .mov (.t 122)⟩])
 .skip))
 (.seq (.seq (.reg [⟨(some 123), none, .mov (.t 12)⟩,
  ⟨(some 124), none, .bin .eql (.t 123) (.c (.str [45, 62]))⟩,
  ⟨(some 125), none, .mov (.t 124)⟩,
  ⟨(some 126), (some (125, false)), .mov (.t 12)⟩,
  ⟨(some 127), (some (125, false)), .bin .eql (.t 126) (.c (.str [61, 62]))⟩,
  ⟨(some 128), none, .pick (.t 125) (.c (.bool true)) (.t 127)⟩,
  ⟨(some 129), none, .mov (.t 128)⟩,
  ⟨(some 130), (some (129, false)), .mov (.t 12)⟩,
  ⟨(some 131), (some (129, false)), .bin .eql (.t 130) (.c (.str [58, 58]))⟩,
  ⟨(some 132), none, .pick (.t 129) (.c (.bool true)) (.t 131)⟩])
 (.cond (.t 132) (.seq (.reg [⟨(some 133), none, .mov (.t 12)⟩,
  ⟨(some 134), none, .build [(.int .i64 0), (.int .i64 0), (.str []), (.int .i64 0)] [(0, 1, (.c (.int .i64 6))), (2, 1, (.t 133))]⟩,
  ⟨none, none, .store 4 (.t 2) (.t 134)⟩,
  ⟨(some 3), none, .mov (.c (.int .i64 2))⟩])
 .ret)
 .skip))
 (.seq (.reg [⟨(some 135), none, .call 0 [] (.c (.fn 74 [])) []⟩,
  ⟨(some 13), none, .mov (.t 135)⟩])
 (.seq (.seq (.reg [⟨(some 14), none, .mov (.c (.int .i64 0))⟩])
 (.block 7 (.loop [4, 12, 13, 14] [2] (.seq (.seq (.reg [⟨(some 136), none, .mov (.t 14)⟩,
  ⟨(some 137), none, .mov (.t 13)⟩,
  ⟨(some 138), none, .len 1 (.t 137)⟩,
  ⟨(some 139), none, .bin .lss (.t 136) (.t 138)⟩])
 (.cond (.t 139) .skip
 (.exit 7)))
 (.seq (.block 8 (.seq (.reg [⟨(some 142), none, .mov (.t 12)⟩,
  ⟨(some 143), none, .mov (.t 13)⟩,
  ⟨(some 144), none, .mov (.t 14)⟩,
  ⟨(some 145), none, .iaddr 1 (.t 143) (.t 144)⟩,
  ⟨(some 146), none, .load none (.t 145)⟩,
  ⟨(some 147), none, .bin .eql (.t 142) (.t 146)⟩,
  ⟨(some 148), none, .mov (.t 147)⟩,
  ⟨(some 149), (some (148, false)), .mov (.t 4)⟩,
  ⟨(some 150), (some (148, false)), .conv .rune (.t 149)⟩,
  ⟨(some 151), (some (148, false)), .mov (.t 13)⟩,
  ⟨(some 152), (some (148, false)), .mov (.t 14)⟩,
  ⟨(some 153), (some (148, false)), .iaddr 1 (.t 151) (.t 152)⟩,
  ⟨(some 154), (some (148, false)), .load none (.t 153)⟩,
  ⟨(some 155), (some (148, false)), .bin .eql (.t 150) (.t 154)⟩,
  ⟨(some 156), none, .pick (.t 148) (.c (.bool true)) (.t 155)⟩])
 (.cond (.t 156) (.seq (.reg [⟨(some 157), none, .mov (.t 13)⟩,
  ⟨(some 158), none, .mov (.t 14)⟩,
  ⟨(some 159), none, .iaddr 1 (.t 157) (.t 158)⟩,
  ⟨(some 160), none, .load none (.t 159)⟩,
  ⟨(some 161), none, .build [(.int .i64 0), (.int .i64 0), (.str []), (.int .i64 0)] [(0, 1, (.c (.int .i64 5))), (2, 1, (.t 160))]⟩,
  ⟨(some 162), none, .mov (.t 13)⟩,
  ⟨(some 163), none, .mov (.t 14)⟩,
  ⟨(some 164), none, .iaddr 1 (.t 162) (.t 163)⟩,
  ⟨(some 165), none, .loadX true none (.t 164) [(.t 2)] []⟩,
  ⟨(some 166), none, .len 0 (.t 165)⟩,
  ⟨none, none, .storeX true 4 (.t 2) (.t 161) [] []⟩,
  ⟨(some 3), none, .mov (.t 166)⟩])
 .ret)
 .skip)))
 (.reg [⟨(some 140), none, .mov (.t 14)⟩,
  ⟨(some 141), none, .bin .add (.t 140) (.c (.int .i64 1))⟩,
  ⟨(some 14), none, .mov (.t 141)⟩]))))))
 (.seq (.reg [⟨(some 15), none, .mov (.c (.str [40, 41, 123, 125, 44, 59, 61, 92, 124]))⟩])
 (.seq (.seq (.reg [⟨(some 16), none, .mov (.c (.int .i64 0))⟩])
 (.block 9 (.loop [4, 15, 16] [2] (.seq (.seq (.reg [⟨(some 167), none, .mov (.t 16)⟩,
  ⟨(some 168), none, .mov (.t 15)⟩,
  ⟨(some 169), none, .len 0 (.t 168)⟩,
  ⟨(some 170), none, .bin .lss (.t 167) (.t 169)⟩])
 (.cond (.t 170) .skip
 (.exit 9)))
 (.seq (.block 10 (.seq (.reg [⟨(some 173), none, .mov (.t 4)⟩,
  ⟨(some 174), none, .mov (.t 15)⟩,
  ⟨(some 175), none, .mov (.t 16)⟩,
  ⟨(some 176), none, .sindex (.t 174) (.t 175)⟩,
  ⟨(some 177), none, .bin .eql (.t 173) (.t 176)⟩])
 (.cond (.t 177) (.seq (.reg [⟨(some 178), none, .mov (.t 4)⟩,
  ⟨(some 179), none, .conv .rune (.t 178)⟩,
  ⟨(some 180), none, .build [(.int .i64 0), (.int .i64 0), (.str []), (.int .i64 0)] [(0, 1, (.c (.int .i64 6))), (2, 1, (.t 179))]⟩,
  ⟨none, none, .store 4 (.t 2) (.t 180)⟩,
  ⟨(some 3), none, .mov (.c (.int .i64 1))⟩])
 .ret)
 .skip)))
 (.reg [⟨(some 171), none, .mov (.t 16)⟩,
  ⟨(some 172), none, .bin .add (.t 171) (.c (.int .i64 1))⟩,
  ⟨(some 16), none, .mov (.t 172)⟩]))))))
 (.seq (.reg [⟨(some 181), none, .build [(.int .i64 0), (.int .i64 0), (.str []), (.int .i64 0)] []⟩,
  ⟨none, none, .store 4 (.t 2) (.t 181)⟩,
  ⟨(some 3), none, .mov (.c (.int .i64 0))⟩])
 .ret)))))))))))),
  [.cell 2 (some 4), .t 3], false, true, 182⟩
theorem co41 : compF Tryz.prog ⟨[], [(16, [0, 5], [2]), (22, [0, 5, 8, 9], [2]), (4, [0, 4, 5], [2]), (38, [4, 12, 13, 14], [2]), (44, [4, 15, 16], [2])], [], [], [], [], 41, [], []⟩ false true Tryz.f41 = some ac41 := by kernel_rfl

/-- paideia/paideiaref.None -/
def ac42 : AF := ⟨(.seq (.reg [⟨(some 0), none, .alloc [(.int .i64 0), (.bool false), (.int .i64 0)] false⟩])
 (.seq (.reg [⟨(some 1), none, .build [(.int .i64 0), (.bool false), (.int .i64 0)] []⟩,
  ⟨none, none, .store 3 (.t 0) (.t 1)⟩])
 .ret)),
  [.cell 0 (some 3)], false, true, 2⟩
theorem co42 : compF Tryz.prog ⟨[], [], [], [], [], [], 42, [], []⟩ false true Tryz.f42 = some ac42 := by kernel_rfl

/-- (*paideia/paideiaref1.parser).at -/
def ac43 : AF := ⟨(.seq (.reg [⟨(some 6), none, .mov (.c (.bool false))⟩])
 (.seq (.reg [⟨(some 7), none, .mov (.t 0)⟩,
  ⟨(some 8), none, .call 0 [] (.c (.fn 21 [])) [(.t 7)]⟩,
  ⟨(some 9), none, .mov (.t 8)⟩,
  ⟨(some 10), (some (9, true)), .mov (.t 1)⟩,
  ⟨(some 11), (some (9, true)), .mov (.t 0)⟩,
  ⟨(some 12), (some (9, true)), .nilck (.t 11)⟩,
  ⟨(some 13), (some (9, true)), .faddr 0 (.t 12)⟩,
  ⟨(some 14), (some (9, true)), .load none (.t 13)⟩,
  ⟨(some 15), (some (9, true)), .len 1 (.t 14)⟩,
  ⟨(some 16), (some (9, true)), .bin .lss (.t 10) (.t 15)⟩,
  ⟨(some 17), none, .pick (.t 9) (.t 16) (.c (.bool false))⟩,
  ⟨(some 18), none, .mov (.t 17)⟩,
  ⟨(some 19), (some (18, true)), .mov (.t 0)⟩,
  ⟨(some 20), (some (18, true)), .nilck (.t 19)⟩,
  ⟨(some 21), (some (18, true)), .faddr 0 (.t 20)⟩,
  ⟨(some 22), (some (18, true)), .load none (.t 21)⟩,
  ⟨(some 23), (some (18, true)), .mov (.t 1)⟩,
  ⟨(some 24), (some (18, true)), .iaddr 4 (.t 22) (.t 23)⟩,
  ⟨(some 25), (some (18, true)), .faddr 0 (.t 24)⟩,
  ⟨(some 26), (some (18, true)), .load none (.t 25)⟩,
  ⟨(some 27), (some (18, true)), .bin .eql (.t 26) (.c (.int .i64 6))⟩,
  ⟨(some 28), none, .pick (.t 18) (.t 27) (.c (.bool false))⟩,
  ⟨(some 29), none, .mov (.t 28)⟩,
  ⟨(some 30), (some (29, true)), .mov (.t 0)⟩,
  ⟨(some 31), (some (29, true)), .nilck (.t 30)⟩,
  ⟨(some 32), (some (29, true)), .faddr 0 (.t 31)⟩,
  ⟨(some 33), (some (29, true)), .load none (.t 32)⟩,
  ⟨(some 34), (some (29, true)), .mov (.t 1)⟩,
  ⟨(some 35), (some (29, true)), .iaddr 4 (.t 33) (.t 34)⟩,
  ⟨(some 36), (some (29, true)), .faddr 2 (.t 35)⟩,
  ⟨(some 37), (some (29, true)), .load none (.t 36)⟩,
  ⟨(some 38), (some (29, true)), .mov (.t 2)⟩,
  ⟨(some 39), (some (29, true)), .bin .eql (.t 37) (.t 38)⟩,
  ⟨(some 40), none, .pick (.t 29) (.t 39) (.c (.bool false))⟩,
  ⟨(some 6), none, .mov (.t 40)⟩])
 .ret)),
  [.t 6], false, false, 41⟩
theorem co43 : compF Tryz.prog ⟨[], [], [], [], [], [], 43, [], []⟩ false false Tryz.f43 = some ac43 := by kernel_rfl

/-- (*paideia/paideiaref1.parser).pos -/
def ac44 : AF := ⟨(.seq (.reg [⟨(some 2), none, .mov (.c (.int .i64 0))⟩])
 (.seq (.seq (.reg [⟨(some 3), none, .mov (.t 0)⟩,
  ⟨(some 4), none, .nilck (.t 3)⟩,
  ⟨(some 5), none, .faddr 1 (.t 4)⟩,
  ⟨(some 6), none, .load none (.t 5)⟩,
  ⟨(some 7), none, .mov (.t 0)⟩,
  ⟨(some 8), none, .nilck (.t 7)⟩,
  ⟨(some 9), none, .faddr 0 (.t 8)⟩,
  ⟨(some 10), none, .load none (.t 9)⟩,
  ⟨(some 11), none, .len 1 (.t 10)⟩,
  ⟨(some 12), none, .bin .lss (.t 6) (.t 11)⟩])
 (.cond (.t 12) (.seq (.reg [⟨(some 13), none, .mov (.t 0)⟩,
  ⟨(some 14), none, .nilck (.t 13)⟩,
  ⟨(some 15), none, .faddr 0 (.t 14)⟩,
  ⟨(some 16), none, .load none (.t 15)⟩,
  ⟨(some 17), none, .mov (.t 0)⟩,
  ⟨(some 18), none, .nilck (.t 17)⟩,
  ⟨(some 19), none, .faddr 1 (.t 18)⟩,
  ⟨(some 20), none, .load none (.t 19)⟩,
  ⟨(some 21), none, .iaddr 4 (.t 16) (.t 20)⟩,
  ⟨(some 22), none, .faddr 1 (.t 21)⟩,
  ⟨(some 23), none, .load none (.t 22)⟩,
  ⟨(some 2), none, .mov (.t 23)⟩])
 .ret)
 .skip))
 (.seq (.reg [⟨(some 24), none, .mov (.t 0)⟩,
  ⟨(some 25), none, .nilck (.t 24)⟩,
  ⟨(some 26), none, .faddr 2 (.t 25)⟩,
  ⟨(some 27), none, .load none (.t 26)⟩,
  ⟨(some 2), none, .mov (.t 27)⟩])
 .ret))),
  [.t 2], false, false, 28⟩
theorem co44 : compF Tryz.prog ⟨[], [], [], [], [], [], 44, [], []⟩ false false Tryz.f44 = some ac44 := by kernel_rfl

/-- (*paideia/paideiaref1.parser).take -/
def ac45 : AF := ⟨(.seq (.seq (.reg [⟨(some 4), none, .mov (.t 0)⟩,
  ⟨(some 5), none, .mov (.t 1)⟩,
  ⟨(some 6), none, .call 0 [] (.c (.fn 22 [])) [(.t 4), (.t 5)]⟩,
  ⟨(some 7), none, .not (.t 6)⟩])
 (.cond (.t 7) (.seq (.reg [⟨(some 8), none, .mov (.t 0)⟩,
  ⟨(some 9), none, .call 0 [] (.c (.fn 29 [])) [(.t 8)]⟩])
 .ret)
 .skip))
 (.reg [⟨(some 10), none, .mov (.t 0)⟩,
  ⟨(some 11), none, .mov (.t 0)⟩,
  ⟨(some 12), none, .nilck (.t 11)⟩,
  ⟨(some 13), none, .faddr 1 (.t 12)⟩,
  ⟨(some 14), none, .load none (.t 13)⟩,
  ⟨(some 15), none, .bin .add (.t 14) (.c (.int .i64 1))⟩,
  ⟨(some 16), none, .nilck (.t 10)⟩,
  ⟨(some 17), none, .faddr 1 (.t 16)⟩,
  ⟨none, none, .store 1 (.t 17) (.t 15)⟩])),
  [], false, false, 18⟩
theorem co45 : compF Tryz.prog ⟨[], [], [], [], [], [], 45, [], []⟩ false false Tryz.f45 = some ac45 := by kernel_rfl

/-- (*paideia/paideiaref1.parser).word -/
def ac46 : AF := ⟨(.seq (.reg [⟨(some 4), none, .mov (.c (.str []))⟩])
 (.seq (.seq (.reg [⟨(some 5), none, .mov (.t 0)⟩,
  ⟨(some 6), none, .mov (.t 1)⟩,
  ⟨(some 7), none, .call 0 [] (.c (.fn 47 [])) [(.t 5), (.t 6)]⟩,
  ⟨(some 8), none, .not (.t 7)⟩])
 (.cond (.t 8) (.seq (.reg [⟨(some 9), none, .mov (.t 0)⟩,
  ⟨(some 10), none, .call 0 [] (.c (.fn 29 [])) [(.t 9)]⟩])
 (.seq (.reg [⟨(some 4), none, .mov (.c (.str []))⟩])
 .ret))
 .skip))
 (.seq (.reg [⟨(some 11), none, .mov (.t 0)⟩,
  ⟨(some 12), none, .mov (.t 0)⟩,
  ⟨(some 13), none, .nilck (.t 12)⟩,
  ⟨(some 14), none, .faddr 1 (.t 13)⟩,
  ⟨(some 15), none, .load none (.t 14)⟩,
  ⟨(some 16), none, .bin .add (.t 15) (.c (.int .i64 1))⟩,
  ⟨(some 17), none, .nilck (.t 11)⟩,
  ⟨(some 18), none, .faddr 1 (.t 17)⟩,
  ⟨none, none, .store 1 (.t 18) (.t 16)⟩])
 (.seq (.reg [⟨(some 19), none, .mov (.t 0)⟩,
  ⟨(some 20), none, .nilck (.t 19)⟩,
  ⟨(some 21), none, .faddr 0 (.t 20)⟩,
  ⟨(some 22), none, .load none (.t 21)⟩,
  ⟨(some 23), none, .mov (.t 0)⟩,
  ⟨(some 24), none, .nilck (.t 23)⟩,
  ⟨(some 25), none, .faddr 1 (.t 24)⟩,
  ⟨(some 26), none, .load none (.t 25)⟩,
  ⟨(some 27), none, .bin .sub (.t 26) (.c (.int .i64 1))⟩,
  ⟨(some 28), none, .iaddr 4 (.t 22) (.t 27)⟩,
  ⟨(some 29), none, .faddr 2 (.t 28)⟩,
  ⟨(some 30), none, .load none (.t 29)⟩,
  ⟨(some 4), none, .mov (.t 30)⟩])
 .ret)))),
  [.t 4], false, false, 31⟩
theorem co46 : compF Tryz.prog ⟨[], [], [], [], [], [], 46, [], []⟩ false false Tryz.f46 = some ac46 := by kernel_rfl

/-- (*paideia/paideiaref1.parser).kind -/
def ac47 : AF := ⟨(.seq (.reg [⟨(some 4), none, .mov (.c (.bool false))⟩])
 (.seq (.reg [⟨(some 5), none, .mov (.t 0)⟩,
  ⟨(some 6), none, .call 0 [] (.c (.fn 21 [])) [(.t 5)]⟩,
  ⟨(some 7), none, .mov (.t 6)⟩,
  ⟨(some 8), (some (7, true)), .mov (.t 0)⟩,
  ⟨(some 9), (some (7, true)), .nilck (.t 8)⟩,
  ⟨(some 10), (some (7, true)), .faddr 1 (.t 9)⟩,
  ⟨(some 11), (some (7, true)), .load none (.t 10)⟩,
  ⟨(some 12), (some (7, true)), .mov (.t 0)⟩,
  ⟨(some 13), (some (7, true)), .nilck (.t 12)⟩,
  ⟨(some 14), (some (7, true)), .faddr 0 (.t 13)⟩,
  ⟨(some 15), (some (7, true)), .load none (.t 14)⟩,
  ⟨(some 16), (some (7, true)), .len 1 (.t 15)⟩,
  ⟨(some 17), (some (7, true)), .bin .lss (.t 11) (.t 16)⟩,
  ⟨(some 18), none, .pick (.t 7) (.t 17) (.c (.bool false))⟩,
  ⟨(some 19), none, .mov (.t 18)⟩,
  ⟨(some 20), (some (19, true)), .mov (.t 0)⟩,
  ⟨(some 21), (some (19, true)), .nilck (.t 20)⟩,
  ⟨(some 22), (some (19, true)), .faddr 0 (.t 21)⟩,
  ⟨(some 23), (some (19, true)), .load none (.t 22)⟩,
  ⟨(some 24), (some (19, true)), .mov (.t 0)⟩,
  ⟨(some 25), (some (19, true)), .nilck (.t 24)⟩,
  ⟨(some 26), (some (19, true)), .faddr 1 (.t 25)⟩,
  ⟨(some 27), (some (19, true)), .load none (.t 26)⟩,
  ⟨(some 28), (some (19, true)), .iaddr 4 (.t 23) (.t 27)⟩,
  ⟨(some 29), (some (19, true)), .faddr 0 (.t 28)⟩,
  ⟨(some 30), (some (19, true)), .load none (.t 29)⟩,
  ⟨(some 31), (some (19, true)), .mov (.t 1)⟩,
  ⟨(some 32), (some (19, true)), .bin .eql (.t 30) (.t 31)⟩,
  ⟨(some 33), none, .pick (.t 19) (.t 32) (.c (.bool false))⟩,
  ⟨(some 4), none, .mov (.t 33)⟩])
 .ret)),
  [.t 4], false, false, 34⟩
theorem co47 : compF Tryz.prog ⟨[], [], [], [], [], [], 47, [], []⟩ false false Tryz.f47 = some ac47 := by kernel_rfl

/-- (*paideia/paideiaref1.parser).argument -/
def ac48 : AF := ⟨(.seq (.reg [⟨(some 2), none, .mov (.c (.bool false))⟩])
 (.seq (.reg [⟨(some 3), none, .mov (.t 0)⟩,
  ⟨(some 4), none, .call 0 [] (.c (.fn 47 [])) [(.t 3), (.c (.int .i64 1))]⟩,
  ⟨(some 5), none, .mov (.t 4)⟩,
  ⟨(some 6), (some (5, false)), .mov (.t 0)⟩,
  ⟨(some 7), (some (5, false)), .call 0 [] (.c (.fn 47 [])) [(.t 6), (.c (.int .i64 2))]⟩,
  ⟨(some 8), none, .pick (.t 5) (.c (.bool true)) (.t 7)⟩,
  ⟨(some 9), none, .mov (.t 8)⟩,
  ⟨(some 10), (some (9, false)), .mov (.t 0)⟩,
  ⟨(some 11), (some (9, false)), .call 0 [] (.c (.fn 22 [])) [(.t 10), (.c (.str [40]))]⟩,
  ⟨(some 12), none, .pick (.t 9) (.c (.bool true)) (.t 11)⟩,
  ⟨(some 2), none, .mov (.t 12)⟩])
 .ret)),
  [.t 2], false, false, 13⟩
theorem co48 : compF Tryz.prog ⟨[], [], [], [], [], [], 48, [], []⟩ false false Tryz.f48 = some ac48 := by kernel_rfl

/-- (*paideia/paideiaref1.parser).arg -/
def ac49 : AF := ⟨(.seq (.reg [⟨(some 2), none, .alloc [(.int .i64 0), (.str []), (.sl .clip [])] false⟩])
 (.seq (.block 0 (.seq (.reg [⟨(some 5), none, .mov (.t 0)⟩,
  ⟨(some 6), none, .call 0 [] (.c (.fn 47 [])) [(.t 5), (.c (.int .i64 1))]⟩,
  ⟨(some 4), none, .mov (.t 6)⟩])
 (.cond (.t 4) (.seq (.reg [⟨(some 7), none, .mov (.t 0)⟩,
  ⟨(some 8), none, .call 0 [] (.c (.fn 46 [])) [(.t 7), (.c (.int .i64 1))]⟩,
  ⟨(some 9), none, .build [(.int .i64 0), (.str []), (.sl .clip [])] [(0, 1, (.c (.int .i64 1))), (1, 1, (.t 8))]⟩,
  ⟨none, none, .store 3 (.t 2) (.t 9)⟩])
 .ret)
 (.seq (.reg [⟨(some 11), none, .mov (.t 0)⟩,
  ⟨(some 12), none, .call 0 [] (.c (.fn 47 [])) [(.t 11), (.c (.int .i64 2))]⟩,
  ⟨(some 10), none, .mov (.t 12)⟩])
 (.cond (.t 10) (.seq (.reg [⟨(some 13), none, .mov (.t 0)⟩,
  ⟨(some 14), none, .call 0 [] (.c (.fn 46 [])) [(.t 13), (.c (.int .i64 2))]⟩,
  ⟨(some 15), none, .build [(.int .i64 0), (.str []), (.sl .clip [])] [(0, 1, (.c (.int .i64 2))), (1, 1, (.t 14))]⟩,
  ⟨none, none, .store 3 (.t 2) (.t 15)⟩])
 .ret)
 (.seq (.reg [⟨(some 17), none, .mov (.t 0)⟩,
  ⟨(some 18), none, .call 0 [] (.c (.fn 22 [])) [(.t 17), (.c (.str [40]))]⟩,
  ⟨(some 16), none, .mov (.t 18)⟩])
 (.cond (.t 16) (.seq (.reg [⟨(some 19), none, .mov (.t 0)⟩,
  ⟨(some 20), none, .call 0 [] (.c (.fn 75 [])) [(.t 19)]⟩])
 (.seq (.reg [⟨(some 21), none, .mov (.t 0)⟩,
  ⟨(some 22), none, .call 0 [] (.c (.fn 76 [])) [(.t 21)]⟩,
  ⟨(some 3), none, .alloc [(.int .i64 0), (.str []), (.sl .clip [])] false⟩,
  ⟨none, none, .store 3 (.t 3) (.t 22)⟩])
 (.seq (.reg [⟨(some 23), none, .mov (.t 0)⟩,
  ⟨(some 24), none, .call 0 [] (.c (.fn 45 [])) [(.t 23), (.c (.str [41]))]⟩])
 (.seq (.reg [⟨(some 25), none, .mov (.t 0)⟩,
  ⟨(some 26), none, .call 0 [] (.c (.fn 77 [])) [(.t 25)]⟩])
 (.seq (.reg [⟨(some 27), none, .load (some 3) (.t 3)⟩,
  ⟨none, none, .store 3 (.t 2) (.t 27)⟩])
 .ret)))))
 .skip)))))))
 (.seq (.reg [⟨(some 28), none, .mov (.t 0)⟩,
  ⟨(some 29), none, .call 0 [] (.c (.fn 29 [])) [(.t 28)]⟩])
 (.seq (.reg [⟨(some 30), none, .build [(.int .i64 0), (.str []), (.sl .clip [])] []⟩,
  ⟨none, none, .store 3 (.t 2) (.t 30)⟩])
 .ret)))),
  [.cell 2 (some 3)], false, false, 31⟩
theorem co49 : compF Tryz.prog ⟨[], [], [], [], [], [], 49, [], []⟩ false false Tryz.f49 = some ac49 := by kernel_rfl

/-- (*paideia/paideiaref1.parser).preds -/
def ac50 : AF := ⟨(.seq (.reg [⟨(some 4), none, .mov (.c (.sl .clip []))⟩])
 (.seq (.seq (.reg [⟨(some 6), none, .mov (.t 0)⟩,
  ⟨(some 7), none, .call 0 [] (.c (.fn 78 [])) [(.t 6)]⟩,
  ⟨(some 8), none, .not (.t 7)⟩])
 (.cond (.t 8) (.seq (.reg [⟨(some 4), none, .mov (.c (.sl .clip []))⟩])
 .ret)
 .skip))
 (.seq (.reg [⟨(some 5), none, .mov (.c (.sl .clip []))⟩])
 (.seq (.seq (.reg [⟨(some 9), none, .mov (.t 0)⟩,
  ⟨(some 10), none, .call 0 [] (.c (.fn 22 [])) [(.t 9), (.c (.str [40]))]⟩])
 (.cond (.t 10) (.seq (.reg [⟨(some 11), none, .mov (.t 0)⟩,
  ⟨(some 12), none, .mov (.t 0)⟩,
  ⟨(some 13), none, .nilck (.t 12)⟩,
  ⟨(some 14), none, .faddr 1 (.t 13)⟩,
  ⟨(some 15), none, .load none (.t 14)⟩,
  ⟨(some 16), none, .bin .add (.t 15) (.c (.int .i64 1))⟩,
  ⟨(some 17), none, .nilck (.t 11)⟩,
  ⟨(some 18), none, .faddr 1 (.t 17)⟩,
  ⟨none, none, .store 1 (.t 18) (.t 16)⟩])
 (.seq (.reg [⟨(some 19), none, .mov (.t 5)⟩,
  ⟨(some 20), none, .mov (.t 0)⟩,
  ⟨(some 21), none, .mov (.t 1)⟩,
  ⟨(some 22), none, .call 0 [] (.c (.fn 79 [])) [(.t 20), (.t 21)]⟩,
  ⟨(some 23), none, .bslice [(.str []), (.int .i64 0), (.str []), (.sl .clip [])] 1 [(0, (.t 22))]⟩,
  ⟨(some 24), none, .append 4 (.t 19) (.t 23)⟩,
  ⟨(some 5), none, .mov (.t 24)⟩])
 (.seq (.block 0 (.loop [0, 1, 5] [] (.seq (.seq (.reg [⟨(some 25), none, .mov (.t 0)⟩,
  ⟨(some 26), none, .call 0 [] (.c (.fn 22 [])) [(.t 25), (.c (.str [44]))]⟩])
 (.cond (.t 26) .skip
 (.exit 0)))
 (.block 1 (.seq (.reg [⟨(some 27), none, .mov (.t 0)⟩,
  ⟨(some 28), none, .mov (.t 0)⟩,
  ⟨(some 29), none, .nilck (.t 28)⟩,
  ⟨(some 30), none, .faddr 1 (.t 29)⟩,
  ⟨(some 31), none, .load none (.t 30)⟩,
  ⟨(some 32), none, .bin .add (.t 31) (.c (.int .i64 1))⟩,
  ⟨(some 33), none, .nilck (.t 27)⟩,
  ⟨(some 34), none, .faddr 1 (.t 33)⟩,
  ⟨none, none, .store 1 (.t 34) (.t 32)⟩])
 (.reg [⟨(some 35), none, .mov (.t 5)⟩,
  ⟨(some 36), none, .mov (.t 0)⟩,
  ⟨(some 37), none, .mov (.t 1)⟩,
  ⟨(some 38), none, .call 0 [] (.c (.fn 79 [])) [(.t 36), (.t 37)]⟩,
  ⟨(some 39), none, .bslice [(.str []), (.int .i64 0), (.str []), (.sl .clip [])] 1 [(0, (.t 38))]⟩,
  ⟨(some 40), none, .append 4 (.t 35) (.t 39)⟩,
  ⟨(some 5), none, .mov (.t 40)⟩]))))))
 (.reg [⟨(some 41), none, .mov (.t 0)⟩,
  ⟨(some 42), none, .call 0 [] (.c (.fn 45 [])) [(.t 41), (.c (.str [41]))]⟩]))))
 (.reg [⟨(some 43), none, .mov (.t 5)⟩,
  ⟨(some 44), none, .mov (.t 0)⟩,
  ⟨(some 45), none, .mov (.t 1)⟩,
  ⟨(some 46), none, .call 0 [] (.c (.fn 79 [])) [(.t 44), (.t 45)]⟩,
  ⟨(some 47), none, .bslice [(.str []), (.int .i64 0), (.str []), (.sl .clip [])] 1 [(0, (.t 46))]⟩,
  ⟨(some 48), none, .append 4 (.t 43) (.t 47)⟩,
  ⟨(some 5), none, .mov (.t 48)⟩])))
 (.seq (.reg [⟨(some 49), none, .mov (.t 0)⟩,
  ⟨(some 50), none, .call 0 [] (.c (.fn 45 [])) [(.t 49), (.c (.str [61, 62]))]⟩])
 (.seq (.reg [⟨(some 51), none, .mov (.t 5)⟩,
  ⟨(some 4), none, .mov (.t 51)⟩])
 .ret)))))),
  [.t 4], false, false, 52⟩
theorem co50 : compF Tryz.prog ⟨[], [(7, [0, 1, 5], [])], [], [], [], [], 50, [], []⟩ false false Tryz.f50 = some ac50 := by kernel_rfl

/-- (*paideia/paideiaref1.parser).amiss -/
def ac51 : AF := ⟨(.seq (.reg [⟨(some 6), none, .mov (.t 0)⟩,
  ⟨(some 7), none, .call 0 [] (.c (.fn 21 [])) [(.t 6)]⟩])
 (.cond (.t 7) (.reg [⟨(some 8), none, .mov (.t 0)⟩,
  ⟨(some 9), none, .mov (.t 1)⟩,
  ⟨(some 10), none, .mov (.t 2)⟩,
  ⟨(some 11), none, .call 0 [] (.c (.fn 40 [])) [(.t 9), (.t 10)]⟩,
  ⟨(some 12), none, .nilck (.t 8)⟩,
  ⟨(some 13), none, .faddr 3 (.t 12)⟩,
  ⟨none, none, .store 3 (.t 13) (.t 11)⟩])
 .skip)),
  [], false, false, 14⟩
theorem co51 : compF Tryz.prog ⟨[], [], [], [], [], [], 51, [], []⟩ false false Tryz.f51 = some ac51 := by kernel_rfl

/-- (*paideia/paideiaref1.parser).plain -/
def ac52 : AF := ⟨(.seq (.reg [⟨(some 2), none, .mov (.c (.sl .clip []))⟩])
 (.seq (.reg [⟨(some 3), none, .mov (.c (.sl .clip []))⟩])
 (.seq (.block 0 (.loop [0, 3] [] (.seq (.seq (.reg [⟨(some 5), none, .mov (.t 0)⟩,
  ⟨(some 6), none, .call 0 [] (.c (.fn 21 [])) [(.t 5)]⟩])
 (.cond (.t 6) .skip
 (.exit 0)))
 (.block 1 (.seq (.block 2 (.loop [0, 3] [] (.seq (.seq (.reg [⟨(some 7), none, .mov (.t 0)⟩,
  ⟨(some 8), none, .call 0 [] (.c (.fn 22 [])) [(.t 7), (.c (.str [59]))]⟩])
 (.cond (.t 8) .skip
 (.exit 2)))
 (.block 3 (.reg [⟨(some 9), none, .mov (.t 0)⟩,
  ⟨(some 10), none, .mov (.t 0)⟩,
  ⟨(some 11), none, .nilck (.t 10)⟩,
  ⟨(some 12), none, .faddr 1 (.t 11)⟩,
  ⟨(some 13), none, .load none (.t 12)⟩,
  ⟨(some 14), none, .bin .add (.t 13) (.c (.int .i64 1))⟩,
  ⟨(some 15), none, .nilck (.t 9)⟩,
  ⟨(some 16), none, .faddr 1 (.t 15)⟩,
  ⟨none, none, .store 1 (.t 16) (.t 14)⟩])))))
 (.seq (.seq (.reg [⟨(some 17), none, .mov (.t 0)⟩,
  ⟨(some 18), none, .call 0 [] (.c (.fn 22 [])) [(.t 17), (.c (.str [125]))]⟩])
 (.cond (.t 18) (.exit 0)
 .skip))
 (.seq (.reg [⟨(some 19), none, .mov (.t 0)⟩,
  ⟨(some 20), none, .nilck (.t 19)⟩,
  ⟨(some 21), none, .faddr 1 (.t 20)⟩,
  ⟨(some 22), none, .load none (.t 21)⟩,
  ⟨(some 4), none, .mov (.t 22)⟩])
 (.seq (.reg [⟨(some 23), none, .mov (.t 0)⟩,
  ⟨(some 24), none, .call 0 [] (.c (.fn 53 [])) [(.t 23)]⟩])
 (.seq (.seq (.reg [⟨(some 25), none, .mov (.t 0)⟩,
  ⟨(some 26), none, .call 0 [] (.c (.fn 22 [])) [(.t 25), (.c (.str [58, 58]))]⟩])
 (.cond (.t 26) (.reg [⟨(some 27), none, .mov (.t 0)⟩,
  ⟨(some 28), none, .call 0 [] (.c (.fn 29 [])) [(.t 27)]⟩])
 .skip))
 (.seq (.seq (.reg [⟨(some 29), none, .mov (.t 0)⟩,
  ⟨(some 30), none, .call 0 [] (.c (.fn 21 [])) [(.t 29)]⟩])
 (.cond (.t 30) (.seq (.reg [⟨(some 31), none, .mov (.t 0)⟩,
  ⟨(some 32), none, .mov (.t 4)⟩,
  ⟨(some 33), none, .nilck (.t 31)⟩,
  ⟨(some 34), none, .faddr 1 (.t 33)⟩,
  ⟨none, none, .store 1 (.t 34) (.t 32)⟩])
 (.reg [⟨(some 36), none, .mov (.t 0)⟩,
  ⟨(some 37), none, .mov (.t 3)⟩,
  ⟨(some 38), none, .call 0 [] (.c (.fn 26 [])) [(.t 36), (.c (.sl .clip [])), (.t 37)]⟩,
  ⟨(some 35), none, .mov (.t 38)⟩,
  ⟨(some 39), none, .extract (.t 35) 0⟩,
  ⟨(some 40), none, .extract (.t 35) 1⟩,
  ⟨(some 3), none, .mov (.t 40)⟩]))
 .skip))
 (.reg [⟨(some 41), none, .mov (.t 0)⟩,
  ⟨(some 42), none, .call 0 [] (.c (.fn 27 [])) [(.t 41), (.c (.bool true))]⟩])))))))))))
 (.seq (.reg [⟨(some 43), none, .mov (.t 3)⟩,
  ⟨(some 2), none, .mov (.t 43)⟩])
 .ret)))),
  [.t 2], false, false, 44⟩
theorem co52 : compF Tryz.prog ⟨[], [(2, [0, 3], []), (3, [0, 3], [])], [], [], [], [], 52, [], []⟩ false false Tryz.f52 = some ac52 := by kernel_rfl

/-- (*paideia/paideiaref1.parser).named -/
def ac53 : AF := ⟨(.seq (.reg [⟨(some 2), none, .mov (.c (.str []))⟩,
  ⟨(some 3), none, .mov (.c (.int .i64 0))⟩])
 (.seq (.seq (.reg [⟨(some 7), none, .mov (.t 0)⟩,
  ⟨(some 8), none, .call 0 [] (.c (.fn 22 [])) [(.t 7), (.c (.str [40]))]⟩])
 (.cond (.t 8) (.seq (.reg [⟨(some 9), none, .mov (.t 0)⟩,
  ⟨(some 10), none, .mov (.t 0)⟩,
  ⟨(some 11), none, .nilck (.t 10)⟩,
  ⟨(some 12), none, .faddr 1 (.t 11)⟩,
  ⟨(some 13), none, .load none (.t 12)⟩,
  ⟨(some 14), none, .bin .add (.t 13) (.c (.int .i64 1))⟩,
  ⟨(some 15), none, .nilck (.t 9)⟩,
  ⟨(some 16), none, .faddr 1 (.t 15)⟩,
  ⟨none, none, .store 1 (.t 16) (.t 14)⟩])
 (.seq (.reg [⟨(some 17), none, .mov (.t 0)⟩,
  ⟨(some 18), none, .call 0 [] (.c (.fn 44 [])) [(.t 17)]⟩,
  ⟨(some 4), none, .mov (.t 18)⟩])
 (.seq (.reg [⟨(some 19), none, .mov (.t 0)⟩,
  ⟨(some 20), none, .call 0 [] (.c (.fn 46 [])) [(.t 19), (.c (.int .i64 5))]⟩,
  ⟨(some 5), none, .mov (.t 20)⟩])
 (.seq (.reg [⟨(some 21), none, .mov (.t 0)⟩,
  ⟨(some 22), none, .call 0 [] (.c (.fn 45 [])) [(.t 21), (.c (.str [41]))]⟩])
 (.seq (.reg [⟨(some 23), none, .mov (.t 5)⟩,
  ⟨(some 24), none, .mov (.t 4)⟩,
  ⟨(some 2), none, .mov (.t 23)⟩,
  ⟨(some 3), none, .mov (.t 24)⟩])
 .ret)))))
 .skip))
 (.seq (.reg [⟨(some 25), none, .mov (.t 0)⟩,
  ⟨(some 26), none, .call 0 [] (.c (.fn 44 [])) [(.t 25)]⟩,
  ⟨(some 6), none, .mov (.t 26)⟩])
 (.seq (.reg [⟨(some 27), none, .mov (.t 0)⟩,
  ⟨(some 28), none, .call 0 [] (.c (.fn 46 [])) [(.t 27), (.c (.int .i64 1))]⟩,
  ⟨(some 29), none, .mov (.t 6)⟩,
  ⟨(some 2), none, .mov (.t 28)⟩,
  ⟨(some 3), none, .mov (.t 29)⟩])
 .ret)))),
  [.t 2, .t 3], false, false, 30⟩
theorem co53 : compF Tryz.prog ⟨[], [], [], [], [], [], 53, [], []⟩ false false Tryz.f53 = some ac53 := by kernel_rfl

/-- (*paideia/paideiaref1.parser).scheme -/
def ac54 : AF := ⟨(.seq (.reg [⟨(some 2), none, .alloc [(.sl .clip []), (.sl .clip []), (.int .i64 0), (.str []), (.sl .clip [])] false⟩])
 (.seq (.reg [⟨(some 3), none, .alloc [(.sl .clip []), (.sl .clip []), (.int .i64 0), (.str []), (.sl .clip [])] false⟩])
 (.seq (.reg [⟨(some 5), none, .mov (.t 0)⟩,
  ⟨(some 6), none, .call 0 [] (.c (.fn 50 [])) [(.t 5), (.c (.bool false))]⟩,
  ⟨(some 7), none, .faddr 1 (.t 3)⟩,
  ⟨none, none, .store 1 (.t 7) (.t 6)⟩])
 (.seq (.reg [⟨(some 8), none, .mov (.t 0)⟩,
  ⟨(some 9), none, .call 0 [] (.c (.fn 76 [])) [(.t 8)]⟩,
  ⟨(some 10), none, .faddr 2 (.t 3)⟩,
  ⟨none, none, .store 3 (.t 10) (.t 9)⟩])
 (.seq (.reg [⟨(some 11), none, .faddr 2 (.t 3)⟩,
  ⟨(some 12), none, .load (some 3) (.t 11)⟩,
  ⟨(some 13), none, .call 0 [] (.c (.fn 80 [])) [(.c (.sl .clip [])), (.t 12)]⟩,
  ⟨(some 14), none, .faddr 0 (.t 3)⟩,
  ⟨none, none, .store 1 (.t 14) (.t 13)⟩])
 (.seq (.seq (.reg [⟨(some 4), none, .mov (.c (.int .i64 0))⟩])
 (.block 0 (.loop [4] [2, 3] (.seq (.seq (.reg [⟨(some 15), none, .mov (.t 4)⟩,
  ⟨(some 16), none, .faddr 1 (.t 3)⟩,
  ⟨(some 17), none, .load none (.t 16)⟩,
  ⟨(some 18), none, .len 1 (.t 17)⟩,
  ⟨(some 19), none, .bin .lss (.t 15) (.t 18)⟩])
 (.cond (.t 19) .skip
 (.exit 0)))
 (.seq (.block 1 (.reg [⟨(some 22), none, .faddr 0 (.t 3)⟩,
  ⟨(some 23), none, .load none (.t 22)⟩,
  ⟨(some 24), none, .faddr 1 (.t 3)⟩,
  ⟨(some 25), none, .load none (.t 24)⟩,
  ⟨(some 26), none, .mov (.t 4)⟩,
  ⟨(some 27), none, .iaddr 4 (.t 25) (.t 26)⟩,
  ⟨(some 28), none, .faddr 1 (.t 27)⟩,
  ⟨(some 29), none, .load (some 3) (.t 28)⟩,
  ⟨(some 30), none, .call 0 [] (.c (.fn 80 [])) [(.t 23), (.t 29)]⟩,
  ⟨(some 31), none, .faddr 0 (.t 3)⟩,
  ⟨none, none, .store 1 (.t 31) (.t 30)⟩]))
 (.reg [⟨(some 20), none, .mov (.t 4)⟩,
  ⟨(some 21), none, .bin .add (.t 20) (.c (.int .i64 1))⟩,
  ⟨(some 4), none, .mov (.t 21)⟩]))))))
 (.seq (.reg [⟨(some 32), none, .load (some 5) (.t 3)⟩,
  ⟨none, none, .store 5 (.t 2) (.t 32)⟩])
 .ret))))))),
  [.cell 2 (some 5)], false, false, 33⟩
theorem co54 : compF Tryz.prog ⟨[], [(6, [4], [2, 3])], [], [], [], [], 54, [], []⟩ false false Tryz.f54 = some ac54 := by kernel_rfl

/-- (*paideia/paideiaref1.parser).expr -/
def ac55 : AF := ⟨(.seq (.reg [⟨(some 2), none, .alloc [(.int .i64 0), (.int .i64 0), (.str []), (.int .i64 0), (.sl .clip []), (.sl .clip []), (.sl .clip [])] false⟩])
 (.seq (.reg [⟨(some 14), none, .mov (.t 0)⟩,
  ⟨(some 15), none, .call 0 [] (.c (.fn 44 [])) [(.t 14)]⟩,
  ⟨(some 3), none, .mov (.t 15)⟩])
 (.seq (.block 0 (.seq (.reg [⟨(some 17), none, .mov (.t 0)⟩,
  ⟨(some 18), none, .call 0 [] (.c (.fn 22 [])) [(.t 17), (.c (.str [92]))]⟩,
  ⟨(some 16), none, .mov (.t 18)⟩])
 (.cond (.t 16) (.seq (.reg [⟨(some 19), none, .mov (.t 0)⟩,
  ⟨(some 20), none, .call 0 [] (.c (.fn 75 [])) [(.t 19)]⟩])
 (.seq (.reg [⟨(some 21), none, .mov (.t 0)⟩,
  ⟨(some 22), none, .call 0 [] (.c (.fn 46 [])) [(.t 21), (.c (.int .i64 1))]⟩,
  ⟨(some 23), none, .bslice [(.str [])] 1 [(0, (.t 22))]⟩,
  ⟨(some 4), none, .mov (.t 23)⟩])
 (.seq (.block 1 (.loop [0, 3, 4] [2] (.seq (.seq (.reg [⟨(some 24), none, .mov (.t 0)⟩,
  ⟨(some 25), none, .call 0 [] (.c (.fn 47 [])) [(.t 24), (.c (.int .i64 1))]⟩])
 (.cond (.t 25) .skip
 (.exit 1)))
 (.block 2 (.reg [⟨(some 26), none, .mov (.t 4)⟩,
  ⟨(some 27), none, .mov (.t 0)⟩,
  ⟨(some 28), none, .call 0 [] (.c (.fn 46 [])) [(.t 27), (.c (.int .i64 1))]⟩,
  ⟨(some 29), none, .bslice [(.str [])] 1 [(0, (.t 28))]⟩,
  ⟨(some 30), none, .append 1 (.t 26) (.t 29)⟩,
  ⟨(some 4), none, .mov (.t 30)⟩])))))
 (.seq (.reg [⟨(some 31), none, .mov (.t 0)⟩,
  ⟨(some 32), none, .call 0 [] (.c (.fn 45 [])) [(.t 31), (.c (.str [45, 62]))]⟩])
 (.seq (.reg [⟨(some 33), none, .mov (.t 0)⟩,
  ⟨(some 34), none, .call 0 [] (.c (.fn 55 [])) [(.t 33)]⟩,
  ⟨(some 5), none, .alloc [(.int .i64 0), (.int .i64 0), (.str []), (.int .i64 0), (.sl .clip []), (.sl .clip []), (.sl .clip [])] false⟩,
  ⟨none, none, .store 7 (.t 5) (.t 34)⟩])
 (.seq (.reg [⟨(some 35), none, .mov (.t 0)⟩,
  ⟨(some 36), none, .call 0 [] (.c (.fn 77 [])) [(.t 35)]⟩])
 (.seq (.reg [⟨(some 37), none, .mov (.t 4)⟩,
  ⟨(some 38), none, .load (some 7) (.t 5)⟩,
  ⟨(some 39), none, .mov (.t 3)⟩,
  ⟨(some 40), none, .call 0 [] (.c (.fn 56 [])) [(.t 37), (.t 38), (.t 39)]⟩,
  ⟨none, none, .store 7 (.t 2) (.t 40)⟩])
 .ret)))))))
 (.seq (.reg [⟨(some 42), none, .mov (.t 0)⟩,
  ⟨(some 43), none, .call 0 [] (.c (.fn 22 [])) [(.t 42), (.c (.str [108, 101, 116]))]⟩,
  ⟨(some 41), none, .mov (.t 43)⟩])
 (.cond (.t 41) (.seq (.reg [⟨(some 44), none, .mov (.t 0)⟩,
  ⟨(some 45), none, .call 0 [] (.c (.fn 75 [])) [(.t 44)]⟩])
 (.seq (.reg [⟨(some 46), none, .mov (.t 0)⟩,
  ⟨(some 47), none, .call 0 [] (.c (.fn 45 [])) [(.t 46), (.c (.str [123]))]⟩])
 (.seq (.reg [⟨(some 48), none, .mov (.t 0)⟩,
  ⟨(some 49), none, .call 0 [] (.c (.fn 81 [])) [(.t 48)]⟩,
  ⟨(some 6), none, .mov (.t 49)⟩])
 (.seq (.reg [⟨(some 50), none, .mov (.t 0)⟩,
  ⟨(some 51), none, .call 0 [] (.c (.fn 45 [])) [(.t 50), (.c (.str [125]))]⟩])
 (.seq (.reg [⟨(some 52), none, .mov (.t 0)⟩,
  ⟨(some 53), none, .call 0 [] (.c (.fn 45 [])) [(.t 52), (.c (.str [105, 110]))]⟩])
 (.seq (.reg [⟨(some 54), none, .mov (.t 0)⟩,
  ⟨(some 55), none, .call 0 [] (.c (.fn 55 [])) [(.t 54)]⟩,
  ⟨(some 7), none, .alloc [(.int .i64 0), (.int .i64 0), (.str []), (.int .i64 0), (.sl .clip []), (.sl .clip []), (.sl .clip [])] false⟩,
  ⟨none, none, .store 7 (.t 7) (.t 55)⟩])
 (.seq (.reg [⟨(some 56), none, .mov (.t 0)⟩,
  ⟨(some 57), none, .call 0 [] (.c (.fn 77 [])) [(.t 56)]⟩])
 (.seq (.reg [⟨(some 58), none, .mov (.t 3)⟩,
  ⟨(some 59), none, .mov (.t 6)⟩,
  ⟨(some 60), none, .load (some 7) (.t 7)⟩,
  ⟨(some 61), none, .bslice [(.int .i64 0), (.int .i64 0), (.str []), (.int .i64 0), (.sl .clip []), (.sl .clip []), (.sl .clip [])] 1 [(0, (.t 60))]⟩,
  ⟨(some 62), none, .build [(.int .i64 0), (.int .i64 0), (.str []), (.int .i64 0), (.sl .clip []), (.sl .clip []), (.sl .clip [])] [(0, 1, (.c (.int .i64 7))), (1, 1, (.t 58)), (6, 1, (.t 59)), (4, 1, (.t 61))]⟩,
  ⟨none, none, .store 7 (.t 2) (.t 62)⟩])
 .ret))))))))
 (.seq (.reg [⟨(some 64), none, .mov (.t 0)⟩,
  ⟨(some 65), none, .call 0 [] (.c (.fn 22 [])) [(.t 64), (.c (.str [99, 97, 115, 101]))]⟩,
  ⟨(some 63), none, .mov (.t 65)⟩])
 (.cond (.t 63) (.seq (.reg [⟨(some 66), none, .mov (.t 0)⟩,
  ⟨(some 67), none, .call 0 [] (.c (.fn 75 [])) [(.t 66)]⟩])
 (.seq (.reg [⟨(some 68), none, .mov (.t 0)⟩,
  ⟨(some 69), none, .call 0 [] (.c (.fn 55 [])) [(.t 68)]⟩,
  ⟨(some 8), none, .alloc [(.int .i64 0), (.int .i64 0), (.str []), (.int .i64 0), (.sl .clip []), (.sl .clip []), (.sl .clip [])] false⟩,
  ⟨none, none, .store 7 (.t 8) (.t 69)⟩])
 (.seq (.reg [⟨(some 70), none, .mov (.t 0)⟩,
  ⟨(some 71), none, .call 0 [] (.c (.fn 45 [])) [(.t 70), (.c (.str [111, 102]))]⟩])
 (.seq (.reg [⟨(some 72), none, .mov (.t 0)⟩,
  ⟨(some 73), none, .call 0 [] (.c (.fn 45 [])) [(.t 72), (.c (.str [123]))]⟩])
 (.seq (.reg [⟨(some 74), none, .mov (.t 0)⟩,
  ⟨(some 75), none, .call 0 [] (.c (.fn 82 [])) [(.t 74)]⟩,
  ⟨(some 9), none, .mov (.t 75)⟩])
 (.seq (.reg [⟨(some 76), none, .mov (.t 0)⟩,
  ⟨(some 77), none, .call 0 [] (.c (.fn 45 [])) [(.t 76), (.c (.str [125]))]⟩])
 (.seq (.reg [⟨(some 78), none, .mov (.t 0)⟩,
  ⟨(some 79), none, .call 0 [] (.c (.fn 77 [])) [(.t 78)]⟩])
 (.seq (.reg [⟨(some 80), none, .mov (.t 3)⟩,
  ⟨(some 81), none, .mov (.t 9)⟩,
  ⟨(some 82), none, .load (some 7) (.t 8)⟩,
  ⟨(some 83), none, .bslice [(.int .i64 0), (.int .i64 0), (.str []), (.int .i64 0), (.sl .clip []), (.sl .clip []), (.sl .clip [])] 1 [(0, (.t 82))]⟩,
  ⟨(some 84), none, .build [(.int .i64 0), (.int .i64 0), (.str []), (.int .i64 0), (.sl .clip []), (.sl .clip []), (.sl .clip [])] [(0, 1, (.c (.int .i64 8))), (1, 1, (.t 80)), (5, 1, (.t 81)), (4, 1, (.t 83))]⟩,
  ⟨none, none, .store 7 (.t 2) (.t 84)⟩])
 .ret))))))))
 (.seq (.reg [⟨(some 86), none, .mov (.t 0)⟩,
  ⟨(some 87), none, .call 0 [] (.c (.fn 22 [])) [(.t 86), (.c (.str [105, 102]))]⟩,
  ⟨(some 85), none, .mov (.t 87)⟩])
 (.cond (.t 85) (.seq (.reg [⟨(some 88), none, .mov (.t 0)⟩,
  ⟨(some 89), none, .call 0 [] (.c (.fn 75 [])) [(.t 88)]⟩])
 (.seq (.reg [⟨(some 90), none, .mov (.t 0)⟩,
  ⟨(some 91), none, .call 0 [] (.c (.fn 55 [])) [(.t 90)]⟩,
  ⟨(some 10), none, .alloc [(.int .i64 0), (.int .i64 0), (.str []), (.int .i64 0), (.sl .clip []), (.sl .clip []), (.sl .clip [])] false⟩,
  ⟨none, none, .store 7 (.t 10) (.t 91)⟩])
 (.seq (.reg [⟨(some 92), none, .mov (.t 0)⟩,
  ⟨(some 93), none, .call 0 [] (.c (.fn 45 [])) [(.t 92), (.c (.str [116, 104, 101, 110]))]⟩])
 (.seq (.reg [⟨(some 94), none, .mov (.t 0)⟩,
  ⟨(some 95), none, .call 0 [] (.c (.fn 55 [])) [(.t 94)]⟩,
  ⟨(some 11), none, .alloc [(.int .i64 0), (.int .i64 0), (.str []), (.int .i64 0), (.sl .clip []), (.sl .clip []), (.sl .clip [])] false⟩,
  ⟨none, none, .store 7 (.t 11) (.t 95)⟩])
 (.seq (.reg [⟨(some 96), none, .mov (.t 0)⟩,
  ⟨(some 97), none, .call 0 [] (.c (.fn 45 [])) [(.t 96), (.c (.str [101, 108, 115, 101]))]⟩])
 (.seq (.reg [⟨(some 98), none, .mov (.t 0)⟩,
  ⟨(some 99), none, .call 0 [] (.c (.fn 55 [])) [(.t 98)]⟩,
  ⟨(some 12), none, .alloc [(.int .i64 0), (.int .i64 0), (.str []), (.int .i64 0), (.sl .clip []), (.sl .clip []), (.sl .clip [])] false⟩,
  ⟨none, none, .store 7 (.t 12) (.t 99)⟩])
 (.seq (.reg [⟨(some 100), none, .mov (.t 0)⟩,
  ⟨(some 101), none, .call 0 [] (.c (.fn 77 [])) [(.t 100)]⟩])
 (.seq (.reg [⟨(some 102), none, .mov (.t 3)⟩,
  ⟨(some 103), none, .load (some 7) (.t 10)⟩,
  ⟨(some 104), none, .bslice [(.int .i64 0), (.int .i64 0), (.str []), (.int .i64 0), (.sl .clip []), (.sl .clip []), (.sl .clip [])] 1 [(0, (.t 103))]⟩,
  ⟨(some 105), none, .load (some 7) (.t 11)⟩,
  ⟨(some 106), none, .mov (.t 3)⟩,
  ⟨(some 107), none, .build [(.str []), (.sl .clip []), (.int .i64 0), (.int .i64 0), (.str []), (.int .i64 0), (.sl .clip []), (.sl .clip []), (.sl .clip []), (.int .i64 0)] [(0, 1, (.c (.str [84, 114, 117, 101]))), (2, 7, (.t 105)), (9, 1, (.t 106))]⟩,
  ⟨(some 108), none, .load (some 7) (.t 12)⟩,
  ⟨(some 109), none, .mov (.t 3)⟩,
  ⟨(some 110), none, .build [(.str []), (.sl .clip []), (.int .i64 0), (.int .i64 0), (.str []), (.int .i64 0), (.sl .clip []), (.sl .clip []), (.sl .clip []), (.int .i64 0)] [(0, 1, (.c (.str [70, 97, 108, 115, 101]))), (2, 7, (.t 108)), (9, 1, (.t 109))]⟩,
  ⟨(some 111), none, .bslice [(.str []), (.sl .clip []), (.int .i64 0), (.int .i64 0), (.str []), (.int .i64 0), (.sl .clip []), (.sl .clip []), (.sl .clip []), (.int .i64 0)] 2 [(0, (.t 107)), (1, (.t 110))]⟩,
  ⟨(some 112), none, .build [(.int .i64 0), (.int .i64 0), (.str []), (.int .i64 0), (.sl .clip []), (.sl .clip []), (.sl .clip [])] [(0, 1, (.c (.int .i64 8))), (1, 1, (.t 102)), (4, 1, (.t 104)), (5, 1, (.t 111))]⟩,
  ⟨none, none, .store 7 (.t 2) (.t 112)⟩])
 .ret))))))))
 .skip)))))))))
 (.seq (.reg [⟨(some 113), none, .mov (.t 0)⟩,
  ⟨(some 114), none, .call 0 [] (.c (.fn 83 [])) [(.t 113)]⟩,
  ⟨(some 13), none, .alloc [(.int .i64 0), (.int .i64 0), (.str []), (.int .i64 0), (.sl .clip []), (.sl .clip []), (.sl .clip [])] false⟩,
  ⟨none, none, .store 7 (.t 13) (.t 114)⟩])
 (.seq (.seq (.reg [⟨(some 115), none, .mov (.t 0)⟩,
  ⟨(some 116), none, .bslice [(.str [])] 6 [(0, (.c (.str [61, 61]))), (1, (.c (.str [47, 61]))), (2, (.c (.str [60]))), (3, (.c (.str [60, 61]))), (4, (.c (.str [62]))), (5, (.c (.str [62, 61])))]⟩,
  ⟨(some 117), none, .call 0 [] (.c (.fn 84 [])) [(.t 115), (.t 116)]⟩])
 (.cond (.t 117) (.seq (.reg [⟨(some 118), none, .mov (.t 0)⟩,
  ⟨(some 119), none, .load (some 7) (.t 13)⟩,
  ⟨(some 120), none, .call 0 [] (.c (.fn 85 [])) [(.t 118), (.t 119), (.c (.int .i64 0))]⟩,
  ⟨none, none, .store 7 (.t 2) (.t 120)⟩])
 .ret)
 .skip))
 (.seq (.reg [⟨(some 121), none, .load (some 7) (.t 13)⟩,
  ⟨none, none, .store 7 (.t 2) (.t 121)⟩])
 .ret)))))),
  [.cell 2 (some 7)], false, false, 122⟩
theorem co55 : compF Tryz.prog ⟨[], [(5, [0, 3, 4], [2])], [], [], [], [], 55, [], []⟩ false false Tryz.f55 = some ac55 := by kernel_rfl

/-- paideia/paideiaref1.lambdas -/
def ac56 : AF := ⟨(.seq (.reg [⟨(some 4), none, .box (.t 1) 7 false⟩,
  ⟨(some 6), none, .alloc [(.int .i64 0), (.int .i64 0), (.str []), (.int .i64 0), (.sl .clip []), (.sl .clip []), (.sl .clip [])] false⟩])
 (.seq (.seq (.reg [⟨(some 8), none, .mov (.t 0)⟩,
  ⟨(some 9), none, .len 1 (.t 8)⟩,
  ⟨(some 10), none, .bin .sub (.t 9) (.c (.int .i64 1))⟩,
  ⟨(some 7), none, .mov (.t 10)⟩])
 (.block 0 (.loop [0, 2, 7] [4, 6] (.seq (.seq (.reg [⟨(some 11), none, .mov (.t 7)⟩,
  ⟨(some 12), none, .bin .geq (.t 11) (.c (.int .i64 0))⟩])
 (.cond (.t 12) .skip
 (.exit 0)))
 (.seq (.block 1 (.reg [⟨(some 15), none, .mov (.t 2)⟩,
  ⟨(some 16), none, .mov (.t 0)⟩,
  ⟨(some 17), none, .mov (.t 7)⟩,
  ⟨(some 18), none, .iaddr 1 (.t 16) (.t 17)⟩,
  ⟨(some 19), none, .load none (.t 18)⟩,
  ⟨(some 20), none, .load (some 7) (.t 4)⟩,
  ⟨(some 21), none, .bslice [(.int .i64 0), (.int .i64 0), (.str []), (.int .i64 0), (.sl .clip []), (.sl .clip []), (.sl .clip [])] 1 [(0, (.t 20))]⟩,
  ⟨(some 22), none, .build [(.int .i64 0), (.int .i64 0), (.str []), (.int .i64 0), (.sl .clip []), (.sl .clip []), (.sl .clip [])] [(0, 1, (.c (.int .i64 6))), (1, 1, (.t 15)), (2, 1, (.t 19)), (4, 1, (.t 21))]⟩,
  ⟨none, none, .store 7 (.t 4) (.t 22)⟩]))
 (.reg [⟨(some 13), none, .mov (.t 7)⟩,
  ⟨(some 14), none, .bin .sub (.t 13) (.c (.int .i64 1))⟩,
  ⟨(some 7), none, .mov (.t 14)⟩]))))))
 (.seq (.reg [⟨(some 23), none, .load (some 7) (.t 4)⟩,
  ⟨none, none, .store 7 (.t 6) (.t 23)⟩])
 .ret))),
  [.cell 6 (some 7)], false, true, 24⟩
theorem co56 : compF Tryz.prog ⟨[], [(2, [0, 2, 7], [4, 6])], [], [], [], [], 56, [], []⟩ false true Tryz.f56 = some ac56 := by kernel_rfl

/-- paideia/lexer.Operator -/
def ac60 : AF := ⟨(.seq (.reg [⟨(some 2), none, .mov (.c (.bool false))⟩])
 (.seq (.seq (.reg [⟨(some 5), none, .call 0 [] (.c (.fn 88 [])) [(.c (.str [61, 61, 32, 47, 61, 32, 60, 61, 32, 62, 61, 32, 60, 32, 62, 32, 43, 32, 45, 32, 42]))]⟩,
  ⟨(some 6), none, .len 1 (.t 5)⟩,
  ⟨(some 7), none, .mov (.c (.int .i64 0))⟩])
 (.block 0 (.loop [0, 5, 6, 7] [] (.seq (.reg [⟨(some 8), none, .bin .lss (.t 7) (.t 6)⟩])
 (.seq (.cond (.t 8) .skip
 (.exit 0))
 (.seq (.block 1 (.seq (.reg [⟨(some 9), none, .iaddr 1 (.t 5) (.t 7)⟩,
  ⟨(some 10), none, .load none (.t 9)⟩,
  ⟨(some 4), none, .mov (.t 10)⟩])
 (.seq (.reg [⟨(some 11), none, .mov (.t 0)⟩,
  ⟨(some 12), none, .mov (.t 4)⟩,
  ⟨(some 13), none, .bin .eql (.t 11) (.t 12)⟩])
 (.cond (.t 13) (.seq (.reg [⟨(some 2), none, .mov (.c (.bool true))⟩])
 .ret)
 .skip))))
 (.reg [⟨(some 14), none, .bin .add (.t 7) (.c (.int .i64 1))⟩,
  ⟨(some 7), none, .mov (.t 14)⟩])))))))
 (.seq (.reg [⟨(some 2), none, .mov (.c (.bool false))⟩])
 .ret))),
  [.t 2], false, true, 15⟩
theorem co60 : compF Tryz.prog ⟨[], [(2, [0, 5, 6, 7], [])], [], [], [], [], 60, [], []⟩ false true Tryz.f60 = some ac60 := by kernel_rfl

/-- paideia/printer.joined[paideia/api.Pred] -/
def ac61 : AF := ⟨(.seq (.reg [⟨(some 6), none, .mov (.c (.str []))⟩])
 (.seq (.reg [⟨(some 7), none, .mov (.c (.sl .clip []))⟩])
 (.seq (.seq (.reg [⟨(some 10), none, .mov (.t 0)⟩,
  ⟨(some 11), none, .len 1 (.t 10)⟩,
  ⟨(some 12), none, .mov (.c (.int .i64 0))⟩])
 (.block 0 (.loop [1, 2, 7, 10, 11, 12] [] (.seq (.reg [⟨(some 13), none, .bin .lss (.t 12) (.t 11)⟩])
 (.seq (.cond (.t 13) .skip
 (.exit 0))
 (.seq (.block 1 (.seq (.reg [⟨(some 14), none, .iaddr 4 (.t 10) (.t 12)⟩,
  ⟨(some 15), none, .load (some 4) (.t 14)⟩,
  ⟨(some 9), none, .alloc [(.str []), (.int .i64 0), (.str []), (.sl .clip [])] false⟩,
  ⟨none, none, .store 4 (.t 9) (.t 15)⟩])
 (.reg [⟨(some 16), none, .mov (.t 7)⟩,
  ⟨(some 17), none, .mov (.t 2)⟩,
  ⟨(some 18), none, .load (some 4) (.t 9)⟩,
  ⟨(some 19), none, .call 0 [] (.t 17) [(.t 18)]⟩,
  ⟨(some 20), none, .bslice [(.str [])] 1 [(0, (.t 19))]⟩,
  ⟨(some 21), none, .append 1 (.t 16) (.t 20)⟩,
  ⟨(some 7), none, .mov (.t 21)⟩])))
 (.reg [⟨(some 22), none, .bin .add (.t 12) (.c (.int .i64 1))⟩,
  ⟨(some 12), none, .mov (.t 22)⟩])))))))
 (.seq (.reg [⟨(some 23), none, .mov (.t 7)⟩,
  ⟨(some 24), none, .mov (.t 1)⟩,
  ⟨(some 25), none, .call 0 [] (.c (.fn 33 [])) [(.t 23), (.t 24)]⟩,
  ⟨(some 6), none, .mov (.t 25)⟩])
 .ret)))),
  [.t 6], false, true, 26⟩
theorem co61 : compF Tryz.prog ⟨[], [(3, [1, 2, 7, 10, 11, 12], [])], [], [], [], [], 61, [], []⟩ false true Tryz.f61 = some ac61 := by kernel_rfl

/-- paideia/printer.context$1 -/
def ac62 : AF := ⟨(.seq (.reg [⟨(some 1), none, .box (.t 0) 4 false⟩,
  ⟨(some 2), none, .mov (.c (.str []))⟩])
 (.seq (.reg [⟨(some 3), none, .faddr 0 (.t 1)⟩,
  ⟨(some 4), none, .loadL none (.t 3)⟩,
  ⟨(some 5), none, .bin .add (.t 4) (.c (.str [32]))⟩,
  ⟨(some 6), none, .faddr 1 (.t 1)⟩,
  ⟨(some 7), none, .load (some 3) (.t 6)⟩,
  ⟨(some 8), none, .call 0 [] (.c (.fn 19 [])) [(.t 7)]⟩,
  ⟨(some 9), none, .bin .add (.t 5) (.t 8)⟩,
  ⟨(some 2), none, .mov (.t 9)⟩])
 .ret)),
  [.t 2], false, false, 10⟩
theorem co62 : compF Tryz.prog ⟨[], [], [], [], [], [], 62, [], []⟩ false false Tryz.f62 = some ac62 := by kernel_rfl

/-- strconv.FormatInt -/
def ac63 : AF := ⟨(.seq (.reg [⟨(some 4), none, .mov (.c (.str []))⟩])
 (.seq (.reg [⟨(some 5), none, .mov (.t 0)⟩,
  ⟨(some 6), none, .mov (.t 1)⟩,
  ⟨(some 7), none, .call 0 [] (.c (.fn 89 [])) [(.t 5), (.t 6)]⟩,
  ⟨(some 4), none, .mov (.t 7)⟩])
 .ret)),
  [.t 4], false, true, 8⟩
theorem co63 : compF Tryz.prog ⟨[], [], [], [], [], [], 63, [], []⟩ false true Tryz.f63 = some ac63 := by kernel_rfl

/-- paideia/printer.Letter -/
def ac64 : AF := ⟨(.seq (.reg [⟨(some 2), none, .mov (.c (.str []))⟩])
 (.seq (.block 0 (.seq (.reg [⟨(some 4), none, .mov (.t 0)⟩,
  ⟨(some 5), none, .bin .eql (.t 4) (.c (.int .i64 10))⟩,
  ⟨(some 3), none, .mov (.t 5)⟩])
 (.cond (.t 3) (.seq (.reg [⟨(some 2), none, .mov (.c (.str [39, 92, 110, 39]))⟩])
 .ret)
 (.seq (.reg [⟨(some 7), none, .mov (.t 0)⟩,
  ⟨(some 8), none, .bin .eql (.t 7) (.c (.int .i64 39))⟩,
  ⟨(some 9), none, .mov (.t 8)⟩,
  ⟨(some 10), (some (9, false)), .mov (.t 0)⟩,
  ⟨(some 11), (some (9, false)), .bin .eql (.t 10) (.c (.int .i64 92))⟩,
  ⟨(some 12), none, .pick (.t 9) (.c (.bool true)) (.t 11)⟩,
  ⟨(some 6), none, .mov (.t 12)⟩])
 (.cond (.t 6) (.seq (.reg [⟨(some 13), none, .mov (.t 0)⟩,
  ⟨(some 14), none, .conv (.int .i32) (.t 13)⟩,
  ⟨(some 15), none, .conv .rune (.t 14)⟩,
  ⟨(some 16), none, .bin .add (.c (.str [39, 92])) (.t 15)⟩,
  ⟨(some 17), none, .bin .add (.t 16) (.c (.str [39]))⟩,
  ⟨(some 2), none, .mov (.t 17)⟩])
 .ret)
 (.seq (.reg [⟨(some 19), none, .mov (.t 0)⟩,
  ⟨(some 20), none, .bin .geq (.t 19) (.c (.int .i64 0))⟩,
  ⟨(some 21), none, .mov (.t 20)⟩,
  ⟨(some 22), (some (21, true)), .mov (.t 0)⟩,
  ⟨(some 23), (some (21, true)), .bin .leq (.t 22) (.c (.int .i64 126))⟩,
  ⟨(some 24), none, .pick (.t 21) (.t 23) (.c (.bool false))⟩,
  ⟨(some 25), none, .mov (.t 24)⟩,
  ⟨(some 26), (some (25, true)), .mov (.t 0)⟩,
  ⟨(some 27), (some (25, true)), .conv (.int .u8) (.t 26)⟩,
  ⟨(some 28), (some (25, true)), .call 0 [] (.c (.fn 90 [])) [(.t 27)]⟩,
  ⟨(some 29), none, .pick (.t 25) (.t 28) (.c (.bool false))⟩,
  ⟨(some 18), none, .mov (.t 29)⟩])
 (.cond (.t 18) (.seq (.reg [⟨(some 30), none, .mov (.t 0)⟩,
  ⟨(some 31), none, .conv (.int .i32) (.t 30)⟩,
  ⟨(some 32), none, .conv .rune (.t 31)⟩,
  ⟨(some 33), none, .bin .add (.c (.str [39])) (.t 32)⟩,
  ⟨(some 34), none, .bin .add (.t 33) (.c (.str [39]))⟩,
  ⟨(some 2), none, .mov (.t 34)⟩])
 .ret)
 .skip)))))))
 (.seq (.reg [⟨(some 2), none, .mov (.c (.str [39, 63, 39]))⟩])
 .ret))),
  [.t 2], false, true, 35⟩
theorem co64 : compF Tryz.prog ⟨[], [], [], [], [], [], 64, [], []⟩ false true Tryz.f64 = some ac64 := by kernel_rfl

/-- paideia/printer.sub -/
def ac65 : AF := ⟨(.seq (.reg [⟨(some 2), none, .box (.t 0) 7 false⟩,
  ⟨(some 4), none, .alloc [(.int .i64 0), (.int .i64 0), (.str []), (.int .i64 0), (.sl .clip []), (.sl .clip []), (.sl .clip [])] false⟩])
 (.seq (.seq (.reg [⟨(some 5), none, .mov (.t 1)⟩,
  ⟨(some 6), none, .faddr 4 (.t 2)⟩,
  ⟨(some 7), none, .load none (.t 6)⟩,
  ⟨(some 8), none, .len 1 (.t 7)⟩,
  ⟨(some 9), none, .bin .lss (.t 5) (.t 8)⟩])
 (.cond (.t 9) (.seq (.reg [⟨(some 10), none, .faddr 4 (.t 2)⟩,
  ⟨(some 11), none, .load none (.t 10)⟩,
  ⟨(some 12), none, .mov (.t 1)⟩,
  ⟨(some 13), none, .iaddr 7 (.t 11) (.t 12)⟩,
  ⟨(some 14), none, .load (some 7) (.t 13)⟩,
  ⟨none, none, .store 7 (.t 4) (.t 14)⟩])
 .ret)
 .skip))
 (.seq (.reg [⟨(some 15), none, .build [(.int .i64 0), (.int .i64 0), (.str []), (.int .i64 0), (.sl .clip []), (.sl .clip []), (.sl .clip [])] []⟩,
  ⟨none, none, .store 7 (.t 4) (.t 15)⟩])
 .ret))),
  [.cell 4 (some 7)], false, true, 16⟩
theorem co65 : compF Tryz.prog ⟨[], [], [], [], [], [], 65, [], []⟩ false true Tryz.f65 = some ac65 := by kernel_rfl

/-- paideia/printer.joined[paideia/api.Alt] -/
def ac66 : AF := ⟨(.seq (.reg [⟨(some 6), none, .mov (.c (.str []))⟩])
 (.seq (.reg [⟨(some 7), none, .mov (.c (.sl .clip []))⟩])
 (.seq (.seq (.reg [⟨(some 10), none, .mov (.t 0)⟩,
  ⟨(some 11), none, .len 1 (.t 10)⟩,
  ⟨(some 12), none, .mov (.c (.int .i64 0))⟩])
 (.block 0 (.loop [1, 2, 7, 10, 11, 12] [] (.seq (.reg [⟨(some 13), none, .bin .lss (.t 12) (.t 11)⟩])
 (.seq (.cond (.t 13) .skip
 (.exit 0))
 (.seq (.block 1 (.seq (.reg [⟨(some 14), none, .iaddr 10 (.t 10) (.t 12)⟩,
  ⟨(some 15), none, .load (some 10) (.t 14)⟩,
  ⟨(some 9), none, .alloc [(.str []), (.sl .clip []), (.int .i64 0), (.int .i64 0), (.str []), (.int .i64 0), (.sl .clip []), (.sl .clip []), (.sl .clip []), (.int .i64 0)] false⟩,
  ⟨none, none, .store 10 (.t 9) (.t 15)⟩])
 (.reg [⟨(some 16), none, .mov (.t 7)⟩,
  ⟨(some 17), none, .mov (.t 2)⟩,
  ⟨(some 18), none, .load (some 10) (.t 9)⟩,
  ⟨(some 19), none, .call 0 [] (.t 17) [(.t 18)]⟩,
  ⟨(some 20), none, .bslice [(.str [])] 1 [(0, (.t 19))]⟩,
  ⟨(some 21), none, .append 1 (.t 16) (.t 20)⟩,
  ⟨(some 7), none, .mov (.t 21)⟩])))
 (.reg [⟨(some 22), none, .bin .add (.t 12) (.c (.int .i64 1))⟩,
  ⟨(some 12), none, .mov (.t 22)⟩])))))))
 (.seq (.reg [⟨(some 23), none, .mov (.t 7)⟩,
  ⟨(some 24), none, .mov (.t 1)⟩,
  ⟨(some 25), none, .call 0 [] (.c (.fn 33 [])) [(.t 23), (.t 24)]⟩,
  ⟨(some 6), none, .mov (.t 25)⟩])
 .ret)))),
  [.t 6], false, true, 26⟩
theorem co66 : compF Tryz.prog ⟨[], [(3, [1, 2, 7, 10, 11, 12], [])], [], [], [], [], 66, [], []⟩ false true Tryz.f66 = some ac66 := by kernel_rfl

/-- paideia/printer.alt -/
def ac67 : AF := ⟨(.seq (.reg [⟨(some 1), none, .box (.t 0) 10 false⟩,
  ⟨(some 2), none, .mov (.c (.str []))⟩])
 (.seq (.reg [⟨(some 4), none, .faddr 1 (.t 1)⟩,
  ⟨(some 5), none, .load none (.t 4)⟩,
  ⟨(some 3), none, .mov (.t 5)⟩])
 (.seq (.seq (.reg [⟨(some 6), none, .faddr 0 (.t 1)⟩,
  ⟨(some 7), none, .load none (.t 6)⟩,
  ⟨(some 8), none, .bin .neq (.t 7) (.c (.str []))⟩])
 (.cond (.t 8) (.reg [⟨(some 9), none, .faddr 0 (.t 1)⟩,
  ⟨(some 10), none, .load none (.t 9)⟩,
  ⟨(some 11), none, .bslice [(.str [])] 1 [(0, (.t 10))]⟩,
  ⟨(some 12), none, .faddr 1 (.t 1)⟩,
  ⟨(some 13), none, .load none (.t 12)⟩,
  ⟨(some 14), none, .append 1 (.t 11) (.t 13)⟩,
  ⟨(some 3), none, .mov (.t 14)⟩])
 .skip))
 (.seq (.seq (.reg [⟨(some 15), none, .mov (.t 3)⟩,
  ⟨(some 16), none, .len 1 (.t 15)⟩,
  ⟨(some 17), none, .bin .eql (.t 16) (.c (.int .i64 0))⟩])
 (.cond (.t 17) (.reg [⟨(some 18), none, .bslice [(.str [])] 1 [(0, (.c (.str [95])))]⟩,
  ⟨(some 3), none, .mov (.t 18)⟩])
 .skip))
 (.seq (.reg [⟨(some 19), none, .mov (.t 3)⟩,
  ⟨(some 20), none, .call 0 [] (.c (.fn 33 [])) [(.t 19), (.c (.str [32]))]⟩,
  ⟨(some 21), none, .bin .add (.t 20) (.c (.str [32, 45, 62, 32]))⟩,
  ⟨(some 22), none, .faddr 2 (.t 1)⟩,
  ⟨(some 23), none, .loadL (some 7) (.t 22)⟩,
  ⟨(some 24), none, .call 0 [] (.c (.fn 38 [])) [(.t 23)]⟩,
  ⟨(some 25), none, .bin .add (.t 21) (.t 24)⟩,
  ⟨(some 2), none, .mov (.t 25)⟩])
 .ret))))),
  [.t 2], false, true, 26⟩
theorem co67 : compF Tryz.prog ⟨[], [], [], [], [], [], 67, [], []⟩ false true Tryz.f67 = some ac67 := by kernel_rfl

/-- paideia/paideiaref1.small -/
def ac68 : AF := ⟨(.seq (.reg [⟨(some 2), none, .mov (.c (.bool false))⟩])
 (.seq (.reg [⟨(some 3), none, .mov (.t 0)⟩,
  ⟨(some 4), none, .bin .geq (.t 3) (.c (.int .u8 97))⟩,
  ⟨(some 5), none, .mov (.t 4)⟩,
  ⟨(some 6), (some (5, true)), .mov (.t 0)⟩,
  ⟨(some 7), (some (5, true)), .bin .leq (.t 6) (.c (.int .u8 122))⟩,
  ⟨(some 8), none, .pick (.t 5) (.t 7) (.c (.bool false))⟩,
  ⟨(some 9), none, .mov (.t 8)⟩,
  ⟨(some 10), (some (9, false)), .mov (.t 0)⟩,
  ⟨(some 11), (some (9, false)), .bin .eql (.t 10) (.c (.int .u8 95))⟩,
  ⟨(some 12), none, .pick (.t 9) (.c (.bool true)) (.t 11)⟩,
  ⟨(some 2), none, .mov (.t 12)⟩])
 .ret)),
  [.t 2], false, true, 13⟩
theorem co68 : compF Tryz.prog ⟨[], [], [], [], [], [], 68, [], []⟩ false true Tryz.f68 = some ac68 := by kernel_rfl

/-- paideia/paideiaref1.great -/
def ac69 : AF := ⟨(.seq (.reg [⟨(some 2), none, .mov (.c (.bool false))⟩])
 (.seq (.reg [⟨(some 3), none, .mov (.t 0)⟩,
  ⟨(some 4), none, .bin .geq (.t 3) (.c (.int .u8 65))⟩,
  ⟨(some 5), none, .mov (.t 4)⟩,
  ⟨(some 6), (some (5, true)), .mov (.t 0)⟩,
  ⟨(some 7), (some (5, true)), .bin .leq (.t 6) (.c (.int .u8 90))⟩,
  ⟨(some 8), none, .pick (.t 5) (.t 7) (.c (.bool false))⟩,
  ⟨(some 2), none, .mov (.t 8)⟩])
 .ret)),
  [.t 2], false, true, 9⟩
theorem co69 : compF Tryz.prog ⟨[], [], [], [], [], [], 69, [], []⟩ false true Tryz.f69 = some ac69 := by kernel_rfl

/-- paideia/paideiaref1.inner -/
def ac70 : AF := ⟨(.seq (.reg [⟨(some 2), none, .mov (.c (.bool false))⟩])
 (.seq (.reg [⟨(some 3), none, .mov (.t 0)⟩,
  ⟨(some 4), none, .call 0 [] (.c (.fn 68 [])) [(.t 3)]⟩,
  ⟨(some 5), none, .mov (.t 4)⟩,
  ⟨(some 6), (some (5, false)), .mov (.t 0)⟩,
  ⟨(some 7), (some (5, false)), .call 0 [] (.c (.fn 69 [])) [(.t 6)]⟩,
  ⟨(some 8), none, .pick (.t 5) (.c (.bool true)) (.t 7)⟩,
  ⟨(some 9), none, .mov (.t 8)⟩,
  ⟨(some 10), (some (9, false)), .mov (.t 0)⟩,
  ⟨(some 11), (some (9, false)), .call 0 [] (.c (.fn 72 [])) [(.t 10)]⟩,
  ⟨(some 12), none, .pick (.t 9) (.c (.bool true)) (.t 11)⟩,
  ⟨(some 13), none, .mov (.t 12)⟩,
  ⟨(some 14), (some (13, false)), .mov (.t 0)⟩,
  ⟨(some 15), (some (13, false)), .bin .eql (.t 14) (.c (.int .u8 39))⟩,
  ⟨(some 16), none, .pick (.t 13) (.c (.bool true)) (.t 15)⟩,
  ⟨(some 2), none, .mov (.t 16)⟩])
 .ret)),
  [.t 2], false, true, 17⟩
theorem co70 : compF Tryz.prog ⟨[], [], [], [], [], [], 70, [], []⟩ false true Tryz.f70 = some ac70 := by kernel_rfl

/-- paideia/paideiaref1.Reserved -/
def ac71 : AF := ⟨(.seq (.reg [⟨(some 2), none, .mov (.c (.bool false))⟩])
 (.seq (.reg [⟨(some 3), none, .call 0 [] (.c (.fn 92 [])) []⟩,
  ⟨(some 4), none, .mov (.t 0)⟩,
  ⟨(some 5), none, .call 0 [] (.c (.fn 91 [])) [(.t 3), (.t 4)]⟩,
  ⟨(some 2), none, .mov (.t 5)⟩])
 .ret)),
  [.t 2], false, true, 6⟩
theorem co71 : compF Tryz.prog ⟨[], [], [], [], [], [], 71, [], []⟩ false true Tryz.f71 = some ac71 := by kernel_rfl

/-- paideia/paideiaref1.digit -/
def ac72 : AF := ⟨(.seq (.reg [⟨(some 2), none, .mov (.c (.bool false))⟩])
 (.seq (.reg [⟨(some 3), none, .mov (.t 0)⟩,
  ⟨(some 4), none, .bin .geq (.t 3) (.c (.int .u8 48))⟩,
  ⟨(some 5), none, .mov (.t 4)⟩,
  ⟨(some 6), (some (5, true)), .mov (.t 0)⟩,
  ⟨(some 7), (some (5, true)), .bin .leq (.t 6) (.c (.int .u8 57))⟩,
  ⟨(some 8), none, .pick (.t 5) (.t 7) (.c (.bool false))⟩,
  ⟨(some 2), none, .mov (.t 8)⟩])
 .ret)),
  [.t 2], false, true, 9⟩
theorem co72 : compF Tryz.prog ⟨[], [], [], [], [], [], 72, [], []⟩ false true Tryz.f72 = some ac72 := by kernel_rfl

/-- paideia/paideiaref1.letter -/
def ac73 : AF := ⟨(.seq (.reg [⟨(some 2), none, .mov (.c (.int .i64 0))⟩,
  ⟨(some 3), none, .mov (.c (.int .i64 0))⟩])
 (.seq (.seq (.reg [⟨(some 4), none, .mov (.t 0)⟩,
  ⟨(some 5), none, .len 1 (.t 4)⟩,
  ⟨(some 6), none, .bin .geq (.t 5) (.c (.int .i64 4))⟩,
  ⟨(some 7), none, .mov (.t 6)⟩,
  ⟨(some 8), (some (7, true)), .mov (.t 0)⟩,
  ⟨(some 9), (some (7, true)), .iaddr 1 (.t 8) (.c (.int .i64 1))⟩,
  ⟨(some 10), (some (7, true)), .load none (.t 9)⟩,
  ⟨(some 11), (some (7, true)), .bin .eql (.t 10) (.c (.int .u8 92))⟩,
  ⟨(some 12), none, .pick (.t 7) (.t 11) (.c (.bool false))⟩,
  ⟨(some 13), none, .mov (.t 12)⟩,
  ⟨(some 14), (some (13, true)), .mov (.t 0)⟩,
  ⟨(some 15), (some (13, true)), .iaddr 1 (.t 14) (.c (.int .i64 3))⟩,
  ⟨(some 16), (some (13, true)), .load none (.t 15)⟩,
  ⟨(some 17), (some (13, true)), .bin .eql (.t 16) (.c (.int .u8 39))⟩,
  ⟨(some 18), none, .pick (.t 13) (.t 17) (.c (.bool false))⟩])
 (.cond (.t 18) (.seq (.seq (.reg [⟨(some 19), none, .mov (.t 0)⟩,
  ⟨(some 20), none, .iaddr 1 (.t 19) (.c (.int .i64 2))⟩,
  ⟨(some 21), none, .load none (.t 20)⟩])
 (.block 0 (.seq (.reg [⟨(some 23), none, .bin .eql (.t 21) (.c (.int .u8 110))⟩,
  ⟨(some 22), none, .mov (.t 23)⟩])
 (.cond (.t 22) (.seq (.reg [⟨(some 2), none, .mov (.c (.int .i64 4))⟩,
  ⟨(some 3), none, .mov (.c (.int .i64 10))⟩])
 .ret)
 (.seq (.seq (.reg [⟨(some 25), none, .bin .eql (.t 21) (.c (.int .u8 39))⟩,
  ⟨(some 24), none, .mov (.t 25)⟩])
 (.cond (.t 24) .skip
 (.reg [⟨(some 26), none, .bin .eql (.t 21) (.c (.int .u8 92))⟩,
  ⟨(some 24), none, .mov (.t 26)⟩])))
 (.cond (.t 24) (.seq (.reg [⟨(some 27), none, .mov (.t 0)⟩,
  ⟨(some 28), none, .iaddr 1 (.t 27) (.c (.int .i64 2))⟩,
  ⟨(some 29), none, .load none (.t 28)⟩,
  ⟨(some 30), none, .conv (.int .i64) (.t 29)⟩,
  ⟨(some 2), none, .mov (.c (.int .i64 4))⟩,
  ⟨(some 3), none, .mov (.t 30)⟩])
 .ret)
 .skip))))))
 (.seq (.reg [⟨(some 2), none, .mov (.c (.int .i64 0))⟩,
  ⟨(some 3), none, .mov (.c (.int .i64 0))⟩])
 .ret))
 .skip))
 (.seq (.seq (.reg [⟨(some 31), none, .mov (.t 0)⟩,
  ⟨(some 32), none, .len 1 (.t 31)⟩,
  ⟨(some 33), none, .bin .geq (.t 32) (.c (.int .i64 3))⟩,
  ⟨(some 34), none, .mov (.t 33)⟩,
  ⟨(some 35), (some (34, true)), .mov (.t 0)⟩,
  ⟨(some 36), (some (34, true)), .iaddr 1 (.t 35) (.c (.int .i64 1))⟩,
  ⟨(some 37), (some (34, true)), .load none (.t 36)⟩,
  ⟨(some 38), (some (34, true)), .bin .geq (.t 37) (.c (.int .u8 32))⟩,
  ⟨(some 39), none, .pick (.t 34) (.t 38) (.c (.bool false))⟩,
  ⟨(some 40), none, .mov (.t 39)⟩,
  ⟨(some 41), (some (40, true)), .mov (.t 0)⟩,
  ⟨(some 42), (some (40, true)), .iaddr 1 (.t 41) (.c (.int .i64 1))⟩,
  ⟨(some 43), (some (40, true)), .load none (.t 42)⟩,
  ⟨(some 44), (some (40, true)), .bin .leq (.t 43) (.c (.int .u8 126))⟩,
  ⟨(some 45), none, .pick (.t 40) (.t 44) (.c (.bool false))⟩,
  ⟨(some 46), none, .mov (.t 45)⟩,
  ⟨(some 47), (some (46, true)), .mov (.t 0)⟩,
  ⟨(some 48), (some (46, true)), .iaddr 1 (.t 47) (.c (.int .i64 1))⟩,
  ⟨(some 49), (some (46, true)), .load none (.t 48)⟩,
  ⟨(some 50), (some (46, true)), .bin .neq (.t 49) (.c (.int .u8 39))⟩,
  ⟨(some 51), none, .pick (.t 46) (.t 50) (.c (.bool false))⟩,
  ⟨(some 52), none, .mov (.t 51)⟩,
  ⟨(some 53), (some (52, true)), .mov (.t 0)⟩,
  ⟨(some 54), (some (52, true)), .iaddr 1 (.t 53) (.c (.int .i64 1))⟩,
  ⟨(some 55), (some (52, true)), .load none (.t 54)⟩,
  ⟨(some 56), (some (52, true)), .bin .neq (.t 55) (.c (.int .u8 92))⟩,
  ⟨(some 57), none, .pick (.t 52) (.t 56) (.c (.bool false))⟩,
  ⟨(some 58), none, .mov (.t 57)⟩,
  ⟨(some 59), (some (58, true)), .mov (.t 0)⟩,
  ⟨(some 60), (some (58, true)), .iaddr 1 (.t 59) (.c (.int .i64 2))⟩,
  ⟨(some 61), (some (58, true)), .load none (.t 60)⟩,
  ⟨(some 62), (some (58, true)), .bin .eql (.t 61) (.c (.int .u8 39))⟩,
  ⟨(some 63), none, .pick (.t 58) (.t 62) (.c (.bool false))⟩])
 (.cond (.t 63) (.seq (.reg [⟨(some 64), none, .mov (.t 0)⟩,
  ⟨(some 65), none, .iaddr 1 (.t 64) (.c (.int .i64 1))⟩,
  ⟨(some 66), none, .load none (.t 65)⟩,
  ⟨(some 67), none, .conv (.int .i64) (.t 66)⟩,
  ⟨(some 2), none, .mov (.c (.int .i64 3))⟩,
  ⟨(some 3), none, .mov (.t 67)⟩])
 .ret)
 .skip))
 (.seq (.reg [⟨(some 2), none, .mov (.c (.int .i64 0))⟩,
  ⟨(some 3), none, .mov (.c (.int .i64 0))⟩])
 .ret)))),
  [.t 2, .t 3], false, true, 68⟩
theorem co73 : compF Tryz.prog ⟨[], [], [], [], [], [], 73, [], []⟩ false true Tryz.f73 = some ac73 := by kernel_rfl

/-- paideia/paideiaref1.operators -/
def ac74 : AF := ⟨(.seq (.reg [⟨(some 0), none, .mov (.c (.sl .clip []))⟩])
 (.seq (.reg [⟨(some 1), none, .bslice [(.str [])] 9 [(0, (.c (.str [61, 61]))), (1, (.c (.str [47, 61]))), (2, (.c (.str [60, 61]))), (3, (.c (.str [62, 61]))), (4, (.c (.str [60]))), (5, (.c (.str [62]))), (6, (.c (.str [43]))), (7, (.c (.str [45]))), (8, (.c (.str [42])))]⟩,
  ⟨(some 0), none, .mov (.t 1)⟩])
 .ret)),
  [.t 0], false, true, 2⟩
theorem co74 : compF Tryz.prog ⟨[], [], [], [], [], [], 74, [], []⟩ false true Tryz.f74 = some ac74 := by kernel_rfl

/-- (*paideia/paideiaref1.parser).open -/
def ac75 : AF := ⟨(.seq (.seq (.reg [⟨(some 2), none, .mov (.t 0)⟩,
  ⟨(some 3), none, .nilck (.t 2)⟩,
  ⟨(some 4), none, .faddr 6 (.t 3)⟩,
  ⟨(some 5), none, .load none (.t 4)⟩,
  ⟨(some 6), none, .bin .geq (.t 5) (.c (.int .i64 200))⟩])
 (.cond (.t 6) (.seq (.reg [⟨(some 7), none, .mov (.t 0)⟩,
  ⟨(some 8), none, .mov (.t 0)⟩,
  ⟨(some 9), none, .call 0 [] (.c (.fn 44 [])) [(.t 8)]⟩,
  ⟨(some 10), none, .call 0 [] (.c (.fn 51 [])) [(.t 7), (.c (.int .i64 111)), (.t 9)]⟩])
 .ret)
 .skip))
 (.seq (.reg [⟨(some 11), none, .mov (.t 0)⟩,
  ⟨(some 12), none, .mov (.t 0)⟩,
  ⟨(some 13), none, .nilck (.t 12)⟩,
  ⟨(some 14), none, .faddr 6 (.t 13)⟩,
  ⟨(some 15), none, .load none (.t 14)⟩,
  ⟨(some 16), none, .bin .add (.t 15) (.c (.int .i64 1))⟩,
  ⟨(some 17), none, .nilck (.t 11)⟩,
  ⟨(some 18), none, .faddr 6 (.t 17)⟩,
  ⟨none, none, .store 1 (.t 18) (.t 16)⟩])
 (.reg [⟨(some 19), none, .mov (.t 0)⟩,
  ⟨(some 20), none, .mov (.t 0)⟩,
  ⟨(some 21), none, .nilck (.t 20)⟩,
  ⟨(some 22), none, .faddr 1 (.t 21)⟩,
  ⟨(some 23), none, .load none (.t 22)⟩,
  ⟨(some 24), none, .bin .add (.t 23) (.c (.int .i64 1))⟩,
  ⟨(some 25), none, .nilck (.t 19)⟩,
  ⟨(some 26), none, .faddr 1 (.t 25)⟩,
  ⟨none, none, .store 1 (.t 26) (.t 24)⟩]))),
  [], false, false, 27⟩
theorem co75 : compF Tryz.prog ⟨[], [], [], [], [], [], 75, [], []⟩ false false Tryz.f75 = some ac75 := by kernel_rfl

/-- (*paideia/paideiaref1.parser).typ -/
def ac76 : AF := ⟨(.seq (.reg [⟨(some 2), none, .alloc [(.int .i64 0), (.str []), (.sl .clip [])] false⟩])
 (.seq (.reg [⟨(some 4), none, .mov (.t 0)⟩,
  ⟨(some 5), none, .call 0 [] (.c (.fn 93 [])) [(.t 4)]⟩,
  ⟨(some 3), none, .alloc [(.int .i64 0), (.str []), (.sl .clip [])] false⟩,
  ⟨none, none, .store 3 (.t 3) (.t 5)⟩])
 (.seq (.seq (.reg [⟨(some 6), none, .mov (.t 0)⟩,
  ⟨(some 7), none, .call 0 [] (.c (.fn 22 [])) [(.t 6), (.c (.str [45, 62]))]⟩])
 (.cond (.t 7) (.seq (.reg [⟨(some 8), none, .mov (.t 0)⟩,
  ⟨(some 9), none, .mov (.t 0)⟩,
  ⟨(some 10), none, .nilck (.t 9)⟩,
  ⟨(some 11), none, .faddr 1 (.t 10)⟩,
  ⟨(some 12), none, .load none (.t 11)⟩,
  ⟨(some 13), none, .bin .add (.t 12) (.c (.int .i64 1))⟩,
  ⟨(some 14), none, .nilck (.t 8)⟩,
  ⟨(some 15), none, .faddr 1 (.t 14)⟩,
  ⟨none, none, .store 1 (.t 15) (.t 13)⟩])
 (.seq (.reg [⟨(some 16), none, .loadL (some 3) (.t 3)⟩,
  ⟨(some 17), none, .mov (.t 0)⟩,
  ⟨(some 18), none, .call 0 [] (.c (.fn 76 [])) [(.t 17)]⟩,
  ⟨(some 19), none, .bslice [(.int .i64 0), (.str []), (.sl .clip [])] 2 [(0, (.t 16)), (1, (.t 18))]⟩,
  ⟨(some 20), none, .build [(.int .i64 0), (.str []), (.sl .clip [])] [(0, 1, (.c (.int .i64 3))), (2, 1, (.t 19))]⟩,
  ⟨none, none, .store 3 (.t 2) (.t 20)⟩])
 .ret))
 .skip))
 (.seq (.reg [⟨(some 21), none, .load (some 3) (.t 3)⟩,
  ⟨none, none, .store 3 (.t 2) (.t 21)⟩])
 .ret)))),
  [.cell 2 (some 3)], false, false, 22⟩
theorem co76 : compF Tryz.prog ⟨[], [], [], [], [], [], 76, [], []⟩ false false Tryz.f76 = some ac76 := by kernel_rfl

/-- (*paideia/paideiaref1.parser).shut -/
def ac77 : AF := ⟨(.reg [⟨(some 2), none, .mov (.t 0)⟩,
  ⟨(some 3), none, .mov (.t 0)⟩,
  ⟨(some 4), none, .nilck (.t 3)⟩,
  ⟨(some 5), none, .faddr 6 (.t 4)⟩,
  ⟨(some 6), none, .load none (.t 5)⟩,
  ⟨(some 7), none, .bin .sub (.t 6) (.c (.int .i64 1))⟩,
  ⟨(some 8), none, .nilck (.t 2)⟩,
  ⟨(some 9), none, .faddr 6 (.t 8)⟩,
  ⟨none, none, .store 1 (.t 9) (.t 7)⟩]),
  [], false, false, 10⟩
theorem co77 : compF Tryz.prog ⟨[], [], [], [], [], [], 77, [], []⟩ false false Tryz.f77 = some ac77 := by kernel_rfl

/-- (*paideia/paideiaref1.parser).context -/
def ac78 : AF := ⟨(.seq (.reg [⟨(some 2), none, .mov (.c (.bool false))⟩])
 (.seq (.seq (.reg [⟨(some 3), none, .mov (.t 0)⟩,
  ⟨(some 4), none, .call 0 [] (.c (.fn 22 [])) [(.t 3), (.c (.str [40]))]⟩])
 (.cond (.t 4) (.seq (.reg [⟨(some 5), none, .mov (.t 0)⟩,
  ⟨(some 6), none, .mov (.t 0)⟩,
  ⟨(some 7), none, .mov (.t 0)⟩,
  ⟨(some 8), none, .nilck (.t 7)⟩,
  ⟨(some 9), none, .faddr 1 (.t 8)⟩,
  ⟨(some 10), none, .load none (.t 9)⟩,
  ⟨(some 11), none, .call 0 [] (.c (.fn 94 [])) [(.t 6), (.t 10)]⟩,
  ⟨(some 12), none, .call 0 [] (.c (.fn 43 [])) [(.t 5), (.t 11), (.c (.str [61, 62]))]⟩,
  ⟨(some 2), none, .mov (.t 12)⟩])
 .ret)
 .skip))
 (.seq (.reg [⟨(some 13), none, .mov (.t 0)⟩,
  ⟨(some 14), none, .call 0 [] (.c (.fn 47 [])) [(.t 13), (.c (.int .i64 2))]⟩,
  ⟨(some 15), none, .mov (.t 14)⟩,
  ⟨(some 16), (some (15, true)), .mov (.t 0)⟩,
  ⟨(some 17), (some (15, true)), .mov (.t 0)⟩,
  ⟨(some 18), (some (15, true)), .mov (.t 0)⟩,
  ⟨(some 19), (some (15, true)), .nilck (.t 18)⟩,
  ⟨(some 20), (some (15, true)), .faddr 1 (.t 19)⟩,
  ⟨(some 21), (some (15, true)), .load none (.t 20)⟩,
  ⟨(some 22), (some (15, true)), .bin .add (.t 21) (.c (.int .i64 1))⟩,
  ⟨(some 23), (some (15, true)), .call 0 [] (.c (.fn 94 [])) [(.t 17), (.t 22)]⟩,
  ⟨(some 24), (some (15, true)), .call 0 [] (.c (.fn 43 [])) [(.t 16), (.t 23), (.c (.str [61, 62]))]⟩,
  ⟨(some 25), none, .pick (.t 15) (.t 24) (.c (.bool false))⟩,
  ⟨(some 2), none, .mov (.t 25)⟩])
 .ret))),
  [.t 2], false, false, 26⟩
theorem co78 : compF Tryz.prog ⟨[], [], [], [], [], [], 78, [], []⟩ false false Tryz.f78 = some ac78 := by kernel_rfl

/-- (*paideia/paideiaref1.parser).pred -/
def ac79 : AF := ⟨(.seq (.reg [⟨(some 4), none, .alloc [(.str []), (.int .i64 0), (.str []), (.sl .clip [])] false⟩])
 (.seq (.reg [⟨(some 6), none, .mov (.t 0)⟩,
  ⟨(some 7), none, .call 0 [] (.c (.fn 46 [])) [(.t 6), (.c (.int .i64 2))]⟩,
  ⟨(some 8), none, .build [(.str []), (.int .i64 0), (.str []), (.sl .clip [])] [(0, 1, (.t 7))]⟩,
  ⟨(some 5), none, .alloc [(.str []), (.int .i64 0), (.str []), (.sl .clip [])] false⟩,
  ⟨none, none, .store 4 (.t 5) (.t 8)⟩])
 (.seq (.seq (.reg [⟨(some 9), none, .mov (.t 1)⟩])
 (.cond (.t 9) (.reg [⟨(some 10), none, .mov (.t 0)⟩,
  ⟨(some 11), none, .call 0 [] (.c (.fn 46 [])) [(.t 10), (.c (.int .i64 1))]⟩,
  ⟨(some 12), none, .build [(.int .i64 0), (.str []), (.sl .clip [])] [(0, 1, (.c (.int .i64 1))), (1, 1, (.t 11))]⟩,
  ⟨(some 13), none, .faddr 1 (.t 5)⟩,
  ⟨none, none, .store 3 (.t 13) (.t 12)⟩])
 (.reg [⟨(some 14), none, .mov (.t 0)⟩,
  ⟨(some 15), none, .call 0 [] (.c (.fn 49 [])) [(.t 14)]⟩,
  ⟨(some 16), none, .faddr 1 (.t 5)⟩,
  ⟨none, none, .store 3 (.t 16) (.t 15)⟩])))
 (.seq (.reg [⟨(some 17), none, .load (some 4) (.t 5)⟩,
  ⟨none, none, .store 4 (.t 4) (.t 17)⟩])
 .ret)))),
  [.cell 4 (some 4)], false, false, 18⟩
theorem co79 : compF Tryz.prog ⟨[], [], [], [], [], [], 79, [], []⟩ false false Tryz.f79 = some ac79 := by kernel_rfl

/-- paideia/paideiaref1.vars -/
def ac80 : AF := ⟨(.seq (.reg [⟨(some 3), none, .box (.t 1) 3 false⟩,
  ⟨(some 4), none, .mov (.c (.sl .clip []))⟩])
 (.seq (.seq (.reg [⟨(some 6), none, .faddr 0 (.t 3)⟩,
  ⟨(some 7), none, .load none (.t 6)⟩,
  ⟨(some 8), none, .bin .eql (.t 7) (.c (.int .i64 1))⟩,
  ⟨(some 9), none, .mov (.t 8)⟩,
  ⟨(some 10), (some (9, true)), .mov (.t 0)⟩,
  ⟨(some 11), (some (9, true)), .faddr 1 (.t 3)⟩,
  ⟨(some 12), (some (9, true)), .load none (.t 11)⟩,
  ⟨(some 13), (some (9, true)), .call 0 [] (.c (.fn 91 [])) [(.t 10), (.t 12)]⟩,
  ⟨(some 14), (some (9, true)), .not (.t 13)⟩,
  ⟨(some 15), none, .pick (.t 9) (.t 14) (.c (.bool false))⟩])
 (.cond (.t 15) (.reg [⟨(some 16), none, .mov (.t 0)⟩,
  ⟨(some 17), none, .call 0 [] (.c (.fn 95 [])) [(.t 16)]⟩,
  ⟨(some 18), none, .faddr 1 (.t 3)⟩,
  ⟨(some 19), none, .loadL none (.t 18)⟩,
  ⟨(some 20), none, .bslice [(.str [])] 1 [(0, (.t 19))]⟩,
  ⟨(some 21), none, .append 1 (.t 17) (.t 20)⟩,
  ⟨(some 0), none, .mov (.t 21)⟩])
 .skip))
 (.seq (.seq (.reg [⟨(some 5), none, .mov (.c (.int .i64 0))⟩])
 (.block 0 (.loop [0, 5] [3] (.seq (.seq (.reg [⟨(some 22), none, .mov (.t 5)⟩,
  ⟨(some 23), none, .faddr 2 (.t 3)⟩,
  ⟨(some 24), none, .load none (.t 23)⟩,
  ⟨(some 25), none, .len 1 (.t 24)⟩,
  ⟨(some 26), none, .bin .lss (.t 22) (.t 25)⟩])
 (.cond (.t 26) .skip
 (.exit 0)))
 (.seq (.block 1 (.reg [⟨(some 29), none, .mov (.t 0)⟩,
  ⟨(some 30), none, .faddr 2 (.t 3)⟩,
  ⟨(some 31), none, .load none (.t 30)⟩,
  ⟨(some 32), none, .mov (.t 5)⟩,
  ⟨(some 33), none, .iaddr 3 (.t 31) (.t 32)⟩,
  ⟨(some 34), none, .load (some 3) (.t 33)⟩,
  ⟨(some 35), none, .call 0 [] (.c (.fn 80 [])) [(.t 29), (.t 34)]⟩,
  ⟨(some 0), none, .mov (.t 35)⟩]))
 (.reg [⟨(some 27), none, .mov (.t 5)⟩,
  ⟨(some 28), none, .bin .add (.t 27) (.c (.int .i64 1))⟩,
  ⟨(some 5), none, .mov (.t 28)⟩]))))))
 (.seq (.reg [⟨(some 36), none, .mov (.t 0)⟩,
  ⟨(some 4), none, .mov (.t 36)⟩])
 .ret)))),
  [.t 4], false, true, 37⟩
theorem co80 : compF Tryz.prog ⟨[], [(4, [0, 5], [3])], [], [], [], [], 80, [], []⟩ false true Tryz.f80 = some ac80 := by kernel_rfl

/-- (*paideia/paideiaref1.parser).defs -/
def ac81 : AF := ⟨(.seq (.reg [⟨(some 2), none, .mov (.c (.sl .clip []))⟩])
 (.seq (.reg [⟨(some 3), none, .mov (.c (.sl .clip []))⟩])
 (.seq (.reg [⟨(some 4), none, .mov (.c (.sl .clip []))⟩])
 (.seq (.block 0 (.loop [0, 3, 4] [] (.seq (.seq (.reg [⟨(some 5), none, .mov (.t 0)⟩,
  ⟨(some 6), none, .call 0 [] (.c (.fn 21 [])) [(.t 5)]⟩])
 (.cond (.t 6) .skip
 (.exit 0)))
 (.block 1 (.seq (.block 2 (.loop [0, 3, 4] [] (.seq (.seq (.reg [⟨(some 7), none, .mov (.t 0)⟩,
  ⟨(some 8), none, .call 0 [] (.c (.fn 22 [])) [(.t 7), (.c (.str [59]))]⟩])
 (.cond (.t 8) .skip
 (.exit 2)))
 (.block 3 (.reg [⟨(some 9), none, .mov (.t 0)⟩,
  ⟨(some 10), none, .mov (.t 0)⟩,
  ⟨(some 11), none, .nilck (.t 10)⟩,
  ⟨(some 12), none, .faddr 1 (.t 11)⟩,
  ⟨(some 13), none, .load none (.t 12)⟩,
  ⟨(some 14), none, .bin .add (.t 13) (.c (.int .i64 1))⟩,
  ⟨(some 15), none, .nilck (.t 9)⟩,
  ⟨(some 16), none, .faddr 1 (.t 15)⟩,
  ⟨none, none, .store 1 (.t 16) (.t 14)⟩])))))
 (.seq (.seq (.reg [⟨(some 17), none, .mov (.t 0)⟩,
  ⟨(some 18), none, .call 0 [] (.c (.fn 22 [])) [(.t 17), (.c (.str [125]))]⟩])
 (.cond (.t 18) (.exit 0)
 .skip))
 (.seq (.reg [⟨(some 20), none, .mov (.t 0)⟩,
  ⟨(some 21), none, .mov (.t 3)⟩,
  ⟨(some 22), none, .mov (.t 4)⟩,
  ⟨(some 23), none, .call 0 [] (.c (.fn 26 [])) [(.t 20), (.t 21), (.t 22)]⟩,
  ⟨(some 19), none, .mov (.t 23)⟩,
  ⟨(some 24), none, .extract (.t 19) 0⟩,
  ⟨(some 25), none, .extract (.t 19) 1⟩,
  ⟨(some 3), none, .mov (.t 24)⟩,
  ⟨(some 4), none, .mov (.t 25)⟩])
 (.reg [⟨(some 26), none, .mov (.t 0)⟩,
  ⟨(some 27), none, .call 0 [] (.c (.fn 27 [])) [(.t 26), (.c (.bool true))]⟩]))))))))
 (.seq (.reg [⟨(some 28), none, .mov (.t 0)⟩,
  ⟨(some 29), none, .mov (.t 3)⟩,
  ⟨(some 30), none, .mov (.t 4)⟩,
  ⟨(some 31), none, .call 0 [] (.c (.fn 28 [])) [(.t 28), (.t 29), (.t 30)]⟩,
  ⟨(some 2), none, .mov (.t 31)⟩])
 .ret))))),
  [.t 2], false, false, 32⟩
theorem co81 : compF Tryz.prog ⟨[], [(3, [0, 3, 4], []), (4, [0, 3, 4], [])], [], [], [], [], 81, [], []⟩ false false Tryz.f81 = some ac81 := by kernel_rfl

/-- (*paideia/paideiaref1.parser).alts -/
def ac82 : AF := ⟨(.seq (.reg [⟨(some 2), none, .mov (.c (.sl .clip []))⟩])
 (.seq (.reg [⟨(some 3), none, .mov (.c (.sl .clip []))⟩])
 (.seq (.block 0 (.loop [0, 3] [] (.seq (.seq (.reg [⟨(some 5), none, .mov (.t 0)⟩,
  ⟨(some 6), none, .call 0 [] (.c (.fn 21 [])) [(.t 5)]⟩])
 (.cond (.t 6) .skip
 (.exit 0)))
 (.block 1 (.seq (.block 2 (.loop [0, 3] [] (.seq (.seq (.reg [⟨(some 7), none, .mov (.t 0)⟩,
  ⟨(some 8), none, .call 0 [] (.c (.fn 22 [])) [(.t 7), (.c (.str [59]))]⟩])
 (.cond (.t 8) .skip
 (.exit 2)))
 (.block 3 (.reg [⟨(some 9), none, .mov (.t 0)⟩,
  ⟨(some 10), none, .mov (.t 0)⟩,
  ⟨(some 11), none, .nilck (.t 10)⟩,
  ⟨(some 12), none, .faddr 1 (.t 11)⟩,
  ⟨(some 13), none, .load none (.t 12)⟩,
  ⟨(some 14), none, .bin .add (.t 13) (.c (.int .i64 1))⟩,
  ⟨(some 15), none, .nilck (.t 9)⟩,
  ⟨(some 16), none, .faddr 1 (.t 15)⟩,
  ⟨none, none, .store 1 (.t 16) (.t 14)⟩])))))
 (.seq (.seq (.reg [⟨(some 17), none, .mov (.t 0)⟩,
  ⟨(some 18), none, .call 0 [] (.c (.fn 22 [])) [(.t 17), (.c (.str [125]))]⟩])
 (.cond (.t 18) (.seq (.reg [⟨(some 19), none, .mov (.t 3)⟩,
  ⟨(some 2), none, .mov (.t 19)⟩])
 .ret)
 .skip))
 (.seq (.reg [⟨(some 20), none, .mov (.t 0)⟩,
  ⟨(some 21), none, .call 0 [] (.c (.fn 44 [])) [(.t 20)]⟩,
  ⟨(some 22), none, .build [(.str []), (.sl .clip []), (.int .i64 0), (.int .i64 0), (.str []), (.int .i64 0), (.sl .clip []), (.sl .clip []), (.sl .clip []), (.int .i64 0)] [(9, 1, (.t 21))]⟩,
  ⟨(some 4), none, .alloc [(.str []), (.sl .clip []), (.int .i64 0), (.int .i64 0), (.str []), (.int .i64 0), (.sl .clip []), (.sl .clip []), (.sl .clip []), (.int .i64 0)] false⟩,
  ⟨none, none, .store 10 (.t 4) (.t 22)⟩])
 (.seq (.block 4 (.seq (.reg [⟨(some 28), none, .mov (.t 0)⟩,
  ⟨(some 29), none, .call 0 [] (.c (.fn 47 [])) [(.t 28), (.c (.int .i64 2))]⟩,
  ⟨(some 27), none, .mov (.t 29)⟩])
 (.cond (.t 27) (.seq (.reg [⟨(some 30), none, .mov (.t 0)⟩,
  ⟨(some 31), none, .call 0 [] (.c (.fn 46 [])) [(.t 30), (.c (.int .i64 2))]⟩,
  ⟨(some 32), none, .faddr 0 (.t 4)⟩,
  ⟨none, none, .store 1 (.t 32) (.t 31)⟩])
 (.block 5 (.loop [0, 3] [4] (.seq (.seq (.reg [⟨(some 33), none, .mov (.t 0)⟩,
  ⟨(some 34), none, .call 0 [] (.c (.fn 47 [])) [(.t 33), (.c (.int .i64 1))]⟩,
  ⟨(some 35), none, .mov (.t 34)⟩,
  ⟨(some 36), (some (35, false)), .mov (.t 0)⟩,
  ⟨(some 37), (some (35, false)), .call 0 [] (.c (.fn 22 [])) [(.t 36), (.c (.str [95]))]⟩,
  ⟨(some 38), none, .pick (.t 35) (.c (.bool true)) (.t 37)⟩])
 (.cond (.t 38) .skip
 (.exit 5)))
 (.block 6 (.seq (.reg [⟨(some 39), none, .faddr 1 (.t 4)⟩,
  ⟨(some 40), none, .load none (.t 39)⟩,
  ⟨(some 41), none, .mov (.t 0)⟩,
  ⟨(some 42), none, .nilck (.t 41)⟩,
  ⟨(some 43), none, .faddr 0 (.t 42)⟩,
  ⟨(some 44), none, .load none (.t 43)⟩,
  ⟨(some 45), none, .mov (.t 0)⟩,
  ⟨(some 46), none, .nilck (.t 45)⟩,
  ⟨(some 47), none, .faddr 1 (.t 46)⟩,
  ⟨(some 48), none, .load none (.t 47)⟩,
  ⟨(some 49), none, .iaddr 4 (.t 44) (.t 48)⟩,
  ⟨(some 50), none, .faddr 2 (.t 49)⟩,
  ⟨(some 51), none, .load none (.t 50)⟩,
  ⟨(some 52), none, .bslice [(.str [])] 1 [(0, (.t 51))]⟩,
  ⟨(some 53), none, .append 1 (.t 40) (.t 52)⟩,
  ⟨(some 54), none, .faddr 1 (.t 4)⟩,
  ⟨none, none, .store 1 (.t 54) (.t 53)⟩])
 (.reg [⟨(some 55), none, .mov (.t 0)⟩,
  ⟨(some 56), none, .mov (.t 0)⟩,
  ⟨(some 57), none, .nilck (.t 56)⟩,
  ⟨(some 58), none, .faddr 1 (.t 57)⟩,
  ⟨(some 59), none, .load none (.t 58)⟩,
  ⟨(some 60), none, .bin .add (.t 59) (.c (.int .i64 1))⟩,
  ⟨(some 61), none, .nilck (.t 55)⟩,
  ⟨(some 62), none, .faddr 1 (.t 61)⟩,
  ⟨none, none, .store 1 (.t 62) (.t 60)⟩])))))))
 (.seq (.reg [⟨(some 64), none, .mov (.t 0)⟩,
  ⟨(some 65), none, .call 0 [] (.c (.fn 22 [])) [(.t 64), (.c (.str [95]))]⟩,
  ⟨(some 63), none, .mov (.t 65)⟩])
 (.cond (.t 63) (.reg [⟨(some 66), none, .mov (.t 0)⟩,
  ⟨(some 67), none, .mov (.t 0)⟩,
  ⟨(some 68), none, .nilck (.t 67)⟩,
  ⟨(some 69), none, .faddr 1 (.t 68)⟩,
  ⟨(some 70), none, .load none (.t 69)⟩,
  ⟨(some 71), none, .bin .add (.t 70) (.c (.int .i64 1))⟩,
  ⟨(some 72), none, .nilck (.t 66)⟩,
  ⟨(some 73), none, .faddr 1 (.t 72)⟩,
  ⟨none, none, .store 1 (.t 73) (.t 71)⟩])
 (.reg [⟨(some 23), none, .mov (.t 0)⟩,
  ⟨(some 24), none, .call 0 [] (.c (.fn 46 [])) [(.t 23), (.c (.int .i64 1))]⟩,
  ⟨(some 25), none, .bslice [(.str [])] 1 [(0, (.t 24))]⟩,
  ⟨(some 26), none, .faddr 1 (.t 4)⟩,
  ⟨none, none, .store 1 (.t 26) (.t 25)⟩]))))))
 (.seq (.reg [⟨(some 74), none, .mov (.t 0)⟩,
  ⟨(some 75), none, .call 0 [] (.c (.fn 45 [])) [(.t 74), (.c (.str [45, 62]))]⟩])
 (.seq (.reg [⟨(some 76), none, .mov (.t 0)⟩,
  ⟨(some 77), none, .call 0 [] (.c (.fn 55 [])) [(.t 76)]⟩,
  ⟨(some 78), none, .faddr 2 (.t 4)⟩,
  ⟨none, none, .store 7 (.t 78) (.t 77)⟩])
 (.seq (.reg [⟨(some 79), none, .mov (.t 3)⟩,
  ⟨(some 80), none, .load (some 10) (.t 4)⟩,
  ⟨(some 81), none, .bslice [(.str []), (.sl .clip []), (.int .i64 0), (.int .i64 0), (.str []), (.int .i64 0), (.sl .clip []), (.sl .clip []), (.sl .clip []), (.int .i64 0)] 1 [(0, (.t 80))]⟩,
  ⟨(some 82), none, .append 10 (.t 79) (.t 81)⟩,
  ⟨(some 3), none, .mov (.t 82)⟩])
 (.seq (.reg [⟨(some 83), none, .mov (.t 0)⟩,
  ⟨(some 84), none, .call 0 [] (.c (.fn 22 [])) [(.t 83), (.c (.str [59]))]⟩,
  ⟨(some 85), none, .not (.t 84)⟩,
  ⟨(some 86), none, .mov (.t 85)⟩,
  ⟨(some 87), (some (86, true)), .mov (.t 0)⟩,
  ⟨(some 88), (some (86, true)), .call 0 [] (.c (.fn 22 [])) [(.t 87), (.c (.str [125]))]⟩,
  ⟨(some 89), (some (86, true)), .not (.t 88)⟩,
  ⟨(some 90), none, .pick (.t 86) (.t 89) (.c (.bool false))⟩])
 (.cond (.t 90) (.reg [⟨(some 91), none, .mov (.t 0)⟩,
  ⟨(some 92), none, .call 0 [] (.c (.fn 29 [])) [(.t 91)]⟩])
 .skip)))))))))))))
 (.seq (.reg [⟨(some 93), none, .mov (.t 3)⟩,
  ⟨(some 2), none, .mov (.t 93)⟩])
 .ret)))),
  [.t 2], false, false, 94⟩
theorem co82 : compF Tryz.prog ⟨[], [(2, [0, 3], []), (3, [0, 3], []), (11, [0, 3], [4])], [], [], [], [], 82, [], []⟩ false false Tryz.f82 = some ac82 := by kernel_rfl

/-- (*paideia/paideiaref1.parser).sum -/
def ac83 : AF := ⟨(.seq (.reg [⟨(some 2), none, .alloc [(.int .i64 0), (.int .i64 0), (.str []), (.int .i64 0), (.sl .clip []), (.sl .clip []), (.sl .clip [])] false⟩])
 (.seq (.reg [⟨(some 4), none, .mov (.t 0)⟩,
  ⟨(some 5), none, .call 0 [] (.c (.fn 96 [])) [(.t 4)]⟩,
  ⟨(some 3), none, .alloc [(.int .i64 0), (.int .i64 0), (.str []), (.int .i64 0), (.sl .clip []), (.sl .clip []), (.sl .clip [])] false⟩,
  ⟨none, none, .store 7 (.t 3) (.t 5)⟩])
 (.seq (.block 0 (.loop [0] [2, 3] (.seq (.seq (.reg [⟨(some 6), none, .mov (.t 0)⟩,
  ⟨(some 7), none, .bslice [(.str [])] 2 [(0, (.c (.str [43]))), (1, (.c (.str [45])))]⟩,
  ⟨(some 8), none, .call 0 [] (.c (.fn 84 [])) [(.t 6), (.t 7)]⟩])
 (.cond (.t 8) .skip
 (.exit 0)))
 (.block 1 (.reg [⟨(some 9), none, .mov (.t 0)⟩,
  ⟨(some 10), none, .load (some 7) (.t 3)⟩,
  ⟨(some 11), none, .call 0 [] (.c (.fn 85 [])) [(.t 9), (.t 10), (.c (.int .i64 1))]⟩,
  ⟨none, none, .store 7 (.t 3) (.t 11)⟩])))))
 (.seq (.reg [⟨(some 12), none, .load (some 7) (.t 3)⟩,
  ⟨none, none, .store 7 (.t 2) (.t 12)⟩])
 .ret)))),
  [.cell 2 (some 7)], false, false, 13⟩
theorem co83 : compF Tryz.prog ⟨[], [(2, [0], [2, 3])], [], [], [], [], 83, [], []⟩ false false Tryz.f83 = some ac83 := by kernel_rfl

/-- (*paideia/paideiaref1.parser).sign -/
def ac84 : AF := ⟨(.seq (.reg [⟨(some 4), none, .mov (.c (.bool false))⟩])
 (.seq (.reg [⟨(some 5), none, .mov (.t 0)⟩,
  ⟨(some 6), none, .call 0 [] (.c (.fn 47 [])) [(.t 5), (.c (.int .i64 5))]⟩,
  ⟨(some 7), none, .mov (.t 6)⟩,
  ⟨(some 8), (some (7, true)), .mov (.t 1)⟩,
  ⟨(some 9), (some (7, true)), .mov (.t 0)⟩,
  ⟨(some 10), (some (7, true)), .nilck (.t 9)⟩,
  ⟨(some 11), (some (7, true)), .faddr 0 (.t 10)⟩,
  ⟨(some 12), (some (7, true)), .load none (.t 11)⟩,
  ⟨(some 13), (some (7, true)), .mov (.t 0)⟩,
  ⟨(some 14), (some (7, true)), .nilck (.t 13)⟩,
  ⟨(some 15), (some (7, true)), .faddr 1 (.t 14)⟩,
  ⟨(some 16), (some (7, true)), .load none (.t 15)⟩,
  ⟨(some 17), (some (7, true)), .iaddr 4 (.t 12) (.t 16)⟩,
  ⟨(some 18), (some (7, true)), .faddr 2 (.t 17)⟩,
  ⟨(some 19), (some (7, true)), .load none (.t 18)⟩,
  ⟨(some 20), (some (7, true)), .call 0 [] (.c (.fn 91 [])) [(.t 8), (.t 19)]⟩,
  ⟨(some 21), none, .pick (.t 7) (.t 20) (.c (.bool false))⟩,
  ⟨(some 4), none, .mov (.t 21)⟩])
 .ret)),
  [.t 4], false, false, 22⟩
theorem co84 : compF Tryz.prog ⟨[], [], [], [], [], [], 84, [], []⟩ false false Tryz.f84 = some ac84 := by kernel_rfl

/-- (*paideia/paideiaref1.parser).two -/
def ac85 : AF := ⟨(.seq (.reg [⟨(some 4), none, .box (.t 1) 7 false⟩,
  ⟨(some 6), none, .alloc [(.int .i64 0), (.int .i64 0), (.str []), (.int .i64 0), (.sl .clip []), (.sl .clip []), (.sl .clip [])] false⟩])
 (.seq (.reg [⟨(some 10), none, .mov (.t 0)⟩,
  ⟨(some 11), none, .call 0 [] (.c (.fn 44 [])) [(.t 10)]⟩,
  ⟨(some 7), none, .mov (.t 11)⟩])
 (.seq (.reg [⟨(some 12), none, .mov (.t 7)⟩,
  ⟨(some 13), none, .mov (.t 0)⟩,
  ⟨(some 14), none, .call 0 [] (.c (.fn 46 [])) [(.t 13), (.c (.int .i64 5))]⟩,
  ⟨(some 15), none, .build [(.int .i64 0), (.int .i64 0), (.str []), (.int .i64 0), (.sl .clip []), (.sl .clip []), (.sl .clip [])] [(0, 1, (.c (.int .i64 1))), (1, 1, (.t 12)), (2, 1, (.t 14))]⟩,
  ⟨(some 8), none, .alloc [(.int .i64 0), (.int .i64 0), (.str []), (.int .i64 0), (.sl .clip []), (.sl .clip []), (.sl .clip [])] false⟩,
  ⟨none, none, .store 7 (.t 8) (.t 15)⟩])
 (.seq (.reg [⟨(some 9), none, .alloc [(.int .i64 0), (.int .i64 0), (.str []), (.int .i64 0), (.sl .clip []), (.sl .clip []), (.sl .clip [])] false⟩])
 (.seq (.seq (.reg [⟨(some 16), none, .mov (.t 2)⟩])
 (.block 0 (.seq (.reg [⟨(some 20), none, .bin .eql (.t 16) (.c (.int .i64 0))⟩,
  ⟨(some 19), none, .mov (.t 20)⟩])
 (.cond (.t 19) (.reg [⟨(some 21), none, .mov (.t 0)⟩,
  ⟨(some 22), none, .call 0 [] (.c (.fn 83 [])) [(.t 21)]⟩,
  ⟨none, none, .store 7 (.t 9) (.t 22)⟩])
 (.seq (.reg [⟨(some 24), none, .bin .eql (.t 16) (.c (.int .i64 1))⟩,
  ⟨(some 23), none, .mov (.t 24)⟩])
 (.cond (.t 23) (.reg [⟨(some 25), none, .mov (.t 0)⟩,
  ⟨(some 26), none, .call 0 [] (.c (.fn 96 [])) [(.t 25)]⟩,
  ⟨none, none, .store 7 (.t 9) (.t 26)⟩])
 (.reg [⟨(some 17), none, .mov (.t 0)⟩,
  ⟨(some 18), none, .call 0 [] (.c (.fn 97 [])) [(.t 17)]⟩,
  ⟨none, none, .store 7 (.t 9) (.t 18)⟩])))))))
 (.seq (.reg [⟨(some 27), none, .load (some 7) (.t 8)⟩,
  ⟨(some 28), none, .load (some 7) (.t 4)⟩,
  ⟨(some 29), none, .mov (.t 7)⟩,
  ⟨(some 30), none, .call 0 [] (.c (.fn 98 [])) [(.t 27), (.t 28), (.t 29)]⟩,
  ⟨(some 31), none, .loadL (some 7) (.t 9)⟩,
  ⟨(some 32), none, .mov (.t 7)⟩,
  ⟨(some 33), none, .call 0 [] (.c (.fn 98 [])) [(.t 30), (.t 31), (.t 32)]⟩,
  ⟨none, none, .store 7 (.t 6) (.t 33)⟩])
 .ret)))))),
  [.cell 6 (some 7)], false, false, 34⟩
theorem co85 : compF Tryz.prog ⟨[], [], [], [], [], [], 85, [], []⟩ false false Tryz.f85 = some ac85 := by kernel_rfl

/-- paideia/lexer.Plain -/
def ac90 : AF := ⟨(.seq (.reg [⟨(some 2), none, .mov (.c (.bool false))⟩])
 (.seq (.reg [⟨(some 3), none, .mov (.t 0)⟩,
  ⟨(some 4), none, .bin .geq (.t 3) (.c (.int .u8 32))⟩,
  ⟨(some 5), none, .mov (.t 4)⟩,
  ⟨(some 6), (some (5, true)), .mov (.t 0)⟩,
  ⟨(some 7), (some (5, true)), .bin .leq (.t 6) (.c (.int .u8 126))⟩,
  ⟨(some 8), none, .pick (.t 5) (.t 7) (.c (.bool false))⟩,
  ⟨(some 9), none, .mov (.t 8)⟩,
  ⟨(some 10), (some (9, true)), .mov (.t 0)⟩,
  ⟨(some 11), (some (9, true)), .bin .neq (.t 10) (.c (.int .u8 39))⟩,
  ⟨(some 12), none, .pick (.t 9) (.t 11) (.c (.bool false))⟩,
  ⟨(some 13), none, .mov (.t 12)⟩,
  ⟨(some 14), (some (13, true)), .mov (.t 0)⟩,
  ⟨(some 15), (some (13, true)), .bin .neq (.t 14) (.c (.int .u8 92))⟩,
  ⟨(some 16), none, .pick (.t 13) (.t 15) (.c (.bool false))⟩,
  ⟨(some 2), none, .mov (.t 16)⟩])
 .ret)),
  [.t 2], false, true, 17⟩
theorem co90 : compF Tryz.prog ⟨[], [], [], [], [], [], 90, [], []⟩ false true Tryz.f90 = some ac90 := by kernel_rfl

/-- paideia/paideiaref.Has -/
def ac91 : AF := ⟨(.seq (.reg [⟨(some 4), none, .mov (.c (.bool false))⟩])
 (.seq (.reg [⟨(some 5), none, .mov (.t 0)⟩,
  ⟨(some 6), none, .mov (.t 1)⟩,
  ⟨(some 7), none, .call 0 [] (.c (.fn 107 [])) [(.t 5), (.t 6)]⟩,
  ⟨(some 8), none, .bin .geq (.t 7) (.c (.int .i64 0))⟩,
  ⟨(some 4), none, .mov (.t 8)⟩])
 .ret)),
  [.t 4], false, true, 9⟩
theorem co91 : compF Tryz.prog ⟨[], [], [], [], [], [], 91, [], []⟩ false true Tryz.f91 = some ac91 := by kernel_rfl

/-- paideia/paideiaref1.reserved -/
def ac92 : AF := ⟨(.seq (.reg [⟨(some 0), none, .mov (.c (.sl .clip []))⟩])
 (.seq (.reg [⟨(some 1), none, .bslice [(.str [])] 12 [(0, (.c (.str [100, 97, 116, 97]))), (1, (.c (.str [99, 108, 97, 115, 115]))), (2, (.c (.str [105, 110, 115, 116, 97, 110, 99, 101]))), (3, (.c (.str [119, 104, 101, 114, 101]))), (4, (.c (.str [108, 101, 116]))), (5, (.c (.str [105, 110]))), (6, (.c (.str [99, 97, 115, 101]))), (7, (.c (.str [111, 102]))), (8, (.c (.str [105, 102]))), (9, (.c (.str [116, 104, 101, 110]))), (10, (.c (.str [101, 108, 115, 101]))), (11, (.c (.str [100, 101, 114, 105, 118, 105, 110, 103])))]⟩,
  ⟨(some 0), none, .mov (.t 1)⟩])
 .ret)),
  [.t 0], false, true, 2⟩
theorem co92 : compF Tryz.prog ⟨[], [], [], [], [], [], 92, [], []⟩ false true Tryz.f92 = some ac92 := by kernel_rfl

/-- (*paideia/paideiaref1.parser).applied -/
def ac93 : AF := ⟨(.seq (.reg [⟨(some 2), none, .alloc [(.int .i64 0), (.str []), (.sl .clip [])] false⟩])
 (.seq (.seq (.reg [⟨(some 4), none, .mov (.t 0)⟩,
  ⟨(some 5), none, .call 0 [] (.c (.fn 47 [])) [(.t 4), (.c (.int .i64 2))]⟩,
  ⟨(some 6), none, .not (.t 5)⟩])
 (.cond (.t 6) (.seq (.reg [⟨(some 7), none, .mov (.t 0)⟩,
  ⟨(some 8), none, .call 0 [] (.c (.fn 49 [])) [(.t 7)]⟩,
  ⟨none, none, .store 3 (.t 2) (.t 8)⟩])
 .ret)
 .skip))
 (.seq (.reg [⟨(some 9), none, .mov (.t 0)⟩,
  ⟨(some 10), none, .call 0 [] (.c (.fn 46 [])) [(.t 9), (.c (.int .i64 2))]⟩,
  ⟨(some 11), none, .build [(.int .i64 0), (.str []), (.sl .clip [])] [(0, 1, (.c (.int .i64 2))), (1, 1, (.t 10))]⟩,
  ⟨(some 3), none, .alloc [(.int .i64 0), (.str []), (.sl .clip [])] false⟩,
  ⟨none, none, .store 3 (.t 3) (.t 11)⟩])
 (.seq (.block 0 (.loop [0] [2, 3] (.seq (.seq (.reg [⟨(some 12), none, .mov (.t 0)⟩,
  ⟨(some 13), none, .call 0 [] (.c (.fn 48 [])) [(.t 12)]⟩])
 (.cond (.t 13) .skip
 (.exit 0)))
 (.block 1 (.reg [⟨(some 14), none, .faddr 2 (.t 3)⟩,
  ⟨(some 15), none, .loadL none (.t 14)⟩,
  ⟨(some 16), none, .mov (.t 0)⟩,
  ⟨(some 17), none, .call 0 [] (.c (.fn 49 [])) [(.t 16)]⟩,
  ⟨(some 18), none, .bslice [(.int .i64 0), (.str []), (.sl .clip [])] 1 [(0, (.t 17))]⟩,
  ⟨(some 19), none, .append 3 (.t 15) (.t 18)⟩,
  ⟨(some 20), none, .faddr 2 (.t 3)⟩,
  ⟨none, none, .store 1 (.t 20) (.t 19)⟩])))))
 (.seq (.reg [⟨(some 21), none, .load (some 3) (.t 3)⟩,
  ⟨none, none, .store 3 (.t 2) (.t 21)⟩])
 .ret))))),
  [.cell 2 (some 3)], false, false, 22⟩
theorem co93 : compF Tryz.prog ⟨[], [(4, [0], [2, 3])], [], [], [], [], 93, [], []⟩ false false Tryz.f93 = some ac93 := by kernel_rfl

/-- (*paideia/paideiaref1.parser).behind -/
def ac94 : AF := ⟨(.seq (.reg [⟨(some 4), none, .mov (.c (.int .i64 0))⟩])
 (.seq (.seq (.reg [⟨(some 6), none, .mov (.t 0)⟩,
  ⟨(some 7), none, .mov (.t 1)⟩,
  ⟨(some 8), none, .call 0 [] (.c (.fn 43 [])) [(.t 6), (.t 7), (.c (.str [40]))]⟩,
  ⟨(some 9), none, .not (.t 8)⟩])
 (.cond (.t 9) (.seq (.reg [⟨(some 10), none, .mov (.t 1)⟩,
  ⟨(some 11), none, .bin .add (.t 10) (.c (.int .i64 1))⟩,
  ⟨(some 4), none, .mov (.t 11)⟩])
 .ret)
 .skip))
 (.seq (.reg [⟨(some 5), none, .mov (.c (.int .i64 0))⟩])
 (.seq (.block 0 (.loop [0, 1, 5] [] (.seq (.seq (.reg [⟨(some 12), none, .mov (.t 1)⟩,
  ⟨(some 13), none, .mov (.t 0)⟩,
  ⟨(some 14), none, .nilck (.t 13)⟩,
  ⟨(some 15), none, .faddr 0 (.t 14)⟩,
  ⟨(some 16), none, .load none (.t 15)⟩,
  ⟨(some 17), none, .len 1 (.t 16)⟩,
  ⟨(some 18), none, .bin .lss (.t 12) (.t 17)⟩])
 (.cond (.t 18) .skip
 (.exit 0)))
 (.seq (.block 1 (.seq (.seq (.reg [⟨(some 21), none, .mov (.t 0)⟩,
  ⟨(some 22), none, .mov (.t 1)⟩,
  ⟨(some 23), none, .call 0 [] (.c (.fn 43 [])) [(.t 21), (.t 22), (.c (.str [40]))]⟩])
 (.cond (.t 23) (.reg [⟨(some 24), none, .mov (.t 5)⟩,
  ⟨(some 25), none, .bin .add (.t 24) (.c (.int .i64 1))⟩,
  ⟨(some 5), none, .mov (.t 25)⟩])
 .skip))
 (.seq (.reg [⟨(some 26), none, .mov (.t 0)⟩,
  ⟨(some 27), none, .mov (.t 1)⟩,
  ⟨(some 28), none, .call 0 [] (.c (.fn 43 [])) [(.t 26), (.t 27), (.c (.str [41]))]⟩])
 (.cond (.t 28) (.seq (.reg [⟨(some 29), none, .mov (.t 5)⟩,
  ⟨(some 30), none, .bin .sub (.t 29) (.c (.int .i64 1))⟩,
  ⟨(some 5), none, .mov (.t 30)⟩])
 (.seq (.reg [⟨(some 31), none, .mov (.t 5)⟩,
  ⟨(some 32), none, .bin .eql (.t 31) (.c (.int .i64 0))⟩])
 (.cond (.t 32) (.seq (.reg [⟨(some 33), none, .mov (.t 1)⟩,
  ⟨(some 34), none, .bin .add (.t 33) (.c (.int .i64 1))⟩,
  ⟨(some 4), none, .mov (.t 34)⟩])
 .ret)
 .skip)))
 .skip))))
 (.reg [⟨(some 19), none, .mov (.t 1)⟩,
  ⟨(some 20), none, .bin .add (.t 19) (.c (.int .i64 1))⟩,
  ⟨(some 1), none, .mov (.t 20)⟩])))))
 (.seq (.reg [⟨(some 35), none, .mov (.t 1)⟩,
  ⟨(some 4), none, .mov (.t 35)⟩])
 .ret))))),
  [.t 4], false, false, 36⟩
theorem co94 : compF Tryz.prog ⟨[], [(4, [0, 1, 5], [])], [], [], [], [], 94, [], []⟩ false false Tryz.f94 = some ac94 := by kernel_rfl

/-- paideia/paideiaref.Texts -/
def ac95 : AF := ⟨(.seq (.reg [⟨(some 2), none, .mov (.c (.sl .clip []))⟩])
 (.seq (.reg [⟨(some 5), none, .mov (.t 0)⟩,
  ⟨(some 6), none, .len 1 (.t 5)⟩,
  ⟨(some 7), none, .mkslice [(.str [])] (.c (.int .i64 0)) (.t 6)⟩,
  ⟨(some 3), none, .mov (.t 7)⟩])
 (.seq (.seq (.reg [⟨(some 4), none, .mov (.c (.int .i64 0))⟩])
 (.block 0 (.loop [0, 3, 4] [] (.seq (.seq (.reg [⟨(some 8), none, .mov (.t 4)⟩,
  ⟨(some 9), none, .mov (.t 0)⟩,
  ⟨(some 10), none, .len 1 (.t 9)⟩,
  ⟨(some 11), none, .bin .lss (.t 8) (.t 10)⟩])
 (.cond (.t 11) .skip
 (.exit 0)))
 (.seq (.block 1 (.reg [⟨(some 14), none, .mov (.t 3)⟩,
  ⟨(some 15), none, .mov (.t 0)⟩,
  ⟨(some 16), none, .mov (.t 4)⟩,
  ⟨(some 17), none, .iaddr 1 (.t 15) (.t 16)⟩,
  ⟨(some 18), none, .load none (.t 17)⟩,
  ⟨(some 19), none, .bslice [(.str [])] 1 [(0, (.t 18))]⟩,
  ⟨(some 20), none, .append 1 (.t 14) (.t 19)⟩,
  ⟨(some 3), none, .mov (.t 20)⟩]))
 (.reg [⟨(some 12), none, .mov (.t 4)⟩,
  ⟨(some 13), none, .bin .add (.t 12) (.c (.int .i64 1))⟩,
  ⟨(some 4), none, .mov (.t 13)⟩]))))))
 (.seq (.reg [⟨(some 21), none, .mov (.t 3)⟩,
  ⟨(some 2), none, .mov (.t 21)⟩])
 .ret)))),
  [.t 2], true, false, 22⟩
theorem co95 : compF Tryz.prog ⟨[], [(3, [0, 3, 4], [])], [], [], [], [], 95, [], []⟩ true false Tryz.f95 = some ac95 := by kernel_rfl

/-- (*paideia/paideiaref1.parser).product -/
def ac96 : AF := ⟨(.seq (.reg [⟨(some 2), none, .alloc [(.int .i64 0), (.int .i64 0), (.str []), (.int .i64 0), (.sl .clip []), (.sl .clip []), (.sl .clip [])] false⟩])
 (.seq (.reg [⟨(some 4), none, .mov (.t 0)⟩,
  ⟨(some 5), none, .call 0 [] (.c (.fn 97 [])) [(.t 4)]⟩,
  ⟨(some 3), none, .alloc [(.int .i64 0), (.int .i64 0), (.str []), (.int .i64 0), (.sl .clip []), (.sl .clip []), (.sl .clip [])] false⟩,
  ⟨none, none, .store 7 (.t 3) (.t 5)⟩])
 (.seq (.block 0 (.loop [0] [2, 3] (.seq (.seq (.reg [⟨(some 6), none, .mov (.t 0)⟩,
  ⟨(some 7), none, .bslice [(.str [])] 1 [(0, (.c (.str [42])))]⟩,
  ⟨(some 8), none, .call 0 [] (.c (.fn 84 [])) [(.t 6), (.t 7)]⟩])
 (.cond (.t 8) .skip
 (.exit 0)))
 (.block 1 (.reg [⟨(some 9), none, .mov (.t 0)⟩,
  ⟨(some 10), none, .load (some 7) (.t 3)⟩,
  ⟨(some 11), none, .call 0 [] (.c (.fn 85 [])) [(.t 9), (.t 10), (.c (.int .i64 2))]⟩,
  ⟨none, none, .store 7 (.t 3) (.t 11)⟩])))))
 (.seq (.reg [⟨(some 12), none, .load (some 7) (.t 3)⟩,
  ⟨none, none, .store 7 (.t 2) (.t 12)⟩])
 .ret)))),
  [.cell 2 (some 7)], false, false, 13⟩
theorem co96 : compF Tryz.prog ⟨[], [(2, [0], [2, 3])], [], [], [], [], 96, [], []⟩ false false Tryz.f96 = some ac96 := by kernel_rfl

/-- (*paideia/paideiaref1.parser).app -/
def ac97 : AF := ⟨(.seq (.reg [⟨(some 2), none, .alloc [(.int .i64 0), (.int .i64 0), (.str []), (.int .i64 0), (.sl .clip []), (.sl .clip []), (.sl .clip [])] false⟩])
 (.seq (.reg [⟨(some 5), none, .mov (.t 0)⟩,
  ⟨(some 6), none, .call 0 [] (.c (.fn 108 [])) [(.t 5)]⟩,
  ⟨(some 3), none, .alloc [(.int .i64 0), (.int .i64 0), (.str []), (.int .i64 0), (.sl .clip []), (.sl .clip []), (.sl .clip [])] false⟩,
  ⟨none, none, .store 7 (.t 3) (.t 6)⟩])
 (.seq (.block 0 (.loop [0] [2, 3] (.seq (.seq (.reg [⟨(some 7), none, .mov (.t 0)⟩,
  ⟨(some 8), none, .call 0 [] (.c (.fn 109 [])) [(.t 7)]⟩])
 (.cond (.t 8) .skip
 (.exit 0)))
 (.block 1 (.seq (.reg [⟨(some 9), none, .mov (.t 0)⟩,
  ⟨(some 10), none, .call 0 [] (.c (.fn 108 [])) [(.t 9)]⟩,
  ⟨(some 4), none, .alloc [(.int .i64 0), (.int .i64 0), (.str []), (.int .i64 0), (.sl .clip []), (.sl .clip []), (.sl .clip [])] false⟩,
  ⟨none, none, .store 7 (.t 4) (.t 10)⟩])
 (.reg [⟨(some 11), none, .load (some 7) (.t 3)⟩,
  ⟨(some 12), none, .load (some 7) (.t 4)⟩,
  ⟨(some 13), none, .faddr 1 (.t 3)⟩,
  ⟨(some 14), none, .load none (.t 13)⟩,
  ⟨(some 15), none, .call 0 [] (.c (.fn 98 [])) [(.t 11), (.t 12), (.t 14)]⟩,
  ⟨none, none, .store 7 (.t 3) (.t 15)⟩]))))))
 (.seq (.reg [⟨(some 16), none, .load (some 7) (.t 3)⟩,
  ⟨none, none, .store 7 (.t 2) (.t 16)⟩])
 .ret)))),
  [.cell 2 (some 7)], false, false, 17⟩
theorem co97 : compF Tryz.prog ⟨[], [(2, [0], [2, 3])], [], [], [], [], 97, [], []⟩ false false Tryz.f97 = some ac97 := by kernel_rfl

/-- paideia/paideiaref1.apply -/
def ac98 : AF := ⟨(.seq (.reg [⟨(some 3), none, .box (.t 0) 7 false⟩,
  ⟨(some 4), none, .box (.t 1) 7 false⟩,
  ⟨(some 6), none, .alloc [(.int .i64 0), (.int .i64 0), (.str []), (.int .i64 0), (.sl .clip []), (.sl .clip []), (.sl .clip [])] false⟩])
 (.seq (.reg [⟨(some 7), none, .mov (.t 2)⟩,
  ⟨(some 8), none, .load (some 7) (.t 3)⟩,
  ⟨(some 9), none, .load (some 7) (.t 4)⟩,
  ⟨(some 10), none, .bslice [(.int .i64 0), (.int .i64 0), (.str []), (.int .i64 0), (.sl .clip []), (.sl .clip []), (.sl .clip [])] 2 [(0, (.t 8)), (1, (.t 9))]⟩,
  ⟨(some 11), none, .build [(.int .i64 0), (.int .i64 0), (.str []), (.int .i64 0), (.sl .clip []), (.sl .clip []), (.sl .clip [])] [(0, 1, (.c (.int .i64 5))), (1, 1, (.t 7)), (4, 1, (.t 10))]⟩,
  ⟨none, none, .store 7 (.t 6) (.t 11)⟩])
 .ret)),
  [.cell 6 (some 7)], false, true, 12⟩
theorem co98 : compF Tryz.prog ⟨[], [], [], [], [], [], 98, [], []⟩ false true Tryz.f98 = some ac98 := by kernel_rfl

/-- strings.FieldsFunc -/
def ac101 : AF := ⟨(.seq (.reg [⟨(some 4), none, .mov (.c (.sl .clip []))⟩])
 (.seq (.reg [⟨(some 12), none, .mkslice [(.int .i64 0), (.int .i64 0)] (.c (.int .i64 0)) (.c (.int .i64 32))⟩,
  ⟨(some 5), none, .mov (.t 12)⟩])
 (.seq (.reg [⟨(some 6), none, .mov (.c (.int .i64 (-1)))⟩])
 (.seq (.seq (.reg [⟨(some 13), none, .mov (.t 0)⟩,
  ⟨(some 14), none, .stuck⟩])
 (.block 0 (.loop [0, 1, 5, 6] [] (.seq (.reg [⟨(some 15), none, .stuck⟩,
  ⟨(some 16), none, .extract (.t 15) 0⟩])
 (.seq (.cond (.t 16) .skip
 (.exit 0))
 (.block 1 (.seq (.reg [⟨(some 17), none, .extract (.t 15) 1⟩,
  ⟨(some 18), none, .extract (.t 15) 2⟩,
  ⟨(some 7), none, .mov (.t 17)⟩,
  ⟨(some 8), none, .mov (.t 18)⟩])
 (.seq (.reg [⟨(some 19), none, .mov (.t 1)⟩,
  ⟨(some 20), none, .mov (.t 8)⟩,
  ⟨(some 21), none, .call 0 [] (.t 19) [(.t 20)]⟩])
 (.cond (.t 21) (.seq (.reg [⟨(some 22), none, .mov (.t 6)⟩,
  ⟨(some 23), none, .bin .geq (.t 22) (.c (.int .i64 0))⟩])
 (.cond (.t 23) (.seq (.reg [⟨(some 24), none, .mov (.t 5)⟩,
  ⟨(some 25), none, .mov (.t 6)⟩,
  ⟨(some 26), none, .mov (.t 7)⟩,
  ⟨(some 27), none, .build [(.int .i64 0), (.int .i64 0)] [(0, 1, (.t 25)), (1, 1, (.t 26))]⟩,
  ⟨(some 28), none, .bslice [(.int .i64 0), (.int .i64 0)] 1 [(0, (.t 27))]⟩,
  ⟨(some 29), none, .append 2 (.t 24) (.t 28)⟩,
  ⟨(some 5), none, .mov (.t 29)⟩])
 (.reg [⟨(some 30), none, .mov (.t 6)⟩,
  ⟨(some 31), none, .stuck⟩,
  ⟨(some 6), none, .mov (.t 31)⟩]))
 .skip))
 (.seq (.reg [⟨(some 32), none, .mov (.t 6)⟩,
  ⟨(some 33), none, .bin .lss (.t 32) (.c (.int .i64 0))⟩])
 (.cond (.t 33) (.reg [⟨(some 34), none, .mov (.t 7)⟩,
  ⟨(some 6), none, .mov (.t 34)⟩])
 .skip)))))))))))
 (.seq (.seq (.reg [⟨(some 35), none, .mov (.t 6)⟩,
  ⟨(some 36), none, .bin .geq (.t 35) (.c (.int .i64 0))⟩])
 (.cond (.t 36) (.reg [⟨(some 37), none, .mov (.t 5)⟩,
  ⟨(some 38), none, .mov (.t 6)⟩,
  ⟨(some 39), none, .mov (.t 0)⟩,
  ⟨(some 40), none, .len 0 (.t 39)⟩,
  ⟨(some 41), none, .build [(.int .i64 0), (.int .i64 0)] [(0, 1, (.t 38)), (1, 1, (.t 40))]⟩,
  ⟨(some 42), none, .bslice [(.int .i64 0), (.int .i64 0)] 1 [(0, (.t 41))]⟩,
  ⟨(some 43), none, .append 2 (.t 37) (.t 42)⟩,
  ⟨(some 5), none, .mov (.t 43)⟩])
 .skip))
 (.seq (.reg [⟨(some 44), none, .mov (.t 5)⟩,
  ⟨(some 45), none, .len 1 (.t 44)⟩,
  ⟨(some 46), none, .mkslice [(.str [])] (.t 45) (.t 45)⟩,
  ⟨(some 9), none, .mov (.t 46)⟩])
 (.seq (.seq (.reg [⟨(some 47), none, .mov (.t 5)⟩,
  ⟨(some 48), none, .len 1 (.t 47)⟩,
  ⟨(some 49), none, .mov (.c (.int .i64 0))⟩])
 (.block 2 (.loop [0, 9, 47, 48, 49] [] (.seq (.reg [⟨(some 50), none, .bin .lss (.t 49) (.t 48)⟩])
 (.seq (.cond (.t 50) .skip
 (.exit 2))
 (.seq (.block 3 (.seq (.reg [⟨(some 51), none, .mov (.t 49)⟩,
  ⟨(some 52), none, .iaddr 2 (.t 47) (.t 49)⟩,
  ⟨(some 53), none, .load (some 2) (.t 52)⟩,
  ⟨(some 11), none, .alloc [(.int .i64 0), (.int .i64 0)] false⟩,
  ⟨(some 10), none, .mov (.t 51)⟩,
  ⟨none, none, .store 2 (.t 11) (.t 53)⟩])
 (.reg [⟨(some 54), none, .mov (.t 9)⟩,
  ⟨(some 55), none, .mov (.t 10)⟩,
  ⟨(some 56), none, .mov (.t 0)⟩,
  ⟨(some 57), none, .faddr 0 (.t 11)⟩,
  ⟨(some 58), none, .load none (.t 57)⟩,
  ⟨(some 59), none, .faddr 1 (.t 11)⟩,
  ⟨(some 60), none, .load none (.t 59)⟩,
  ⟨(some 61), none, .slice 0 (.t 56) (some (.t 58)) (some (.t 60)) none⟩,
  ⟨(some 62), none, .iaddr 1 (.t 54) (.t 55)⟩,
  ⟨none, none, .store 1 (.t 62) (.t 61)⟩])))
 (.reg [⟨(some 63), none, .bin .add (.t 49) (.c (.int .i64 1))⟩,
  ⟨(some 49), none, .mov (.t 63)⟩])))))))
 (.seq (.reg [⟨(some 64), none, .mov (.t 9)⟩,
  ⟨(some 4), none, .mov (.t 64)⟩])
 .ret)))))))),
  [.t 4], false, true, 65⟩
theorem co101 : compF Tryz.prog ⟨[], [(4, [0, 1, 5, 6], []), (16, [0, 9, 47, 48, 49], [])], [], [], [], [], 101, [], []⟩ false true Tryz.f101 = some ac101 := by kernel_rfl

/-- internal/strconv.small -/
def ac103 : AF := ⟨(.seq (.reg [⟨(some 2), none, .mov (.c (.str []))⟩])
 (.seq (.seq (.reg [⟨(some 3), none, .mov (.t 0)⟩,
  ⟨(some 4), none, .bin .lss (.t 3) (.c (.int .i64 10))⟩])
 (.cond (.t 4) (.seq (.reg [⟨(some 5), none, .mov (.t 0)⟩,
  ⟨(some 6), none, .mov (.t 0)⟩,
  ⟨(some 7), none, .bin .add (.t 6) (.c (.int .i64 1))⟩,
  ⟨(some 8), none, .slice 0 (.c (.str [48, 49, 50, 51, 52, 53, 54, 55, 56, 57, 97, 98, 99, 100, 101, 102, 103, 104, 105, 106, 107, 108, 109, 110, 111, 112, 113, 114, 115, 116, 117, 118, 119, 120, 121, 122])) (some (.t 5)) (some (.t 7)) none⟩,
  ⟨(some 2), none, .mov (.t 8)⟩])
 .ret)
 .skip))
 (.seq (.reg [⟨(some 9), none, .mov (.t 0)⟩,
  ⟨(some 10), none, .bin .mul (.t 9) (.c (.int .i64 2))⟩,
  ⟨(some 11), none, .mov (.t 0)⟩,
  ⟨(some 12), none, .bin .mul (.t 11) (.c (.int .i64 2))⟩,
  ⟨(some 13), none, .bin .add (.t 12) (.c (.int .i64 2))⟩,
  ⟨(some 14), none, .slice 0 (.c (.str [48, 48, 48, 49, 48, 50, 48, 51, 48, 52, 48, 53, 48, 54, 48, 55, 48, 56, 48, 57, 49, 48, 49, 49, 49, 50, 49, 51, 49, 52, 49, 53, 49, 54, 49, 55, 49, 56, 49, 57, 50, 48, 50, 49, 50, 50, 50, 51, 50, 52, 50, 53, 50, 54, 50, 55, 50, 56, 50, 57, 51, 48, 51, 49, 51, 50, 51, 51, 51, 52, 51, 53, 51, 54, 51, 55, 51, 56, 51, 57, 52, 48, 52, 49, 52, 50, 52, 51, 52, 52, 52, 53, 52, 54, 52, 55, 52, 56, 52, 57, 53, 48, 53, 49, 53, 50, 53, 51, 53, 52, 53, 53, 53, 54, 53, 55, 53, 56, 53, 57, 54, 48, 54, 49, 54, 50, 54, 51, 54, 52, 54, 53, 54, 54, 54, 55, 54, 56, 54, 57, 55, 48, 55, 49, 55, 50, 55, 51, 55, 52, 55, 53, 55, 54, 55, 55, 55, 56, 55, 57, 56, 48, 56, 49, 56, 50, 56, 51, 56, 52, 56, 53, 56, 54, 56, 55, 56, 56, 56, 57, 57, 48, 57, 49, 57, 50, 57, 51, 57, 52, 57, 53, 57, 54, 57, 55, 57, 56, 57, 57])) (some (.t 10)) (some (.t 13)) none⟩,
  ⟨(some 2), none, .mov (.t 14)⟩])
 .ret))),
  [.t 2], false, true, 15⟩
theorem co103 : compF Tryz.prog ⟨[], [], [], [], [], [], 103, [], []⟩ false true Tryz.f103 = some ac103 := by kernel_rfl

/-- internal/strconv.numDigits -/
def ac104 : AF := ⟨(.seq (.reg [⟨(some 2), none, .mov (.c (.int .i64 0))⟩])
 (.seq (.reg [⟨(some 4), none, .mov (.t 0)⟩,
  ⟨(some 5), none, .call 0 [] (.c (.fn 112 [])) [(.t 4)]⟩,
  ⟨(some 6), none, .call 0 [] (.c (.fn 111 [])) [(.t 5)]⟩,
  ⟨(some 3), none, .mov (.t 6)⟩])
 (.seq (.reg [⟨(some 7), none, .mov (.t 3)⟩,
  ⟨(some 8), none, .mov (.t 0)⟩,
  ⟨(some 9), none, .mov (.t 3)⟩,
  ⟨(some 10), none, .stuck⟩,
  ⟨(some 11), none, .load none (.t 10)⟩,
  ⟨(some 12), none, .bin .geq (.t 8) (.t 11)⟩,
  ⟨(some 13), none, .call 0 [] (.c (.fn 113 [])) [(.t 12)]⟩,
  ⟨(some 14), none, .bin .add (.t 7) (.t 13)⟩,
  ⟨(some 2), none, .mov (.t 14)⟩])
 .ret))),
  [.t 2], false, true, 15⟩
theorem co104 : compF Tryz.prog ⟨[], [], [], [], [], [], 104, [], []⟩ false true Tryz.f104 = some ac104 := by kernel_rfl

/-- internal/strconv.formatBase10 -/
def ac105 : AF := ⟨(.seq (.reg [⟨(some 17), none, .mov (.t 0)⟩,
  ⟨(some 18), none, .len 1 (.t 17)⟩,
  ⟨(some 4), none, .mov (.t 18)⟩])
 (.seq (.block 0 (.loop [0, 1, 4] [] (.seq (.seq (.reg [⟨(some 19), none, .mov (.t 4)⟩,
  ⟨(some 20), none, .bin .geq (.t 19) (.c (.int .i64 8))⟩])
 (.cond (.t 20) .skip
 (.exit 0)))
 (.block 1 (.seq (.reg [⟨(some 21), none, .mov (.t 1)⟩,
  ⟨(some 22), none, .bin .rem (.t 21) (.c (.int .u64 100000000))⟩,
  ⟨(some 23), none, .conv (.int .u32) (.t 22)⟩,
  ⟨(some 5), none, .mov (.t 23)⟩])
 (.seq (.reg [⟨(some 24), none, .mov (.t 1)⟩,
  ⟨(some 25), none, .bin .quo (.t 24) (.c (.int .u64 100000000))⟩,
  ⟨(some 1), none, .mov (.t 25)⟩])
 (.seq (.reg [⟨(some 26), none, .mov (.t 5)⟩,
  ⟨(some 27), none, .bin .quo (.t 26) (.c (.int .u32 10000))⟩,
  ⟨(some 28), none, .mov (.t 5)⟩,
  ⟨(some 29), none, .bin .rem (.t 28) (.c (.int .u32 10000))⟩,
  ⟨(some 6), none, .mov (.t 27)⟩,
  ⟨(some 7), none, .mov (.t 29)⟩])
 (.seq (.reg [⟨(some 30), none, .mov (.t 7)⟩,
  ⟨(some 31), none, .bin .quo (.t 30) (.c (.int .u32 100))⟩,
  ⟨(some 32), none, .bin .mul (.t 31) (.c (.int .u32 2))⟩,
  ⟨(some 33), none, .mov (.t 7)⟩,
  ⟨(some 34), none, .bin .rem (.t 33) (.c (.int .u32 100))⟩,
  ⟨(some 35), none, .bin .mul (.t 34) (.c (.int .u32 2))⟩,
  ⟨(some 8), none, .mov (.t 32)⟩,
  ⟨(some 9), none, .mov (.t 35)⟩])
 (.seq (.reg [⟨(some 36), none, .mov (.t 6)⟩,
  ⟨(some 37), none, .bin .quo (.t 36) (.c (.int .u32 100))⟩,
  ⟨(some 38), none, .bin .mul (.t 37) (.c (.int .u32 2))⟩,
  ⟨(some 39), none, .mov (.t 6)⟩,
  ⟨(some 40), none, .bin .rem (.t 39) (.c (.int .u32 100))⟩,
  ⟨(some 41), none, .bin .mul (.t 40) (.c (.int .u32 2))⟩,
  ⟨(some 10), none, .mov (.t 38)⟩,
  ⟨(some 11), none, .mov (.t 41)⟩])
 (.seq (.reg [⟨(some 42), none, .mov (.t 0)⟩,
  ⟨(some 43), none, .mov (.t 4)⟩,
  ⟨(some 44), none, .bin .sub (.t 43) (.c (.int .i64 1))⟩,
  ⟨(some 45), none, .mov (.t 0)⟩,
  ⟨(some 46), none, .mov (.t 4)⟩,
  ⟨(some 47), none, .bin .sub (.t 46) (.c (.int .i64 2))⟩,
  ⟨(some 48), none, .mov (.t 9)⟩,
  ⟨(some 49), none, .bin .add (.t 48) (.c (.int .u32 1))⟩,
  ⟨(some 50), none, .sindex (.c (.str [48, 48, 48, 49, 48, 50, 48, 51, 48, 52, 48, 53, 48, 54, 48, 55, 48, 56, 48, 57, 49, 48, 49, 49, 49, 50, 49, 51, 49, 52, 49, 53, 49, 54, 49, 55, 49, 56, 49, 57, 50, 48, 50, 49, 50, 50, 50, 51, 50, 52, 50, 53, 50, 54, 50, 55, 50, 56, 50, 57, 51, 48, 51, 49, 51, 50, 51, 51, 51, 52, 51, 53, 51, 54, 51, 55, 51, 56, 51, 57, 52, 48, 52, 49, 52, 50, 52, 51, 52, 52, 52, 53, 52, 54, 52, 55, 52, 56, 52, 57, 53, 48, 53, 49, 53, 50, 53, 51, 53, 52, 53, 53, 53, 54, 53, 55, 53, 56, 53, 57, 54, 48, 54, 49, 54, 50, 54, 51, 54, 52, 54, 53, 54, 54, 54, 55, 54, 56, 54, 57, 55, 48, 55, 49, 55, 50, 55, 51, 55, 52, 55, 53, 55, 54, 55, 55, 55, 56, 55, 57, 56, 48, 56, 49, 56, 50, 56, 51, 56, 52, 56, 53, 56, 54, 56, 55, 56, 56, 56, 57, 57, 48, 57, 49, 57, 50, 57, 51, 57, 52, 57, 53, 57, 54, 57, 55, 57, 56, 57, 57])) (.t 49)⟩,
  ⟨(some 51), none, .mov (.t 9)⟩,
  ⟨(some 52), none, .sindex (.c (.str [48, 48, 48, 49, 48, 50, 48, 51, 48, 52, 48, 53, 48, 54, 48, 55, 48, 56, 48, 57, 49, 48, 49, 49, 49, 50, 49, 51, 49, 52, 49, 53, 49, 54, 49, 55, 49, 56, 49, 57, 50, 48, 50, 49, 50, 50, 50, 51, 50, 52, 50, 53, 50, 54, 50, 55, 50, 56, 50, 57, 51, 48, 51, 49, 51, 50, 51, 51, 51, 52, 51, 53, 51, 54, 51, 55, 51, 56, 51, 57, 52, 48, 52, 49, 52, 50, 52, 51, 52, 52, 52, 53, 52, 54, 52, 55, 52, 56, 52, 57, 53, 48, 53, 49, 53, 50, 53, 51, 53, 52, 53, 53, 53, 54, 53, 55, 53, 56, 53, 57, 54, 48, 54, 49, 54, 50, 54, 51, 54, 52, 54, 53, 54, 54, 54, 55, 54, 56, 54, 57, 55, 48, 55, 49, 55, 50, 55, 51, 55, 52, 55, 53, 55, 54, 55, 55, 55, 56, 55, 57, 56, 48, 56, 49, 56, 50, 56, 51, 56, 52, 56, 53, 56, 54, 56, 55, 56, 56, 56, 57, 57, 48, 57, 49, 57, 50, 57, 51, 57, 52, 57, 53, 57, 54, 57, 55, 57, 56, 57, 57])) (.t 51)⟩,
  ⟨(some 53), none, .iaddr 1 (.t 42) (.t 44)⟩,
  ⟨none, none, .store 1 (.t 53) (.t 50)⟩,
  ⟨(some 54), none, .iaddr 1 (.t 45) (.t 47)⟩,
  ⟨none, none, .store 1 (.t 54) (.t 52)⟩])
 (.seq (.reg [⟨(some 55), none, .mov (.t 0)⟩,
  ⟨(some 56), none, .mov (.t 4)⟩,
  ⟨(some 57), none, .bin .sub (.t 56) (.c (.int .i64 3))⟩,
  ⟨(some 58), none, .mov (.t 0)⟩,
  ⟨(some 59), none, .mov (.t 4)⟩,
  ⟨(some 60), none, .bin .sub (.t 59) (.c (.int .i64 4))⟩,
  ⟨(some 61), none, .mov (.t 8)⟩,
  ⟨(some 62), none, .bin .add (.t 61) (.c (.int .u32 1))⟩,
  ⟨(some 63), none, .sindex (.c (.str [48, 48, 48, 49, 48, 50, 48, 51, 48, 52, 48, 53, 48, 54, 48, 55, 48, 56, 48, 57, 49, 48, 49, 49, 49, 50, 49, 51, 49, 52, 49, 53, 49, 54, 49, 55, 49, 56, 49, 57, 50, 48, 50, 49, 50, 50, 50, 51, 50, 52, 50, 53, 50, 54, 50, 55, 50, 56, 50, 57, 51, 48, 51, 49, 51, 50, 51, 51, 51, 52, 51, 53, 51, 54, 51, 55, 51, 56, 51, 57, 52, 48, 52, 49, 52, 50, 52, 51, 52, 52, 52, 53, 52, 54, 52, 55, 52, 56, 52, 57, 53, 48, 53, 49, 53, 50, 53, 51, 53, 52, 53, 53, 53, 54, 53, 55, 53, 56, 53, 57, 54, 48, 54, 49, 54, 50, 54, 51, 54, 52, 54, 53, 54, 54, 54, 55, 54, 56, 54, 57, 55, 48, 55, 49, 55, 50, 55, 51, 55, 52, 55, 53, 55, 54, 55, 55, 55, 56, 55, 57, 56, 48, 56, 49, 56, 50, 56, 51, 56, 52, 56, 53, 56, 54, 56, 55, 56, 56, 56, 57, 57, 48, 57, 49, 57, 50, 57, 51, 57, 52, 57, 53, 57, 54, 57, 55, 57, 56, 57, 57])) (.t 62)⟩,
  ⟨(some 64), none, .mov (.t 8)⟩,
  ⟨(some 65), none, .sindex (.c (.str [48, 48, 48, 49, 48, 50, 48, 51, 48, 52, 48, 53, 48, 54, 48, 55, 48, 56, 48, 57, 49, 48, 49, 49, 49, 50, 49, 51, 49, 52, 49, 53, 49, 54, 49, 55, 49, 56, 49, 57, 50, 48, 50, 49, 50, 50, 50, 51, 50, 52, 50, 53, 50, 54, 50, 55, 50, 56, 50, 57, 51, 48, 51, 49, 51, 50, 51, 51, 51, 52, 51, 53, 51, 54, 51, 55, 51, 56, 51, 57, 52, 48, 52, 49, 52, 50, 52, 51, 52, 52, 52, 53, 52, 54, 52, 55, 52, 56, 52, 57, 53, 48, 53, 49, 53, 50, 53, 51, 53, 52, 53, 53, 53, 54, 53, 55, 53, 56, 53, 57, 54, 48, 54, 49, 54, 50, 54, 51, 54, 52, 54, 53, 54, 54, 54, 55, 54, 56, 54, 57, 55, 48, 55, 49, 55, 50, 55, 51, 55, 52, 55, 53, 55, 54, 55, 55, 55, 56, 55, 57, 56, 48, 56, 49, 56, 50, 56, 51, 56, 52, 56, 53, 56, 54, 56, 55, 56, 56, 56, 57, 57, 48, 57, 49, 57, 50, 57, 51, 57, 52, 57, 53, 57, 54, 57, 55, 57, 56, 57, 57])) (.t 64)⟩,
  ⟨(some 66), none, .iaddr 1 (.t 55) (.t 57)⟩,
  ⟨none, none, .store 1 (.t 66) (.t 63)⟩,
  ⟨(some 67), none, .iaddr 1 (.t 58) (.t 60)⟩,
  ⟨none, none, .store 1 (.t 67) (.t 65)⟩])
 (.seq (.reg [⟨(some 68), none, .mov (.t 0)⟩,
  ⟨(some 69), none, .mov (.t 4)⟩,
  ⟨(some 70), none, .bin .sub (.t 69) (.c (.int .i64 5))⟩,
  ⟨(some 71), none, .mov (.t 0)⟩,
  ⟨(some 72), none, .mov (.t 4)⟩,
  ⟨(some 73), none, .bin .sub (.t 72) (.c (.int .i64 6))⟩,
  ⟨(some 74), none, .mov (.t 11)⟩,
  ⟨(some 75), none, .bin .add (.t 74) (.c (.int .u32 1))⟩,
  ⟨(some 76), none, .sindex (.c (.str [48, 48, 48, 49, 48, 50, 48, 51, 48, 52, 48, 53, 48, 54, 48, 55, 48, 56, 48, 57, 49, 48, 49, 49, 49, 50, 49, 51, 49, 52, 49, 53, 49, 54, 49, 55, 49, 56, 49, 57, 50, 48, 50, 49, 50, 50, 50, 51, 50, 52, 50, 53, 50, 54, 50, 55, 50, 56, 50, 57, 51, 48, 51, 49, 51, 50, 51, 51, 51, 52, 51, 53, 51, 54, 51, 55, 51, 56, 51, 57, 52, 48, 52, 49, 52, 50, 52, 51, 52, 52, 52, 53, 52, 54, 52, 55, 52, 56, 52, 57, 53, 48, 53, 49, 53, 50, 53, 51, 53, 52, 53, 53, 53, 54, 53, 55, 53, 56, 53, 57, 54, 48, 54, 49, 54, 50, 54, 51, 54, 52, 54, 53, 54, 54, 54, 55, 54, 56, 54, 57, 55, 48, 55, 49, 55, 50, 55, 51, 55, 52, 55, 53, 55, 54, 55, 55, 55, 56, 55, 57, 56, 48, 56, 49, 56, 50, 56, 51, 56, 52, 56, 53, 56, 54, 56, 55, 56, 56, 56, 57, 57, 48, 57, 49, 57, 50, 57, 51, 57, 52, 57, 53, 57, 54, 57, 55, 57, 56, 57, 57])) (.t 75)⟩,
  ⟨(some 77), none, .mov (.t 11)⟩,
  ⟨(some 78), none, .sindex (.c (.str [48, 48, 48, 49, 48, 50, 48, 51, 48, 52, 48, 53, 48, 54, 48, 55, 48, 56, 48, 57, 49, 48, 49, 49, 49, 50, 49, 51, 49, 52, 49, 53, 49, 54, 49, 55, 49, 56, 49, 57, 50, 48, 50, 49, 50, 50, 50, 51, 50, 52, 50, 53, 50, 54, 50, 55, 50, 56, 50, 57, 51, 48, 51, 49, 51, 50, 51, 51, 51, 52, 51, 53, 51, 54, 51, 55, 51, 56, 51, 57, 52, 48, 52, 49, 52, 50, 52, 51, 52, 52, 52, 53, 52, 54, 52, 55, 52, 56, 52, 57, 53, 48, 53, 49, 53, 50, 53, 51, 53, 52, 53, 53, 53, 54, 53, 55, 53, 56, 53, 57, 54, 48, 54, 49, 54, 50, 54, 51, 54, 52, 54, 53, 54, 54, 54, 55, 54, 56, 54, 57, 55, 48, 55, 49, 55, 50, 55, 51, 55, 52, 55, 53, 55, 54, 55, 55, 55, 56, 55, 57, 56, 48, 56, 49, 56, 50, 56, 51, 56, 52, 56, 53, 56, 54, 56, 55, 56, 56, 56, 57, 57, 48, 57, 49, 57, 50, 57, 51, 57, 52, 57, 53, 57, 54, 57, 55, 57, 56, 57, 57])) (.t 77)⟩,
  ⟨(some 79), none, .iaddr 1 (.t 68) (.t 70)⟩,
  ⟨none, none, .store 1 (.t 79) (.t 76)⟩,
  ⟨(some 80), none, .iaddr 1 (.t 71) (.t 73)⟩,
  ⟨none, none, .store 1 (.t 80) (.t 78)⟩])
 (.seq (.reg [⟨(some 81), none, .mov (.t 0)⟩,
  ⟨(some 82), none, .mov (.t 4)⟩,
  ⟨(some 83), none, .bin .sub (.t 82) (.c (.int .i64 7))⟩,
  ⟨(some 84), none, .mov (.t 0)⟩,
  ⟨(some 85), none, .mov (.t 4)⟩,
  ⟨(some 86), none, .bin .sub (.t 85) (.c (.int .i64 8))⟩,
  ⟨(some 87), none, .mov (.t 10)⟩,
  ⟨(some 88), none, .bin .add (.t 87) (.c (.int .u32 1))⟩,
  ⟨(some 89), none, .sindex (.c (.str [48, 48, 48, 49, 48, 50, 48, 51, 48, 52, 48, 53, 48, 54, 48, 55, 48, 56, 48, 57, 49, 48, 49, 49, 49, 50, 49, 51, 49, 52, 49, 53, 49, 54, 49, 55, 49, 56, 49, 57, 50, 48, 50, 49, 50, 50, 50, 51, 50, 52, 50, 53, 50, 54, 50, 55, 50, 56, 50, 57, 51, 48, 51, 49, 51, 50, 51, 51, 51, 52, 51, 53, 51, 54, 51, 55, 51, 56, 51, 57, 52, 48, 52, 49, 52, 50, 52, 51, 52, 52, 52, 53, 52, 54, 52, 55, 52, 56, 52, 57, 53, 48, 53, 49, 53, 50, 53, 51, 53, 52, 53, 53, 53, 54, 53, 55, 53, 56, 53, 57, 54, 48, 54, 49, 54, 50, 54, 51, 54, 52, 54, 53, 54, 54, 54, 55, 54, 56, 54, 57, 55, 48, 55, 49, 55, 50, 55, 51, 55, 52, 55, 53, 55, 54, 55, 55, 55, 56, 55, 57, 56, 48, 56, 49, 56, 50, 56, 51, 56, 52, 56, 53, 56, 54, 56, 55, 56, 56, 56, 57, 57, 48, 57, 49, 57, 50, 57, 51, 57, 52, 57, 53, 57, 54, 57, 55, 57, 56, 57, 57])) (.t 88)⟩,
  ⟨(some 90), none, .mov (.t 10)⟩,
  ⟨(some 91), none, .sindex (.c (.str [48, 48, 48, 49, 48, 50, 48, 51, 48, 52, 48, 53, 48, 54, 48, 55, 48, 56, 48, 57, 49, 48, 49, 49, 49, 50, 49, 51, 49, 52, 49, 53, 49, 54, 49, 55, 49, 56, 49, 57, 50, 48, 50, 49, 50, 50, 50, 51, 50, 52, 50, 53, 50, 54, 50, 55, 50, 56, 50, 57, 51, 48, 51, 49, 51, 50, 51, 51, 51, 52, 51, 53, 51, 54, 51, 55, 51, 56, 51, 57, 52, 48, 52, 49, 52, 50, 52, 51, 52, 52, 52, 53, 52, 54, 52, 55, 52, 56, 52, 57, 53, 48, 53, 49, 53, 50, 53, 51, 53, 52, 53, 53, 53, 54, 53, 55, 53, 56, 53, 57, 54, 48, 54, 49, 54, 50, 54, 51, 54, 52, 54, 53, 54, 54, 54, 55, 54, 56, 54, 57, 55, 48, 55, 49, 55, 50, 55, 51, 55, 52, 55, 53, 55, 54, 55, 55, 55, 56, 55, 57, 56, 48, 56, 49, 56, 50, 56, 51, 56, 52, 56, 53, 56, 54, 56, 55, 56, 56, 56, 57, 57, 48, 57, 49, 57, 50, 57, 51, 57, 52, 57, 53, 57, 54, 57, 55, 57, 56, 57, 57])) (.t 90)⟩,
  ⟨(some 92), none, .iaddr 1 (.t 81) (.t 83)⟩,
  ⟨none, none, .store 1 (.t 92) (.t 89)⟩,
  ⟨(some 93), none, .iaddr 1 (.t 84) (.t 86)⟩,
  ⟨none, none, .store 1 (.t 93) (.t 91)⟩])
 (.reg [⟨(some 94), none, .mov (.t 4)⟩,
  ⟨(some 95), none, .bin .sub (.t 94) (.c (.int .i64 8))⟩,
  ⟨(some 4), none, .mov (.t 95)⟩]))))))))))))))
 (.seq (.reg [⟨(some 96), none, .mov (.t 1)⟩,
  ⟨(some 97), none, .conv (.int .u32) (.t 96)⟩,
  ⟨(some 12), none, .mov (.t 97)⟩])
 (.seq (.seq (.reg [⟨(some 98), none, .mov (.t 4)⟩,
  ⟨(some 99), none, .bin .geq (.t 98) (.c (.int .i64 4))⟩])
 (.cond (.t 99) (.seq (.reg [⟨(some 100), none, .mov (.t 12)⟩,
  ⟨(some 101), none, .bin .rem (.t 100) (.c (.int .u32 10000))⟩,
  ⟨(some 13), none, .mov (.t 101)⟩])
 (.seq (.reg [⟨(some 102), none, .mov (.t 12)⟩,
  ⟨(some 103), none, .bin .quo (.t 102) (.c (.int .u32 10000))⟩,
  ⟨(some 12), none, .mov (.t 103)⟩])
 (.seq (.reg [⟨(some 104), none, .mov (.t 13)⟩,
  ⟨(some 105), none, .bin .quo (.t 104) (.c (.int .u32 100))⟩,
  ⟨(some 106), none, .bin .mul (.t 105) (.c (.int .u32 2))⟩,
  ⟨(some 107), none, .mov (.t 13)⟩,
  ⟨(some 108), none, .bin .rem (.t 107) (.c (.int .u32 100))⟩,
  ⟨(some 109), none, .bin .mul (.t 108) (.c (.int .u32 2))⟩,
  ⟨(some 14), none, .mov (.t 106)⟩,
  ⟨(some 15), none, .mov (.t 109)⟩])
 (.seq (.reg [⟨(some 110), none, .mov (.t 0)⟩,
  ⟨(some 111), none, .mov (.t 4)⟩,
  ⟨(some 112), none, .bin .sub (.t 111) (.c (.int .i64 1))⟩,
  ⟨(some 113), none, .mov (.t 0)⟩,
  ⟨(some 114), none, .mov (.t 4)⟩,
  ⟨(some 115), none, .bin .sub (.t 114) (.c (.int .i64 2))⟩,
  ⟨(some 116), none, .mov (.t 15)⟩,
  ⟨(some 117), none, .bin .add (.t 116) (.c (.int .u32 1))⟩,
  ⟨(some 118), none, .sindex (.c (.str [48, 48, 48, 49, 48, 50, 48, 51, 48, 52, 48, 53, 48, 54, 48, 55, 48, 56, 48, 57, 49, 48, 49, 49, 49, 50, 49, 51, 49, 52, 49, 53, 49, 54, 49, 55, 49, 56, 49, 57, 50, 48, 50, 49, 50, 50, 50, 51, 50, 52, 50, 53, 50, 54, 50, 55, 50, 56, 50, 57, 51, 48, 51, 49, 51, 50, 51, 51, 51, 52, 51, 53, 51, 54, 51, 55, 51, 56, 51, 57, 52, 48, 52, 49, 52, 50, 52, 51, 52, 52, 52, 53, 52, 54, 52, 55, 52, 56, 52, 57, 53, 48, 53, 49, 53, 50, 53, 51, 53, 52, 53, 53, 53, 54, 53, 55, 53, 56, 53, 57, 54, 48, 54, 49, 54, 50, 54, 51, 54, 52, 54, 53, 54, 54, 54, 55, 54, 56, 54, 57, 55, 48, 55, 49, 55, 50, 55, 51, 55, 52, 55, 53, 55, 54, 55, 55, 55, 56, 55, 57, 56, 48, 56, 49, 56, 50, 56, 51, 56, 52, 56, 53, 56, 54, 56, 55, 56, 56, 56, 57, 57, 48, 57, 49, 57, 50, 57, 51, 57, 52, 57, 53, 57, 54, 57, 55, 57, 56, 57, 57])) (.t 117)⟩,
  ⟨(some 119), none, .mov (.t 15)⟩,
  ⟨(some 120), none, .sindex (.c (.str [48, 48, 48, 49, 48, 50, 48, 51, 48, 52, 48, 53, 48, 54, 48, 55, 48, 56, 48, 57, 49, 48, 49, 49, 49, 50, 49, 51, 49, 52, 49, 53, 49, 54, 49, 55, 49, 56, 49, 57, 50, 48, 50, 49, 50, 50, 50, 51, 50, 52, 50, 53, 50, 54, 50, 55, 50, 56, 50, 57, 51, 48, 51, 49, 51, 50, 51, 51, 51, 52, 51, 53, 51, 54, 51, 55, 51, 56, 51, 57, 52, 48, 52, 49, 52, 50, 52, 51, 52, 52, 52, 53, 52, 54, 52, 55, 52, 56, 52, 57, 53, 48, 53, 49, 53, 50, 53, 51, 53, 52, 53, 53, 53, 54, 53, 55, 53, 56, 53, 57, 54, 48, 54, 49, 54, 50, 54, 51, 54, 52, 54, 53, 54, 54, 54, 55, 54, 56, 54, 57, 55, 48, 55, 49, 55, 50, 55, 51, 55, 52, 55, 53, 55, 54, 55, 55, 55, 56, 55, 57, 56, 48, 56, 49, 56, 50, 56, 51, 56, 52, 56, 53, 56, 54, 56, 55, 56, 56, 56, 57, 57, 48, 57, 49, 57, 50, 57, 51, 57, 52, 57, 53, 57, 54, 57, 55, 57, 56, 57, 57])) (.t 119)⟩,
  ⟨(some 121), none, .iaddr 1 (.t 110) (.t 112)⟩,
  ⟨none, none, .store 1 (.t 121) (.t 118)⟩,
  ⟨(some 122), none, .iaddr 1 (.t 113) (.t 115)⟩,
  ⟨none, none, .store 1 (.t 122) (.t 120)⟩])
 (.seq (.reg [⟨(some 123), none, .mov (.t 0)⟩,
  ⟨(some 124), none, .mov (.t 4)⟩,
  ⟨(some 125), none, .bin .sub (.t 124) (.c (.int .i64 3))⟩,
  ⟨(some 126), none, .mov (.t 0)⟩,
  ⟨(some 127), none, .mov (.t 4)⟩,
  ⟨(some 128), none, .bin .sub (.t 127) (.c (.int .i64 4))⟩,
  ⟨(some 129), none, .mov (.t 14)⟩,
  ⟨(some 130), none, .bin .add (.t 129) (.c (.int .u32 1))⟩,
  ⟨(some 131), none, .sindex (.c (.str [48, 48, 48, 49, 48, 50, 48, 51, 48, 52, 48, 53, 48, 54, 48, 55, 48, 56, 48, 57, 49, 48, 49, 49, 49, 50, 49, 51, 49, 52, 49, 53, 49, 54, 49, 55, 49, 56, 49, 57, 50, 48, 50, 49, 50, 50, 50, 51, 50, 52, 50, 53, 50, 54, 50, 55, 50, 56, 50, 57, 51, 48, 51, 49, 51, 50, 51, 51, 51, 52, 51, 53, 51, 54, 51, 55, 51, 56, 51, 57, 52, 48, 52, 49, 52, 50, 52, 51, 52, 52, 52, 53, 52, 54, 52, 55, 52, 56, 52, 57, 53, 48, 53, 49, 53, 50, 53, 51, 53, 52, 53, 53, 53, 54, 53, 55, 53, 56, 53, 57, 54, 48, 54, 49, 54, 50, 54, 51, 54, 52, 54, 53, 54, 54, 54, 55, 54, 56, 54, 57, 55, 48, 55, 49, 55, 50, 55, 51, 55, 52, 55, 53, 55, 54, 55, 55, 55, 56, 55, 57, 56, 48, 56, 49, 56, 50, 56, 51, 56, 52, 56, 53, 56, 54, 56, 55, 56, 56, 56, 57, 57, 48, 57, 49, 57, 50, 57, 51, 57, 52, 57, 53, 57, 54, 57, 55, 57, 56, 57, 57])) (.t 130)⟩,
  ⟨(some 132), none, .mov (.t 14)⟩,
  ⟨(some 133), none, .sindex (.c (.str [48, 48, 48, 49, 48, 50, 48, 51, 48, 52, 48, 53, 48, 54, 48, 55, 48, 56, 48, 57, 49, 48, 49, 49, 49, 50, 49, 51, 49, 52, 49, 53, 49, 54, 49, 55, 49, 56, 49, 57, 50, 48, 50, 49, 50, 50, 50, 51, 50, 52, 50, 53, 50, 54, 50, 55, 50, 56, 50, 57, 51, 48, 51, 49, 51, 50, 51, 51, 51, 52, 51, 53, 51, 54, 51, 55, 51, 56, 51, 57, 52, 48, 52, 49, 52, 50, 52, 51, 52, 52, 52, 53, 52, 54, 52, 55, 52, 56, 52, 57, 53, 48, 53, 49, 53, 50, 53, 51, 53, 52, 53, 53, 53, 54, 53, 55, 53, 56, 53, 57, 54, 48, 54, 49, 54, 50, 54, 51, 54, 52, 54, 53, 54, 54, 54, 55, 54, 56, 54, 57, 55, 48, 55, 49, 55, 50, 55, 51, 55, 52, 55, 53, 55, 54, 55, 55, 55, 56, 55, 57, 56, 48, 56, 49, 56, 50, 56, 51, 56, 52, 56, 53, 56, 54, 56, 55, 56, 56, 56, 57, 57, 48, 57, 49, 57, 50, 57, 51, 57, 52, 57, 53, 57, 54, 57, 55, 57, 56, 57, 57])) (.t 132)⟩,
  ⟨(some 134), none, .iaddr 1 (.t 123) (.t 125)⟩,
  ⟨none, none, .store 1 (.t 134) (.t 131)⟩,
  ⟨(some 135), none, .iaddr 1 (.t 126) (.t 128)⟩,
  ⟨none, none, .store 1 (.t 135) (.t 133)⟩])
 (.reg [⟨(some 136), none, .mov (.t 4)⟩,
  ⟨(some 137), none, .bin .sub (.t 136) (.c (.int .i64 4))⟩,
  ⟨(some 4), none, .mov (.t 137)⟩]))))))
 .skip))
 (.seq (.seq (.reg [⟨(some 138), none, .mov (.t 4)⟩,
  ⟨(some 139), none, .bin .geq (.t 138) (.c (.int .i64 2))⟩])
 (.cond (.t 139) (.seq (.reg [⟨(some 140), none, .mov (.t 12)⟩,
  ⟨(some 141), none, .bin .rem (.t 140) (.c (.int .u32 100))⟩,
  ⟨(some 142), none, .bin .mul (.t 141) (.c (.int .u32 2))⟩,
  ⟨(some 16), none, .mov (.t 142)⟩])
 (.seq (.reg [⟨(some 143), none, .mov (.t 12)⟩,
  ⟨(some 144), none, .bin .quo (.t 143) (.c (.int .u32 100))⟩,
  ⟨(some 12), none, .mov (.t 144)⟩])
 (.seq (.reg [⟨(some 145), none, .mov (.t 0)⟩,
  ⟨(some 146), none, .mov (.t 4)⟩,
  ⟨(some 147), none, .bin .sub (.t 146) (.c (.int .i64 1))⟩,
  ⟨(some 148), none, .mov (.t 0)⟩,
  ⟨(some 149), none, .mov (.t 4)⟩,
  ⟨(some 150), none, .bin .sub (.t 149) (.c (.int .i64 2))⟩,
  ⟨(some 151), none, .mov (.t 16)⟩,
  ⟨(some 152), none, .bin .add (.t 151) (.c (.int .u32 1))⟩,
  ⟨(some 153), none, .sindex (.c (.str [48, 48, 48, 49, 48, 50, 48, 51, 48, 52, 48, 53, 48, 54, 48, 55, 48, 56, 48, 57, 49, 48, 49, 49, 49, 50, 49, 51, 49, 52, 49, 53, 49, 54, 49, 55, 49, 56, 49, 57, 50, 48, 50, 49, 50, 50, 50, 51, 50, 52, 50, 53, 50, 54, 50, 55, 50, 56, 50, 57, 51, 48, 51, 49, 51, 50, 51, 51, 51, 52, 51, 53, 51, 54, 51, 55, 51, 56, 51, 57, 52, 48, 52, 49, 52, 50, 52, 51, 52, 52, 52, 53, 52, 54, 52, 55, 52, 56, 52, 57, 53, 48, 53, 49, 53, 50, 53, 51, 53, 52, 53, 53, 53, 54, 53, 55, 53, 56, 53, 57, 54, 48, 54, 49, 54, 50, 54, 51, 54, 52, 54, 53, 54, 54, 54, 55, 54, 56, 54, 57, 55, 48, 55, 49, 55, 50, 55, 51, 55, 52, 55, 53, 55, 54, 55, 55, 55, 56, 55, 57, 56, 48, 56, 49, 56, 50, 56, 51, 56, 52, 56, 53, 56, 54, 56, 55, 56, 56, 56, 57, 57, 48, 57, 49, 57, 50, 57, 51, 57, 52, 57, 53, 57, 54, 57, 55, 57, 56, 57, 57])) (.t 152)⟩,
  ⟨(some 154), none, .mov (.t 16)⟩,
  ⟨(some 155), none, .sindex (.c (.str [48, 48, 48, 49, 48, 50, 48, 51, 48, 52, 48, 53, 48, 54, 48, 55, 48, 56, 48, 57, 49, 48, 49, 49, 49, 50, 49, 51, 49, 52, 49, 53, 49, 54, 49, 55, 49, 56, 49, 57, 50, 48, 50, 49, 50, 50, 50, 51, 50, 52, 50, 53, 50, 54, 50, 55, 50, 56, 50, 57, 51, 48, 51, 49, 51, 50, 51, 51, 51, 52, 51, 53, 51, 54, 51, 55, 51, 56, 51, 57, 52, 48, 52, 49, 52, 50, 52, 51, 52, 52, 52, 53, 52, 54, 52, 55, 52, 56, 52, 57, 53, 48, 53, 49, 53, 50, 53, 51, 53, 52, 53, 53, 53, 54, 53, 55, 53, 56, 53, 57, 54, 48, 54, 49, 54, 50, 54, 51, 54, 52, 54, 53, 54, 54, 54, 55, 54, 56, 54, 57, 55, 48, 55, 49, 55, 50, 55, 51, 55, 52, 55, 53, 55, 54, 55, 55, 55, 56, 55, 57, 56, 48, 56, 49, 56, 50, 56, 51, 56, 52, 56, 53, 56, 54, 56, 55, 56, 56, 56, 57, 57, 48, 57, 49, 57, 50, 57, 51, 57, 52, 57, 53, 57, 54, 57, 55, 57, 56, 57, 57])) (.t 154)⟩,
  ⟨(some 156), none, .iaddr 1 (.t 145) (.t 147)⟩,
  ⟨none, none, .store 1 (.t 156) (.t 153)⟩,
  ⟨(some 157), none, .iaddr 1 (.t 148) (.t 150)⟩,
  ⟨none, none, .store 1 (.t 157) (.t 155)⟩])
 (.reg [⟨(some 158), none, .mov (.t 4)⟩,
  ⟨(some 159), none, .bin .sub (.t 158) (.c (.int .i64 2))⟩,
  ⟨(some 4), none, .mov (.t 159)⟩]))))
 .skip))
 (.seq (.reg [⟨(some 160), none, .mov (.t 4)⟩,
  ⟨(some 161), none, .bin .gtr (.t 160) (.c (.int .i64 0))⟩])
 (.cond (.t 161) (.reg [⟨(some 162), none, .mov (.t 0)⟩,
  ⟨(some 163), none, .mov (.t 12)⟩,
  ⟨(some 164), none, .bin .add (.c (.int .u32 48)) (.t 163)⟩,
  ⟨(some 165), none, .conv (.int .u8) (.t 164)⟩,
  ⟨(some 166), none, .iaddr 1 (.t 162) (.c (.int .i64 0))⟩,
  ⟨none, none, .store 1 (.t 166) (.t 165)⟩])
 .skip))))))),
  [], false, true, 167⟩
theorem co105 : compF Tryz.prog ⟨[], [(1, [0, 1, 4], [])], [], [], [], [], 105, [], []⟩ false true Tryz.f105 = some ac105 := by kernel_rfl

/-- internal/strconv.formatBits -/
def ac106 : AF := ⟨(.seq (.reg [⟨(some 10), none, .mov (.c (.sl .clip []))⟩,
  ⟨(some 11), none, .mov (.c (.str []))⟩])
 (.seq (.seq (.reg [⟨(some 19), none, .mov (.t 2)⟩,
  ⟨(some 20), none, .bin .lss (.t 19) (.c (.int .i64 2))⟩,
  ⟨(some 21), none, .mov (.t 20)⟩,
  ⟨(some 22), (some (21, false)), .mov (.t 2)⟩,
  ⟨(some 23), (some (21, false)), .bin .eql (.t 22) (.c (.int .i64 10))⟩,
  ⟨(some 24), none, .pick (.t 21) (.c (.bool true)) (.t 23)⟩,
  ⟨(some 25), none, .mov (.t 24)⟩,
  ⟨(some 26), (some (25, false)), .mov (.t 2)⟩,
  ⟨(some 27), (some (25, false)), .bin .gtr (.t 26) (.c (.int .i64 36))⟩,
  ⟨(some 28), none, .pick (.t 25) (.c (.bool true)) (.t 27)⟩])
 (.cond (.t 28) (.reg [⟨(some 29), none, .mkif 9 (.c (.str [115, 116, 114, 99, 111, 110, 118, 58, 32, 105, 108, 108, 101, 103, 97, 108, 32, 65, 112, 112, 101, 110, 100, 73, 110, 116, 47, 70, 111, 114, 109, 97, 116, 73, 110, 116, 32, 98, 97, 115, 101]))⟩,
  ⟨none, none, .stuck⟩])
 .skip))
 (.seq (.reg [⟨(some 12), none, .alloc [(.int .u8 0), (.int .u8 0), (.int .u8 0), (.int .u8 0), (.int .u8 0), (.int .u8 0), (.int .u8 0), (.int .u8 0), (.int .u8 0), (.int .u8 0), (.int .u8 0), (.int .u8 0), (.int .u8 0), (.int .u8 0), (.int .u8 0), (.int .u8 0), (.int .u8 0), (.int .u8 0), (.int .u8 0), (.int .u8 0), (.int .u8 0), (.int .u8 0), (.int .u8 0), (.int .u8 0), (.int .u8 0), (.int .u8 0), (.int .u8 0), (.int .u8 0), (.int .u8 0), (.int .u8 0), (.int .u8 0), (.int .u8 0), (.int .u8 0), (.int .u8 0), (.int .u8 0), (.int .u8 0), (.int .u8 0), (.int .u8 0), (.int .u8 0), (.int .u8 0), (.int .u8 0), (.int .u8 0), (.int .u8 0), (.int .u8 0), (.int .u8 0), (.int .u8 0), (.int .u8 0), (.int .u8 0), (.int .u8 0), (.int .u8 0), (.int .u8 0), (.int .u8 0), (.int .u8 0), (.int .u8 0), (.int .u8 0), (.int .u8 0), (.int .u8 0), (.int .u8 0), (.int .u8 0), (.int .u8 0), (.int .u8 0), (.int .u8 0), (.int .u8 0), (.int .u8 0), (.int .u8 0)] false⟩])
 (.seq (.reg [⟨(some 13), none, .mov (.c (.int .i64 65))⟩])
 (.seq (.seq (.reg [⟨(some 30), none, .mov (.t 3)⟩])
 (.cond (.t 30) (.reg [⟨(some 31), none, .mov (.t 1)⟩,
  ⟨(some 32), none, .neg (.t 31)⟩,
  ⟨(some 1), none, .mov (.t 32)⟩])
 .skip))
 (.seq (.seq (.reg [⟨(some 33), none, .mov (.t 2)⟩,
  ⟨(some 34), none, .call 0 [] (.c (.fn 114 [])) [(.t 33)]⟩])
 (.cond (.t 34) (.seq (.reg [⟨(some 35), none, .mov (.t 2)⟩,
  ⟨(some 36), none, .conv (.int .u64) (.t 35)⟩,
  ⟨(some 37), none, .call 0 [] (.c (.fn 115 [])) [(.t 36)]⟩,
  ⟨(some 38), none, .conv (.int .u64) (.t 37)⟩,
  ⟨(some 14), none, .mov (.t 38)⟩])
 (.seq (.reg [⟨(some 39), none, .mov (.t 2)⟩,
  ⟨(some 40), none, .conv (.int .u64) (.t 39)⟩,
  ⟨(some 15), none, .mov (.t 40)⟩])
 (.seq (.reg [⟨(some 41), none, .mov (.t 2)⟩,
  ⟨(some 42), none, .conv (.int .u64) (.t 41)⟩,
  ⟨(some 43), none, .bin .sub (.t 42) (.c (.int .u64 1))⟩,
  ⟨(some 16), none, .mov (.t 43)⟩])
 (.seq (.block 0 (.loop [0, 1, 3, 4, 10, 11, 13, 14, 15, 16] [] (.seq (.seq (.reg [⟨(some 44), none, .mov (.t 1)⟩,
  ⟨(some 45), none, .mov (.t 15)⟩,
  ⟨(some 46), none, .bin .geq (.t 44) (.t 45)⟩])
 (.cond (.t 46) .skip
 (.exit 0)))
 (.block 1 (.seq (.reg [⟨(some 47), none, .mov (.t 13)⟩,
  ⟨(some 48), none, .bin .sub (.t 47) (.c (.int .i64 1))⟩,
  ⟨(some 13), none, .mov (.t 48)⟩])
 (.seq (.reg [⟨(some 49), none, .mov (.t 13)⟩,
  ⟨(some 50), none, .mov (.t 1)⟩,
  ⟨(some 51), none, .mov (.t 16)⟩,
  ⟨(some 52), none, .bin .and (.t 50) (.t 51)⟩,
  ⟨(some 53), none, .sindex (.c (.str [48, 49, 50, 51, 52, 53, 54, 55, 56, 57, 97, 98, 99, 100, 101, 102, 103, 104, 105, 106, 107, 108, 109, 110, 111, 112, 113, 114, 115, 116, 117, 118, 119, 120, 121, 122])) (.t 52)⟩,
  ⟨(some 54), none, .stuck⟩,
  ⟨none, none, .store 1 (.t 54) (.t 53)⟩])
 (.reg [⟨(some 55), none, .mov (.t 1)⟩,
  ⟨(some 56), none, .mov (.t 14)⟩,
  ⟨(some 57), none, .bin .shr (.t 55) (.t 56)⟩,
  ⟨(some 1), none, .mov (.t 57)⟩])))))))
 (.seq (.reg [⟨(some 58), none, .mov (.t 13)⟩,
  ⟨(some 59), none, .bin .sub (.t 58) (.c (.int .i64 1))⟩,
  ⟨(some 13), none, .mov (.t 59)⟩])
 (.reg [⟨(some 60), none, .mov (.t 13)⟩,
  ⟨(some 61), none, .mov (.t 1)⟩,
  ⟨(some 62), none, .sindex (.c (.str [48, 49, 50, 51, 52, 53, 54, 55, 56, 57, 97, 98, 99, 100, 101, 102, 103, 104, 105, 106, 107, 108, 109, 110, 111, 112, 113, 114, 115, 116, 117, 118, 119, 120, 121, 122])) (.t 61)⟩,
  ⟨(some 63), none, .stuck⟩,
  ⟨none, none, .store 1 (.t 63) (.t 62)⟩]))))))
 (.seq (.reg [⟨(some 64), none, .mov (.t 2)⟩,
  ⟨(some 65), none, .conv (.int .u64) (.t 64)⟩,
  ⟨(some 17), none, .mov (.t 65)⟩])
 (.seq (.block 2 (.loop [0, 1, 3, 4, 10, 11, 13, 17] [] (.seq (.seq (.reg [⟨(some 66), none, .mov (.t 1)⟩,
  ⟨(some 67), none, .mov (.t 17)⟩,
  ⟨(some 68), none, .bin .geq (.t 66) (.t 67)⟩])
 (.cond (.t 68) .skip
 (.exit 2)))
 (.block 3 (.seq (.reg [⟨(some 69), none, .mov (.t 13)⟩,
  ⟨(some 70), none, .bin .sub (.t 69) (.c (.int .i64 1))⟩,
  ⟨(some 13), none, .mov (.t 70)⟩])
 (.seq (.reg [⟨(some 71), none, .mov (.t 1)⟩,
  ⟨(some 72), none, .mov (.t 17)⟩,
  ⟨(some 73), none, .bin .quo (.t 71) (.t 72)⟩,
  ⟨(some 18), none, .mov (.t 73)⟩])
 (.seq (.reg [⟨(some 74), none, .mov (.t 13)⟩,
  ⟨(some 75), none, .mov (.t 1)⟩,
  ⟨(some 76), none, .mov (.t 18)⟩,
  ⟨(some 77), none, .mov (.t 17)⟩,
  ⟨(some 78), none, .bin .mul (.t 76) (.t 77)⟩,
  ⟨(some 79), none, .bin .sub (.t 75) (.t 78)⟩,
  ⟨(some 80), none, .sindex (.c (.str [48, 49, 50, 51, 52, 53, 54, 55, 56, 57, 97, 98, 99, 100, 101, 102, 103, 104, 105, 106, 107, 108, 109, 110, 111, 112, 113, 114, 115, 116, 117, 118, 119, 120, 121, 122])) (.t 79)⟩,
  ⟨(some 81), none, .stuck⟩,
  ⟨none, none, .store 1 (.t 81) (.t 80)⟩])
 (.reg [⟨(some 82), none, .mov (.t 18)⟩,
  ⟨(some 1), none, .mov (.t 82)⟩]))))))))
 (.seq (.reg [⟨(some 83), none, .mov (.t 13)⟩,
  ⟨(some 84), none, .bin .sub (.t 83) (.c (.int .i64 1))⟩,
  ⟨(some 13), none, .mov (.t 84)⟩])
 (.reg [⟨(some 85), none, .mov (.t 13)⟩,
  ⟨(some 86), none, .mov (.t 1)⟩,
  ⟨(some 87), none, .sindex (.c (.str [48, 49, 50, 51, 52, 53, 54, 55, 56, 57, 97, 98, 99, 100, 101, 102, 103, 104, 105, 106, 107, 108, 109, 110, 111, 112, 113, 114, 115, 116, 117, 118, 119, 120, 121, 122])) (.t 86)⟩,
  ⟨(some 88), none, .stuck⟩,
  ⟨none, none, .store 1 (.t 88) (.t 87)⟩]))))))
 (.seq (.seq (.reg [⟨(some 89), none, .mov (.t 3)⟩])
 (.cond (.t 89) (.seq (.reg [⟨(some 90), none, .mov (.t 13)⟩,
  ⟨(some 91), none, .bin .sub (.t 90) (.c (.int .i64 1))⟩,
  ⟨(some 13), none, .mov (.t 91)⟩])
 (.reg [⟨(some 92), none, .mov (.t 13)⟩,
  ⟨(some 93), none, .stuck⟩,
  ⟨none, none, .store 1 (.t 93) (.c (.int .u8 45))⟩]))
 .skip))
 (.seq (.seq (.reg [⟨(some 94), none, .mov (.t 4)⟩])
 (.cond (.t 94) (.seq (.reg [⟨(some 95), none, .mov (.t 0)⟩,
  ⟨(some 96), none, .mov (.t 13)⟩,
  ⟨(some 97), none, .stuck⟩,
  ⟨(some 98), none, .append 1 (.t 95) (.t 97)⟩,
  ⟨(some 10), none, .mov (.t 98)⟩])
 .ret)
 .skip))
 (.seq (.reg [⟨(some 99), none, .mov (.t 13)⟩,
  ⟨(some 100), none, .stuck⟩,
  ⟨(some 101), none, .conv .text (.t 100)⟩,
  ⟨(some 11), none, .mov (.t 101)⟩])
 .ret))))))))),
  [.t 10, .t 11], false, true, 102⟩
theorem co106 : compF Tryz.prog ⟨[], [(18, [0, 1, 3, 4, 10, 11, 13, 17], []), (11, [0, 1, 3, 4, 10, 11, 13, 14, 15, 16], [])], [], [], [], [], 106, [], []⟩ false true Tryz.f106 = some ac106 := by kernel_rfl

/-- paideia/paideiaref.Place -/
def ac107 : AF := ⟨(.seq (.reg [⟨(some 4), none, .mov (.c (.int .i64 0))⟩])
 (.seq (.seq (.reg [⟨(some 5), none, .mov (.c (.int .i64 0))⟩])
 (.block 0 (.loop [0, 1, 5] [] (.seq (.seq (.reg [⟨(some 6), none, .mov (.t 5)⟩,
  ⟨(some 7), none, .mov (.t 0)⟩,
  ⟨(some 8), none, .len 1 (.t 7)⟩,
  ⟨(some 9), none, .bin .lss (.t 6) (.t 8)⟩])
 (.cond (.t 9) .skip
 (.exit 0)))
 (.seq (.block 1 (.seq (.reg [⟨(some 12), none, .mov (.t 0)⟩,
  ⟨(some 13), none, .mov (.t 5)⟩,
  ⟨(some 14), none, .iaddr 1 (.t 12) (.t 13)⟩,
  ⟨(some 15), none, .load none (.t 14)⟩,
  ⟨(some 16), none, .mov (.t 1)⟩,
  ⟨(some 17), none, .bin .eql (.t 15) (.t 16)⟩])
 (.cond (.t 17) (.seq (.reg [⟨(some 18), none, .mov (.t 5)⟩,
  ⟨(some 4), none, .mov (.t 18)⟩])
 .ret)
 .skip)))
 (.reg [⟨(some 10), none, .mov (.t 5)⟩,
  ⟨(some 11), none, .bin .add (.t 10) (.c (.int .i64 1))⟩,
  ⟨(some 5), none, .mov (.t 11)⟩]))))))
 (.seq (.reg [⟨(some 4), none, .mov (.c (.int .i64 (-1)))⟩])
 .ret))),
  [.t 4], false, true, 19⟩
theorem co107 : compF Tryz.prog ⟨[], [(2, [0, 1, 5], [])], [], [], [], [], 107, [], []⟩ false true Tryz.f107 = some ac107 := by kernel_rfl

/-- (*paideia/paideiaref1.parser).one -/
def ac108 : AF := ⟨(.seq (.reg [⟨(some 2), none, .alloc [(.int .i64 0), (.int .i64 0), (.str []), (.int .i64 0), (.sl .clip []), (.sl .clip []), (.sl .clip [])] false⟩])
 (.seq (.seq (.reg [⟨(some 5), none, .mov (.t 0)⟩,
  ⟨(some 6), none, .call 0 [] (.c (.fn 109 [])) [(.t 5)]⟩,
  ⟨(some 7), none, .not (.t 6)⟩])
 (.cond (.t 7) (.seq (.reg [⟨(some 8), none, .mov (.t 0)⟩,
  ⟨(some 9), none, .call 0 [] (.c (.fn 29 [])) [(.t 8)]⟩])
 (.seq (.reg [⟨(some 10), none, .build [(.int .i64 0), (.int .i64 0), (.str []), (.int .i64 0), (.sl .clip []), (.sl .clip []), (.sl .clip [])] []⟩,
  ⟨none, none, .store 7 (.t 2) (.t 10)⟩])
 .ret))
 .skip))
 (.seq (.reg [⟨(some 11), none, .mov (.t 0)⟩,
  ⟨(some 12), none, .nilck (.t 11)⟩,
  ⟨(some 13), none, .faddr 0 (.t 12)⟩,
  ⟨(some 14), none, .load none (.t 13)⟩,
  ⟨(some 15), none, .mov (.t 0)⟩,
  ⟨(some 16), none, .nilck (.t 15)⟩,
  ⟨(some 17), none, .faddr 1 (.t 16)⟩,
  ⟨(some 18), none, .load none (.t 17)⟩,
  ⟨(some 19), none, .iaddr 4 (.t 14) (.t 18)⟩,
  ⟨(some 20), none, .load (some 4) (.t 19)⟩,
  ⟨(some 3), none, .alloc [(.int .i64 0), (.int .i64 0), (.str []), (.int .i64 0)] false⟩,
  ⟨none, none, .store 4 (.t 3) (.t 20)⟩])
 (.seq (.reg [⟨(some 21), none, .faddr 1 (.t 3)⟩,
  ⟨(some 22), none, .load none (.t 21)⟩,
  ⟨(some 23), none, .build [(.int .i64 0), (.int .i64 0), (.str []), (.int .i64 0), (.sl .clip []), (.sl .clip []), (.sl .clip [])] [(1, 1, (.t 22))]⟩,
  ⟨(some 4), none, .alloc [(.int .i64 0), (.int .i64 0), (.str []), (.int .i64 0), (.sl .clip []), (.sl .clip []), (.sl .clip [])] false⟩,
  ⟨none, none, .store 7 (.t 4) (.t 23)⟩])
 (.seq (.seq (.reg [⟨(some 24), none, .faddr 0 (.t 3)⟩,
  ⟨(some 25), none, .load none (.t 24)⟩])
 (.block 0 (.seq (.reg [⟨(some 100), none, .bin .eql (.t 25) (.c (.int .i64 1))⟩,
  ⟨(some 99), none, .mov (.t 100)⟩])
 (.cond (.t 99) (.seq (.reg [⟨(some 101), none, .faddr 0 (.t 4)⟩,
  ⟨none, none, .store 1 (.t 101) (.c (.int .i64 1))⟩])
 (.reg [⟨(some 102), none, .faddr 2 (.t 3)⟩,
  ⟨(some 103), none, .load none (.t 102)⟩,
  ⟨(some 104), none, .faddr 2 (.t 4)⟩,
  ⟨none, none, .store 1 (.t 104) (.t 103)⟩]))
 (.seq (.reg [⟨(some 106), none, .bin .eql (.t 25) (.c (.int .i64 2))⟩,
  ⟨(some 105), none, .mov (.t 106)⟩])
 (.cond (.t 105) (.seq (.reg [⟨(some 107), none, .faddr 0 (.t 4)⟩,
  ⟨none, none, .store 1 (.t 107) (.c (.int .i64 2))⟩])
 (.reg [⟨(some 108), none, .faddr 2 (.t 3)⟩,
  ⟨(some 109), none, .load none (.t 108)⟩,
  ⟨(some 110), none, .faddr 2 (.t 4)⟩,
  ⟨none, none, .store 1 (.t 110) (.t 109)⟩]))
 (.seq (.reg [⟨(some 112), none, .bin .eql (.t 25) (.c (.int .i64 3))⟩,
  ⟨(some 111), none, .mov (.t 112)⟩])
 (.cond (.t 111) (.seq (.reg [⟨(some 113), none, .faddr 0 (.t 4)⟩,
  ⟨none, none, .store 1 (.t 113) (.c (.int .i64 3))⟩])
 (.reg [⟨(some 114), none, .faddr 3 (.t 3)⟩,
  ⟨(some 115), none, .load none (.t 114)⟩,
  ⟨(some 116), none, .faddr 3 (.t 4)⟩,
  ⟨none, none, .store 1 (.t 116) (.t 115)⟩]))
 (.seq (.reg [⟨(some 118), none, .bin .eql (.t 25) (.c (.int .i64 4))⟩,
  ⟨(some 117), none, .mov (.t 118)⟩])
 (.cond (.t 117) (.seq (.reg [⟨(some 119), none, .faddr 0 (.t 4)⟩,
  ⟨none, none, .store 1 (.t 119) (.c (.int .i64 4))⟩])
 (.reg [⟨(some 120), none, .faddr 3 (.t 3)⟩,
  ⟨(some 121), none, .load none (.t 120)⟩,
  ⟨(some 122), none, .faddr 3 (.t 4)⟩,
  ⟨none, none, .store 1 (.t 122) (.t 121)⟩]))
 (.seq (.seq (.reg [⟨(some 26), none, .mov (.t 0)⟩,
  ⟨(some 27), none, .nilck (.t 26)⟩,
  ⟨(some 28), none, .faddr 1 (.t 27)⟩,
  ⟨(some 29), none, .load none (.t 28)⟩,
  ⟨(some 30), none, .bin .add (.t 29) (.c (.int .i64 1))⟩,
  ⟨(some 31), none, .mov (.t 0)⟩,
  ⟨(some 32), none, .nilck (.t 31)⟩,
  ⟨(some 33), none, .faddr 0 (.t 32)⟩,
  ⟨(some 34), none, .load none (.t 33)⟩,
  ⟨(some 35), none, .len 1 (.t 34)⟩,
  ⟨(some 36), none, .bin .lss (.t 30) (.t 35)⟩,
  ⟨(some 37), none, .mov (.t 36)⟩,
  ⟨(some 38), (some (37, true)), .mov (.t 0)⟩,
  ⟨(some 39), (some (37, true)), .nilck (.t 38)⟩,
  ⟨(some 40), (some (37, true)), .faddr 0 (.t 39)⟩,
  ⟨(some 41), (some (37, true)), .load none (.t 40)⟩,
  ⟨(some 42), (some (37, true)), .mov (.t 0)⟩,
  ⟨(some 43), (some (37, true)), .nilck (.t 42)⟩,
  ⟨(some 44), (some (37, true)), .faddr 1 (.t 43)⟩,
  ⟨(some 45), (some (37, true)), .load none (.t 44)⟩,
  ⟨(some 46), (some (37, true)), .bin .add (.t 45) (.c (.int .i64 1))⟩,
  ⟨(some 47), (some (37, true)), .iaddr 4 (.t 41) (.t 46)⟩,
  ⟨(some 48), (some (37, true)), .faddr 0 (.t 47)⟩,
  ⟨(some 49), (some (37, true)), .load none (.t 48)⟩,
  ⟨(some 50), (some (37, true)), .bin .eql (.t 49) (.c (.int .i64 5))⟩,
  ⟨(some 51), none, .pick (.t 37) (.t 50) (.c (.bool false))⟩])
 (.cond (.t 51) (.seq (.reg [⟨(some 52), none, .faddr 0 (.t 4)⟩,
  ⟨none, none, .store 1 (.t 52) (.c (.int .i64 1))⟩])
 (.seq (.reg [⟨(some 53), none, .mov (.t 0)⟩,
  ⟨(some 54), none, .nilck (.t 53)⟩,
  ⟨(some 55), none, .faddr 0 (.t 54)⟩,
  ⟨(some 56), none, .load none (.t 55)⟩,
  ⟨(some 57), none, .mov (.t 0)⟩,
  ⟨(some 58), none, .nilck (.t 57)⟩,
  ⟨(some 59), none, .faddr 1 (.t 58)⟩,
  ⟨(some 60), none, .load none (.t 59)⟩,
  ⟨(some 61), none, .bin .add (.t 60) (.c (.int .i64 1))⟩,
  ⟨(some 62), none, .iaddr 4 (.t 56) (.t 61)⟩,
  ⟨(some 63), none, .faddr 1 (.t 62)⟩,
  ⟨(some 64), none, .load none (.t 63)⟩,
  ⟨(some 65), none, .faddr 1 (.t 4)⟩,
  ⟨none, none, .store 1 (.t 65) (.t 64)⟩])
 (.seq (.reg [⟨(some 66), none, .mov (.t 0)⟩,
  ⟨(some 67), none, .nilck (.t 66)⟩,
  ⟨(some 68), none, .faddr 0 (.t 67)⟩,
  ⟨(some 69), none, .load none (.t 68)⟩,
  ⟨(some 70), none, .mov (.t 0)⟩,
  ⟨(some 71), none, .nilck (.t 70)⟩,
  ⟨(some 72), none, .faddr 1 (.t 71)⟩,
  ⟨(some 73), none, .load none (.t 72)⟩,
  ⟨(some 74), none, .bin .add (.t 73) (.c (.int .i64 1))⟩,
  ⟨(some 75), none, .iaddr 4 (.t 69) (.t 74)⟩,
  ⟨(some 76), none, .faddr 2 (.t 75)⟩,
  ⟨(some 77), none, .load none (.t 76)⟩,
  ⟨(some 78), none, .faddr 2 (.t 4)⟩,
  ⟨none, none, .store 1 (.t 78) (.t 77)⟩])
 (.seq (.reg [⟨(some 79), none, .mov (.t 0)⟩,
  ⟨(some 80), none, .mov (.t 0)⟩,
  ⟨(some 81), none, .nilck (.t 80)⟩,
  ⟨(some 82), none, .faddr 1 (.t 81)⟩,
  ⟨(some 83), none, .load none (.t 82)⟩,
  ⟨(some 84), none, .bin .add (.t 83) (.c (.int .i64 2))⟩,
  ⟨(some 85), none, .nilck (.t 79)⟩,
  ⟨(some 86), none, .faddr 1 (.t 85)⟩,
  ⟨none, none, .store 1 (.t 86) (.t 84)⟩])
 (.seq (.reg [⟨(some 87), none, .mov (.t 0)⟩,
  ⟨(some 88), none, .call 0 [] (.c (.fn 45 [])) [(.t 87), (.c (.str [41]))]⟩])
 (.seq (.reg [⟨(some 89), none, .load (some 7) (.t 4)⟩,
  ⟨none, none, .store 7 (.t 2) (.t 89)⟩])
 .ret))))))
 .skip))
 (.seq (.reg [⟨(some 90), none, .mov (.t 0)⟩,
  ⟨(some 91), none, .call 0 [] (.c (.fn 75 [])) [(.t 90)]⟩])
 (.seq (.reg [⟨(some 92), none, .mov (.t 0)⟩,
  ⟨(some 93), none, .call 0 [] (.c (.fn 55 [])) [(.t 92)]⟩,
  ⟨none, none, .store 7 (.t 4) (.t 93)⟩])
 (.seq (.reg [⟨(some 94), none, .mov (.t 0)⟩,
  ⟨(some 95), none, .call 0 [] (.c (.fn 45 [])) [(.t 94), (.c (.str [41]))]⟩])
 (.seq (.reg [⟨(some 96), none, .mov (.t 0)⟩,
  ⟨(some 97), none, .call 0 [] (.c (.fn 77 [])) [(.t 96)]⟩])
 (.seq (.reg [⟨(some 98), none, .load (some 7) (.t 4)⟩,
  ⟨none, none, .store 7 (.t 2) (.t 98)⟩])
 .ret))))))))))))))))
 (.seq (.reg [⟨(some 123), none, .mov (.t 0)⟩,
  ⟨(some 124), none, .mov (.t 0)⟩,
  ⟨(some 125), none, .nilck (.t 124)⟩,
  ⟨(some 126), none, .faddr 1 (.t 125)⟩,
  ⟨(some 127), none, .load none (.t 126)⟩,
  ⟨(some 128), none, .bin .add (.t 127) (.c (.int .i64 1))⟩,
  ⟨(some 129), none, .nilck (.t 123)⟩,
  ⟨(some 130), none, .faddr 1 (.t 129)⟩,
  ⟨none, none, .store 1 (.t 130) (.t 128)⟩])
 (.seq (.reg [⟨(some 131), none, .load (some 7) (.t 4)⟩,
  ⟨none, none, .store 7 (.t 2) (.t 131)⟩])
 .ret))))))),
  [.cell 2 (some 7)], false, false, 132⟩
theorem co108 : compF Tryz.prog ⟨[], [], [], [], [], [], 108, [], []⟩ false false Tryz.f108 = some ac108 := by kernel_rfl

/-- (*paideia/paideiaref1.parser).begins -/
def ac109 : AF := ⟨(.seq (.reg [⟨(some 2), none, .mov (.c (.bool false))⟩])
 (.seq (.reg [⟨(some 3), none, .mov (.t 0)⟩,
  ⟨(some 4), none, .call 0 [] (.c (.fn 47 [])) [(.t 3), (.c (.int .i64 1))]⟩,
  ⟨(some 5), none, .mov (.t 4)⟩,
  ⟨(some 6), (some (5, false)), .mov (.t 0)⟩,
  ⟨(some 7), (some (5, false)), .call 0 [] (.c (.fn 47 [])) [(.t 6), (.c (.int .i64 2))]⟩,
  ⟨(some 8), none, .pick (.t 5) (.c (.bool true)) (.t 7)⟩,
  ⟨(some 9), none, .mov (.t 8)⟩,
  ⟨(some 10), (some (9, false)), .mov (.t 0)⟩,
  ⟨(some 11), (some (9, false)), .call 0 [] (.c (.fn 47 [])) [(.t 10), (.c (.int .i64 3))]⟩,
  ⟨(some 12), none, .pick (.t 9) (.c (.bool true)) (.t 11)⟩,
  ⟨(some 13), none, .mov (.t 12)⟩,
  ⟨(some 14), (some (13, false)), .mov (.t 0)⟩,
  ⟨(some 15), (some (13, false)), .call 0 [] (.c (.fn 47 [])) [(.t 14), (.c (.int .i64 4))]⟩,
  ⟨(some 16), none, .pick (.t 13) (.c (.bool true)) (.t 15)⟩,
  ⟨(some 17), none, .mov (.t 16)⟩,
  ⟨(some 18), (some (17, false)), .mov (.t 0)⟩,
  ⟨(some 19), (some (17, false)), .call 0 [] (.c (.fn 22 [])) [(.t 18), (.c (.str [40]))]⟩,
  ⟨(some 20), none, .pick (.t 17) (.c (.bool true)) (.t 19)⟩,
  ⟨(some 2), none, .mov (.t 20)⟩])
 .ret)),
  [.t 2], false, false, 21⟩
theorem co109 : compF Tryz.prog ⟨[], [], [], [], [], [], 109, [], []⟩ false false Tryz.f109 = some ac109 := by kernel_rfl

/-- internal/strconv.log10Pow2 -/
def ac111 : AF := ⟨(.seq (.reg [⟨(some 2), none, .mov (.c (.int .i64 0))⟩])
 (.seq (.reg [⟨(some 3), none, .mov (.t 0)⟩,
  ⟨(some 4), none, .bin .mul (.t 3) (.c (.int .i64 78913))⟩,
  ⟨(some 5), none, .bin .shr (.t 4) (.c (.int .u64 18))⟩,
  ⟨(some 2), none, .mov (.t 5)⟩])
 .ret)),
  [.t 2], false, true, 6⟩
theorem co111 : compF Tryz.prog ⟨[], [], [], [], [], [], 111, [], []⟩ false true Tryz.f111 = some ac111 := by kernel_rfl

/-- internal/strconv.bool2[int] -/
def ac113 : AF := ⟨(.seq (.reg [⟨(some 2), none, .mov (.c (.int .i64 0))⟩])
 (.seq (.seq (.reg [⟨(some 3), none, .mov (.t 0)⟩])
 (.cond (.t 3) (.seq (.reg [⟨(some 2), none, .mov (.c (.int .i64 1))⟩])
 .ret)
 .skip))
 (.seq (.reg [⟨(some 2), none, .mov (.c (.int .i64 0))⟩])
 .ret))),
  [.t 2], false, true, 4⟩
theorem co113 : compF Tryz.prog ⟨[], [], [], [], [], [], 113, [], []⟩ false true Tryz.f113 = some ac113 := by kernel_rfl

/-- internal/strconv.isPowerOfTwo -/
def ac114 : AF := ⟨(.seq (.reg [⟨(some 2), none, .mov (.c (.bool false))⟩])
 (.seq (.reg [⟨(some 3), none, .mov (.t 0)⟩,
  ⟨(some 4), none, .mov (.t 0)⟩,
  ⟨(some 5), none, .bin .sub (.t 4) (.c (.int .i64 1))⟩,
  ⟨(some 6), none, .bin .and (.t 3) (.t 5)⟩,
  ⟨(some 7), none, .bin .eql (.t 6) (.c (.int .i64 0))⟩,
  ⟨(some 2), none, .mov (.t 7)⟩])
 .ret)),
  [.t 2], false, true, 8⟩
theorem co114 : compF Tryz.prog ⟨[], [], [], [], [], [], 114, [], []⟩ false true Tryz.f114 = some ac114 := by kernel_rfl


theorem prim33 : PrimOkG Tryz.prog [3000000] 33 joinP := (joinP_ok Tryz.func33 (by kernel_rfl) (by kernel_rfl) Tryz.strings_Join_none Tryz.strings_Join).g
theorem prim88 : PrimOkG Tryz.prog [3000000] 88 fieldsP := fieldsP_ok (g := 0) (t := 9) Tryz.func88 (by kernel_rfl) (by kernel_rfl) (by kernel_rfl) (by simp) Tryz.strings_Fields
theorem prim89 : PrimOkG Tryz.prog [3000000] 89 itoaSP := itoaS_ok Tryz.func89 (by kernel_rfl) (by kernel_rfl) Tryz.internal_strconv_FormatInt_10_small

def ap4 : AP := fun f vr => match f, vr with
  | 88, 0 => some (.prim fieldsP)
  | 89, 0 => some (.prim itoaSP)
  | _, _ => none

theorem table4 : TableOk Tryz.prog ap4 [3000000] := by
  intro f vr fd h
  unfold ap4 at h
  split at h
  · cases h; exact prim88
  · cases h; exact prim89
  · cases h

def ap3 : AP := fun f vr => match f, vr with
  | 82, 0 => some (.code ac82)
  | 83, 0 => some (.code ac83)
  | 84, 0 => some (.code ac84)
  | 85, 0 => some (.code ac85)
  | 90, 0 => some (.code ac90)
  | 91, 0 => some (.code ac91)
  | 92, 0 => some (.code ac92)
  | 93, 0 => some (.code ac93)
  | 94, 0 => some (.code ac94)
  | 95, 0 => some (.code ac95)
  | 96, 0 => some (.code ac96)
  | 97, 0 => some (.code ac97)
  | 98, 0 => some (.code ac98)
  | 101, 0 => some (.code ac101)
  | 103, 0 => some (.code ac103)
  | 104, 0 => some (.code ac104)
  | 105, 0 => some (.code ac105)
  | 106, 0 => some (.code ac106)
  | 107, 0 => some (.code ac107)
  | 108, 0 => some (.code ac108)
  | 109, 0 => some (.code ac109)
  | 111, 0 => some (.code ac111)
  | 113, 0 => some (.code ac113)
  | 114, 0 => some (.code ac114)
  | 33, 0 => some (.prim joinP)
  | f, vr => ap4 f vr

theorem table3 : TableOk Tryz.prog ap3 [3000000] := by
  intro f vr fd h
  unfold ap3 at h
  split at h
  · cases h; exact ⟨_, _, Tryz.func82, co82, by decide, rfl⟩
  · cases h; exact ⟨_, _, Tryz.func83, co83, by decide, rfl⟩
  · cases h; exact ⟨_, _, Tryz.func84, co84, by decide, rfl⟩
  · cases h; exact ⟨_, _, Tryz.func85, co85, by decide, rfl⟩
  · cases h; exact ⟨_, _, Tryz.func90, co90, by decide, rfl⟩
  · cases h; exact ⟨_, _, Tryz.func91, co91, by decide, rfl⟩
  · cases h; exact ⟨_, _, Tryz.func92, co92, by decide, rfl⟩
  · cases h; exact ⟨_, _, Tryz.func93, co93, by decide, rfl⟩
  · cases h; exact ⟨_, _, Tryz.func94, co94, by decide, rfl⟩
  · cases h; exact ⟨_, _, Tryz.func95, co95, by decide, rfl⟩
  · cases h; exact ⟨_, _, Tryz.func96, co96, by decide, rfl⟩
  · cases h; exact ⟨_, _, Tryz.func97, co97, by decide, rfl⟩
  · cases h; exact ⟨_, _, Tryz.func98, co98, by decide, rfl⟩
  · cases h; exact ⟨_, _, Tryz.func101, co101, by decide, rfl⟩
  · cases h; exact ⟨_, _, Tryz.func103, co103, by decide, rfl⟩
  · cases h; exact ⟨_, _, Tryz.func104, co104, by decide, rfl⟩
  · cases h; exact ⟨_, _, Tryz.func105, co105, by decide, rfl⟩
  · cases h; exact ⟨_, _, Tryz.func106, co106, by decide, rfl⟩
  · cases h; exact ⟨_, _, Tryz.func107, co107, by decide, rfl⟩
  · cases h; exact ⟨_, _, Tryz.func108, co108, by decide, rfl⟩
  · cases h; exact ⟨_, _, Tryz.func109, co109, by decide, rfl⟩
  · cases h; exact ⟨_, _, Tryz.func111, co111, by decide, rfl⟩
  · cases h; exact ⟨_, _, Tryz.func113, co113, by decide, rfl⟩
  · cases h; exact ⟨_, _, Tryz.func114, co114, by decide, rfl⟩
  · cases h; exact prim33
  · exact table4 _ _ _ h

def ap2 : AP := fun f vr => match f, vr with
  | 54, 0 => some (.code ac54)
  | 55, 0 => some (.code ac55)
  | 56, 0 => some (.code ac56)
  | 60, 0 => some (.code ac60)
  | 61, 0 => some (.code ac61)
  | 62, 0 => some (.code ac62)
  | 63, 0 => some (.code ac63)
  | 64, 0 => some (.code ac64)
  | 65, 0 => some (.code ac65)
  | 66, 0 => some (.code ac66)
  | 67, 0 => some (.code ac67)
  | 68, 0 => some (.code ac68)
  | 69, 0 => some (.code ac69)
  | 70, 0 => some (.code ac70)
  | 71, 0 => some (.code ac71)
  | 72, 0 => some (.code ac72)
  | 73, 0 => some (.code ac73)
  | 74, 0 => some (.code ac74)
  | 75, 0 => some (.code ac75)
  | 76, 0 => some (.code ac76)
  | 77, 0 => some (.code ac77)
  | 78, 0 => some (.code ac78)
  | 79, 0 => some (.code ac79)
  | 80, 0 => some (.code ac80)
  | 81, 0 => some (.code ac81)
  | f, vr => ap3 f vr

theorem table2 : TableOk Tryz.prog ap2 [3000000] := by
  intro f vr fd h
  unfold ap2 at h
  split at h
  · cases h; exact ⟨_, _, Tryz.func54, co54, by decide, rfl⟩
  · cases h; exact ⟨_, _, Tryz.func55, co55, by decide, rfl⟩
  · cases h; exact ⟨_, _, Tryz.func56, co56, by decide, rfl⟩
  · cases h; exact ⟨_, _, Tryz.func60, co60, by decide, rfl⟩
  · cases h; exact ⟨_, _, Tryz.func61, co61, by decide, rfl⟩
  · cases h; exact ⟨_, _, Tryz.func62, co62, by decide, rfl⟩
  · cases h; exact ⟨_, _, Tryz.func63, co63, by decide, rfl⟩
  · cases h; exact ⟨_, _, Tryz.func64, co64, by decide, rfl⟩
  · cases h; exact ⟨_, _, Tryz.func65, co65, by decide, rfl⟩
  · cases h; exact ⟨_, _, Tryz.func66, co66, by decide, rfl⟩
  · cases h; exact ⟨_, _, Tryz.func67, co67, by decide, rfl⟩
  · cases h; exact ⟨_, _, Tryz.func68, co68, by decide, rfl⟩
  · cases h; exact ⟨_, _, Tryz.func69, co69, by decide, rfl⟩
  · cases h; exact ⟨_, _, Tryz.func70, co70, by decide, rfl⟩
  · cases h; exact ⟨_, _, Tryz.func71, co71, by decide, rfl⟩
  · cases h; exact ⟨_, _, Tryz.func72, co72, by decide, rfl⟩
  · cases h; exact ⟨_, _, Tryz.func73, co73, by decide, rfl⟩
  · cases h; exact ⟨_, _, Tryz.func74, co74, by decide, rfl⟩
  · cases h; exact ⟨_, _, Tryz.func75, co75, by decide, rfl⟩
  · cases h; exact ⟨_, _, Tryz.func76, co76, by decide, rfl⟩
  · cases h; exact ⟨_, _, Tryz.func77, co77, by decide, rfl⟩
  · cases h; exact ⟨_, _, Tryz.func78, co78, by decide, rfl⟩
  · cases h; exact ⟨_, _, Tryz.func79, co79, by decide, rfl⟩
  · cases h; exact ⟨_, _, Tryz.func80, co80, by decide, rfl⟩
  · cases h; exact ⟨_, _, Tryz.func81, co81, by decide, rfl⟩
  · exact table3 _ _ _ h

def ap1 : AP := fun f vr => match f, vr with
  | 28, 0 => some (.codeF ac28)
  | 29, 0 => some (.code ac29)
  | 30, 0 => some (.code ac30)
  | 31, 0 => some (.code ac31)
  | 32, 0 => some (.code ac32)
  | 34, 0 => some (.code ac34)
  | 35, 0 => some (.code ac35)
  | 36, 0 => some (.code ac36)
  | 37, 0 => some (.code ac37)
  | 38, 0 => some (.code ac38)
  | 39, 0 => some (.code ac39)
  | 40, 0 => some (.code ac40)
  | 41, 0 => some (.code ac41)
  | 42, 0 => some (.code ac42)
  | 43, 0 => some (.code ac43)
  | 44, 0 => some (.code ac44)
  | 45, 0 => some (.code ac45)
  | 46, 0 => some (.code ac46)
  | 47, 0 => some (.code ac47)
  | 48, 0 => some (.code ac48)
  | 49, 0 => some (.code ac49)
  | 50, 0 => some (.code ac50)
  | 51, 0 => some (.code ac51)
  | 52, 0 => some (.code ac52)
  | 53, 0 => some (.code ac53)
  | f, vr => ap2 f vr

theorem table1 : TableOk Tryz.prog ap1 [3000000] := by
  intro f vr fd h
  unfold ap1 at h
  split at h
  · cases h; exact ⟨_, _, Tryz.func28, co28, by decide, rfl⟩
  · cases h; exact ⟨_, _, Tryz.func29, co29, by decide, rfl⟩
  · cases h; exact ⟨_, _, Tryz.func30, co30, by decide, rfl⟩
  · cases h; exact ⟨_, _, Tryz.func31, co31, by decide, rfl⟩
  · cases h; exact ⟨_, _, Tryz.func32, co32, by decide, rfl⟩
  · cases h; exact ⟨_, _, Tryz.func34, co34, by decide, rfl⟩
  · cases h; exact ⟨_, _, Tryz.func35, co35, by decide, rfl⟩
  · cases h; exact ⟨_, _, Tryz.func36, co36, by decide, rfl⟩
  · cases h; exact ⟨_, _, Tryz.func37, co37, by decide, rfl⟩
  · cases h; exact ⟨_, _, Tryz.func38, co38, by decide, rfl⟩
  · cases h; exact ⟨_, _, Tryz.func39, co39, by decide, rfl⟩
  · cases h; exact ⟨_, _, Tryz.func40, co40, by decide, rfl⟩
  · cases h; exact ⟨_, _, Tryz.func41, co41, by decide, rfl⟩
  · cases h; exact ⟨_, _, Tryz.func42, co42, by decide, rfl⟩
  · cases h; exact ⟨_, _, Tryz.func43, co43, by decide, rfl⟩
  · cases h; exact ⟨_, _, Tryz.func44, co44, by decide, rfl⟩
  · cases h; exact ⟨_, _, Tryz.func45, co45, by decide, rfl⟩
  · cases h; exact ⟨_, _, Tryz.func46, co46, by decide, rfl⟩
  · cases h; exact ⟨_, _, Tryz.func47, co47, by decide, rfl⟩
  · cases h; exact ⟨_, _, Tryz.func48, co48, by decide, rfl⟩
  · cases h; exact ⟨_, _, Tryz.func49, co49, by decide, rfl⟩
  · cases h; exact ⟨_, _, Tryz.func50, co50, by decide, rfl⟩
  · cases h; exact ⟨_, _, Tryz.func51, co51, by decide, rfl⟩
  · cases h; exact ⟨_, _, Tryz.func52, co52, by decide, rfl⟩
  · cases h; exact ⟨_, _, Tryz.func53, co53, by decide, rfl⟩
  · exact table2 _ _ _ h

def ap0 : AP := fun f vr => match f, vr with
  | 3, 0 => some (.code ac3)
  | 4, 0 => some (.code ac4)
  | 5, 0 => some (.code ac5)
  | 6, 0 => some (.code ac6)
  | 7, 0 => some (.code ac7)
  | 8, 0 => some (.code ac8)
  | 9, 0 => some (.code ac9)
  | 10, 0 => some (.code ac10)
  | 11, 0 => some (.code ac11)
  | 12, 0 => some (.code ac12)
  | 13, 0 => some (.code ac13)
  | 14, 0 => some (.code ac14)
  | 15, 0 => some (.code ac15)
  | 16, 0 => some (.code ac16)
  | 17, 0 => some (.code ac17)
  | 18, 0 => some (.code ac18)
  | 19, 0 => some (.code ac19)
  | 20, 0 => some (.code ac20)
  | 21, 0 => some (.code ac21)
  | 22, 0 => some (.code ac22)
  | 23, 0 => some (.code ac23)
  | 24, 0 => some (.code ac24)
  | 25, 0 => some (.code ac25)
  | 26, 0 => some (.code ac26)
  | 27, 0 => some (.code ac27)
  | f, vr => ap1 f vr

theorem table0 : TableOk Tryz.prog ap0 [3000000] := by
  intro f vr fd h
  unfold ap0 at h
  split at h
  · cases h; exact ⟨_, _, Tryz.func3, co3, by decide, rfl⟩
  · cases h; exact ⟨_, _, Tryz.func4, co4, by decide, rfl⟩
  · cases h; exact ⟨_, _, Tryz.func5, co5, by decide, rfl⟩
  · cases h; exact ⟨_, _, Tryz.func6, co6, by decide, rfl⟩
  · cases h; exact ⟨_, _, Tryz.func7, co7, by decide, rfl⟩
  · cases h; exact ⟨_, _, Tryz.func8, co8, by decide, rfl⟩
  · cases h; exact ⟨_, _, Tryz.func9, co9, by decide, rfl⟩
  · cases h; exact ⟨_, _, Tryz.func10, co10, by decide, rfl⟩
  · cases h; exact ⟨_, _, Tryz.func11, co11, by decide, rfl⟩
  · cases h; exact ⟨_, _, Tryz.func12, co12, by decide, rfl⟩
  · cases h; exact ⟨_, _, Tryz.func13, co13, by decide, rfl⟩
  · cases h; exact ⟨_, _, Tryz.func14, co14, by decide, rfl⟩
  · cases h; exact ⟨_, _, Tryz.func15, co15, by decide, rfl⟩
  · cases h; exact ⟨_, _, Tryz.func16, co16, by decide, rfl⟩
  · cases h; exact ⟨_, _, Tryz.func17, co17, by decide, rfl⟩
  · cases h; exact ⟨_, _, Tryz.func18, co18, by decide, rfl⟩
  · cases h; exact ⟨_, _, Tryz.func19, co19, by decide, rfl⟩
  · cases h; exact ⟨_, _, Tryz.func20, co20, by decide, rfl⟩
  · cases h; exact ⟨_, _, Tryz.func21, co21, by decide, rfl⟩
  · cases h; exact ⟨_, _, Tryz.func22, co22, by decide, rfl⟩
  · cases h; exact ⟨_, _, Tryz.func23, co23, by decide, rfl⟩
  · cases h; exact ⟨_, _, Tryz.func24, co24, by decide, rfl⟩
  · cases h; exact ⟨_, _, Tryz.func25, co25, by decide, rfl⟩
  · cases h; exact ⟨_, _, Tryz.func26, co26, by decide, rfl⟩
  · cases h; exact ⟨_, _, Tryz.func27, co27, by decide, rfl⟩
  · exact table1 _ _ _ h

def ap : AP := ap0
theorem tableOk : TableOk Tryz.prog ap [3000000] := table0

end Go.Xt
