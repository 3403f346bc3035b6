/- The seat's functions on the abstract machine. -/
import Derived.Test.YthebkhieedogdaaDoorAmX
import Derived.Test.YthebkhieedogdaaDoorAmZ
import Derived.Test.YthebkhieedogdaaDoorAmL
import Derived.Test.YthebkhieedogdaaDoorAmQ
import Derived.Test.YthebkhieedogdaaDoorAmU
import Derived.Test.YthebkhieedogdaaDoorAmF
import Derived.Test.YthebkhieedogdaaDoorKtShelf
import Derived.Test.YthebkhieedogdaaDoorProg
namespace Go.Kt
open Go.Am Go.Proofs

set_option maxRecDepth 100000
def cut5 : Nat := 4
def mid5 : AC := (.reg [⟨(some 26), none, .mov (.t 1)⟩,
  ⟨(some 27), none, .bin .rem (.t 26) (.c (.int .i64 4))⟩,
  ⟨(some 28), none, .bin .add (.t 27) (.c (.int .i64 4))⟩,
  ⟨(some 29), none, .bin .rem (.t 28) (.c (.int .i64 4))⟩,
  ⟨(some 1), none, .mov (.t 29)⟩])
def rest5 : AC := (.seq (.reg [⟨(some 30), none, .mov (.t 0)⟩,
  ⟨(some 31), none, .build [(.sl .clip []), (.int .i64 0)] [(0, 1, (.t 30))]⟩,
  ⟨(some 32), none, .box (.t 31) 2 true⟩,
  ⟨(some 6), none, .mov (.t 32)⟩])
 (.seq (.reg [⟨(some 33), none, .call 0 [] (.c (.fn 14 [])) [(.c (.str [102]))]⟩,
  ⟨(some 7), none, .alloc [(.int .i64 0), (.str []), (.int .i64 0), (.int .i64 0), (.str []), (.sl .clip []), (.sl .clip []), (.sl .clip []), (.sl .clip [])] false⟩,
  ⟨none, none, .store 9 (.t 7) (.t 33)⟩])
 (.seq (.reg [⟨(some 8), none, .mov (.c (.sl .clip []))⟩])
 (.seq (.reg [⟨(some 9), none, .mov (.c (.sl .clip []))⟩])
 (.seq (.reg [⟨(some 34), none, .bslice [(.str [])] 4 [(0, (.c (.str [112]))), (1, (.c (.str [113]))), (2, (.c (.str [114]))), (3, (.c (.str [115])))]⟩,
  ⟨(some 35), none, .mov (.t 1)⟩,
  ⟨(some 36), none, .slice 1 (.t 34) none (some (.t 35)) none⟩,
  ⟨(some 10), none, .mov (.t 36)⟩])
 (.seq (.reg [⟨(some 11), none, .mov (.c (.str [102]))⟩])
 (.seq (.reg [⟨(some 12), none, .mov (.c (.str [98]))⟩])
 (.seq (.seq (.reg [⟨(some 13), none, .mov (.c (.int .i64 0))⟩])
 (.block 0 (.loop [1, 5, 6, 8, 9, 10, 11, 12, 13] [7] (.seq (.seq (.reg [⟨(some 37), none, .mov (.t 13)⟩,
  ⟨(some 38), none, .mov (.t 1)⟩,
  ⟨(some 39), none, .bin .lss (.t 37) (.t 38)⟩])
 (.cond (.t 39) .skip
 (.exit 0)))
 (.seq (.block 1 (.seq (.reg [⟨(some 42), none, .mov (.t 8)⟩,
  ⟨(some 43), none, .mov (.t 10)⟩,
  ⟨(some 44), none, .mov (.t 13)⟩,
  ⟨(some 45), none, .iaddr 1 (.t 43) (.t 44)⟩,
  ⟨(some 46), none, .load none (.t 45)⟩,
  ⟨(some 47), none, .call 0 [] (.c (.fn 14 [])) [(.t 46)]⟩,
  ⟨(some 48), none, .bslice [(.int .i64 0), (.str []), (.int .i64 0), (.int .i64 0), (.str []), (.sl .clip []), (.sl .clip []), (.sl .clip []), (.sl .clip [])] 1 [(0, (.t 47))]⟩,
  ⟨(some 49), none, .append 9 (.t 42) (.t 48)⟩,
  ⟨(some 8), none, .mov (.t 49)⟩])
 (.seq (.reg [⟨(some 50), none, .mov (.t 11)⟩,
  ⟨(some 51), none, .bin .add (.c (.str [40])) (.t 50)⟩,
  ⟨(some 52), none, .bin .add (.t 51) (.c (.str [32]))⟩,
  ⟨(some 53), none, .mov (.t 10)⟩,
  ⟨(some 54), none, .mov (.t 13)⟩,
  ⟨(some 55), none, .iaddr 1 (.t 53) (.t 54)⟩,
  ⟨(some 56), none, .load none (.t 55)⟩,
  ⟨(some 57), none, .bin .add (.t 52) (.t 56)⟩,
  ⟨(some 58), none, .bin .add (.t 57) (.c (.str [41]))⟩,
  ⟨(some 11), none, .mov (.t 58)⟩])
 (.reg [⟨(some 59), none, .mov (.t 9)⟩,
  ⟨(some 60), none, .bslice [(.str [])] 3 [(0, (.c (.str [73, 110, 116]))), (1, (.c (.str [67, 104, 97, 114]))), (2, (.c (.str [66, 111, 111, 108])))]⟩,
  ⟨(some 61), none, .mov (.t 6)⟩,
  ⟨(some 62), none, .call 0 [] (.c (.fn 16 [])) [(.t 61), (.c (.int .i64 3))]⟩,
  ⟨(some 63), none, .iaddr 1 (.t 60) (.t 62)⟩,
  ⟨(some 64), none, .load none (.t 63)⟩,
  ⟨(some 65), none, .call 0 [] (.c (.fn 15 [])) [(.t 64), (.c (.sl .clip []))]⟩,
  ⟨(some 66), none, .bslice [(.int .i64 0), (.str []), (.sl .clip [])] 1 [(0, (.t 65))]⟩,
  ⟨(some 67), none, .append 3 (.t 59) (.t 66)⟩,
  ⟨(some 9), none, .mov (.t 67)⟩]))))
 (.reg [⟨(some 40), none, .mov (.t 13)⟩,
  ⟨(some 41), none, .bin .add (.t 40) (.c (.int .i64 1))⟩,
  ⟨(some 13), none, .mov (.t 41)⟩]))))))
 (.seq (.reg [⟨(some 14), none, .mov (.c (.str [102]))⟩])
 (.seq (.reg [⟨(some 15), none, .mov (.c (.str [98]))⟩])
 (.seq (.seq (.reg [⟨(some 16), none, .mov (.c (.int .i64 0))⟩])
 (.block 2 (.loop [1, 5, 8, 9, 10, 11, 12, 14, 15, 16] [7] (.seq (.seq (.reg [⟨(some 68), none, .mov (.t 16)⟩,
  ⟨(some 69), none, .mov (.t 1)⟩,
  ⟨(some 70), none, .bin .lss (.t 68) (.t 69)⟩])
 (.cond (.t 70) .skip
 (.exit 2)))
 (.seq (.block 3 (.seq (.reg [⟨(some 73), none, .mov (.t 14)⟩,
  ⟨(some 74), none, .bin .add (.c (.str [40])) (.t 73)⟩,
  ⟨(some 75), none, .bin .add (.t 74) (.c (.str [32, 64]))⟩,
  ⟨(some 76), none, .mov (.t 9)⟩,
  ⟨(some 77), none, .mov (.t 16)⟩,
  ⟨(some 78), none, .iaddr 3 (.t 76) (.t 77)⟩,
  ⟨(some 79), none, .faddr 1 (.t 78)⟩,
  ⟨(some 80), none, .load none (.t 79)⟩,
  ⟨(some 81), none, .bin .add (.t 75) (.t 80)⟩,
  ⟨(some 82), none, .bin .add (.t 81) (.c (.str [41]))⟩,
  ⟨(some 14), none, .mov (.t 82)⟩])
 (.seq (.reg [⟨(some 83), none, .mov (.t 1)⟩,
  ⟨(some 84), none, .bin .sub (.t 83) (.c (.int .i64 1))⟩,
  ⟨(some 85), none, .mov (.t 16)⟩,
  ⟨(some 86), none, .bin .sub (.t 84) (.t 85)⟩,
  ⟨(some 17), none, .mov (.t 86)⟩])
 (.seq (.reg [⟨(some 87), none, .mov (.t 10)⟩,
  ⟨(some 88), none, .mov (.t 17)⟩,
  ⟨(some 89), none, .iaddr 1 (.t 87) (.t 88)⟩,
  ⟨(some 90), none, .load none (.t 89)⟩,
  ⟨(some 91), none, .bin .add (.c (.str [40, 92])) (.t 90)⟩,
  ⟨(some 92), none, .bin .add (.t 91) (.c (.str [32, 58, 32]))⟩,
  ⟨(some 93), none, .mov (.t 9)⟩,
  ⟨(some 94), none, .mov (.t 17)⟩,
  ⟨(some 95), none, .iaddr 3 (.t 93) (.t 94)⟩,
  ⟨(some 96), none, .faddr 1 (.t 95)⟩,
  ⟨(some 97), none, .load none (.t 96)⟩,
  ⟨(some 98), none, .bin .add (.t 92) (.t 97)⟩,
  ⟨(some 99), none, .bin .add (.t 98) (.c (.str [32, 45, 62, 32]))⟩,
  ⟨(some 100), none, .mov (.t 12)⟩,
  ⟨(some 101), none, .bin .add (.t 99) (.t 100)⟩,
  ⟨(some 102), none, .bin .add (.t 101) (.c (.str [41]))⟩,
  ⟨(some 12), none, .mov (.t 102)⟩])
 (.reg [⟨(some 103), none, .mov (.t 10)⟩,
  ⟨(some 104), none, .mov (.t 17)⟩,
  ⟨(some 105), none, .iaddr 1 (.t 103) (.t 104)⟩,
  ⟨(some 106), none, .load none (.t 105)⟩,
  ⟨(some 107), none, .bin .add (.c (.str [40, 47, 92])) (.t 106)⟩,
  ⟨(some 108), none, .bin .add (.t 107) (.c (.str [32, 45, 62, 32]))⟩,
  ⟨(some 109), none, .mov (.t 15)⟩,
  ⟨(some 110), none, .bin .add (.t 108) (.t 109)⟩,
  ⟨(some 111), none, .bin .add (.t 110) (.c (.str [41]))⟩,
  ⟨(some 15), none, .mov (.t 111)⟩])))))
 (.reg [⟨(some 71), none, .mov (.t 16)⟩,
  ⟨(some 72), none, .bin .add (.t 71) (.c (.int .i64 1))⟩,
  ⟨(some 16), none, .mov (.t 72)⟩]))))))
 (.seq (.reg [⟨(some 112), none, .call 0 [] (.c (.fn 14 [])) [(.c (.str [98]))]⟩,
  ⟨(some 18), none, .alloc [(.int .i64 0), (.str []), (.int .i64 0), (.int .i64 0), (.str []), (.sl .clip []), (.sl .clip []), (.sl .clip []), (.sl .clip [])] false⟩,
  ⟨none, none, .store 9 (.t 18) (.t 112)⟩])
 (.seq (.reg [⟨(some 113), none, .mov (.t 5)⟩,
  ⟨(some 114), none, .mov (.t 113)⟩,
  ⟨(some 115), (some (114, true)), .load (some 9) (.t 7)⟩,
  ⟨(some 116), (some (114, true)), .mov (.t 8)⟩,
  ⟨(some 117), (some (114, true)), .call 0 [] (.c (.fn 18 [])) [(.t 115), (.t 116)]⟩,
  ⟨(some 118), (some (114, true)), .call 0 [] (.c (.fn 17 [])) [(.t 117)]⟩,
  ⟨(some 119), (some (114, true)), .mov (.t 11)⟩,
  ⟨(some 120), (some (114, true)), .bin .eql (.t 118) (.t 119)⟩,
  ⟨(some 121), none, .pick (.t 114) (.t 120) (.c (.bool false))⟩,
  ⟨(some 122), none, .mov (.t 121)⟩,
  ⟨(some 123), (some (122, true)), .load (some 9) (.t 18)⟩,
  ⟨(some 124), (some (122, true)), .mov (.t 10)⟩,
  ⟨(some 125), (some (122, true)), .mov (.t 9)⟩,
  ⟨(some 126), (some (122, true)), .call 0 [] (.c (.fn 19 [])) [(.t 123), (.t 124), (.t 125)]⟩,
  ⟨(some 127), (some (122, true)), .call 0 [] (.c (.fn 17 [])) [(.t 126)]⟩,
  ⟨(some 128), (some (122, true)), .mov (.t 12)⟩,
  ⟨(some 129), (some (122, true)), .bin .eql (.t 127) (.t 128)⟩,
  ⟨(some 130), none, .pick (.t 122) (.t 129) (.c (.bool false))⟩,
  ⟨(some 131), none, .mov (.t 130)⟩,
  ⟨(some 132), (some (131, true)), .load (some 9) (.t 7)⟩,
  ⟨(some 133), (some (131, true)), .mov (.t 9)⟩,
  ⟨(some 134), (some (131, true)), .call 0 [] (.c (.fn 20 [])) [(.t 132), (.t 133)]⟩,
  ⟨(some 135), (some (131, true)), .call 0 [] (.c (.fn 17 [])) [(.t 134)]⟩,
  ⟨(some 136), (some (131, true)), .mov (.t 14)⟩,
  ⟨(some 137), (some (131, true)), .bin .eql (.t 135) (.t 136)⟩,
  ⟨(some 138), none, .pick (.t 131) (.t 137) (.c (.bool false))⟩,
  ⟨(some 139), none, .mov (.t 138)⟩,
  ⟨(some 140), (some (139, true)), .load (some 9) (.t 18)⟩,
  ⟨(some 141), (some (139, true)), .mov (.t 10)⟩,
  ⟨(some 142), (some (139, true)), .call 0 [] (.c (.fn 21 [])) [(.t 140), (.t 141)]⟩,
  ⟨(some 143), (some (139, true)), .call 0 [] (.c (.fn 17 [])) [(.t 142)]⟩,
  ⟨(some 144), (some (139, true)), .mov (.t 15)⟩,
  ⟨(some 145), (some (139, true)), .bin .eql (.t 143) (.t 144)⟩,
  ⟨(some 146), none, .pick (.t 139) (.t 145) (.c (.bool false))⟩,
  ⟨(some 4), none, .mov (.t 146)⟩])
 .ret)))))))))))))
/-- paideia/paideialaw17.TermBuilds -/
def ac5 : AF := ⟨(.seq (.reg [⟨(some 4), none, .mov (.c (.bool false))⟩])
 (.seq (.reg [⟨(some 19), none, .call 0 [] (.c (.fn 13 [])) []⟩,
  ⟨(some 5), none, .mov (.t 19)⟩])
 (.seq (.seq (.reg [⟨(some 20), none, .mov (.t 5)⟩,
  ⟨(some 21), none, .not (.t 20)⟩])
 (.cond (.t 21) (.seq (.reg [⟨(some 4), none, .mov (.c (.bool false))⟩])
 .ret)
 .skip))
 (.seq (.seq (.reg [⟨(some 22), none, .mov (.t 0)⟩,
  ⟨(some 23), none, .len 1 (.t 22)⟩,
  ⟨(some 24), none, .bin .gtr (.t 23) (.c (.int .i64 100))⟩])
 (.cond (.t 24) (.seq (.reg [⟨(some 25), none, .mov (.t 5)⟩,
  ⟨(some 4), none, .mov (.t 25)⟩])
 .ret)
 .skip))
 (.seq mid5 rest5))))),
  [.t 4], false, true, 147⟩
theorem co5 : compF Tryd.prog ⟨[32], [(15, [1, 5, 6, 8, 9, 10, 11, 12, 13], [7]), (23, [1, 5, 8, 9, 10, 11, 12, 14, 15, 16], [7])], [], [], [], [], 5, [], [], []⟩ false true Tryd.f5 = some ac5 := by kernel_rfl

/-- paideia/paideialaw17.first -/
def ac13 : AF := ⟨(.seq (.reg [⟨(some 0), none, .mov (.c (.bool false))⟩])
 (.seq (.reg [⟨(some 3), none, .call 0 [] (.c (.fn 14 [])) [(.c (.str [120]))]⟩,
  ⟨(some 1), none, .alloc [(.int .i64 0), (.str []), (.int .i64 0), (.int .i64 0), (.str []), (.sl .clip []), (.sl .clip []), (.sl .clip []), (.sl .clip [])] false⟩,
  ⟨none, none, .store 9 (.t 1) (.t 3)⟩])
 (.seq (.reg [⟨(some 4), none, .load (some 9) (.t 1)⟩,
  ⟨(some 5), none, .load (some 9) (.t 1)⟩,
  ⟨(some 6), none, .bslice [(.int .i64 0), (.str []), (.int .i64 0), (.int .i64 0), (.str []), (.sl .clip []), (.sl .clip []), (.sl .clip []), (.sl .clip [])] 1 [(0, (.t 5))]⟩,
  ⟨(some 7), none, .call 0 [] (.c (.fn 18 [])) [(.t 4), (.t 6)]⟩,
  ⟨(some 8), none, .call 0 [] (.c (.fn 29 [])) [(.t 7)]⟩,
  ⟨(some 2), none, .mov (.t 8)⟩])
 (.seq (.reg [⟨(some 9), none, .load (some 9) (.t 1)⟩,
  ⟨(some 10), none, .call 0 [] (.c (.fn 33 [])) [(.t 9)]⟩,
  ⟨(some 11), none, .bin .eql (.t 10) (.c (.int .i64 1))⟩,
  ⟨(some 12), none, .mov (.t 11)⟩,
  ⟨(some 13), (some (12, true)), .mov (.t 2)⟩,
  ⟨(some 14), (some (12, true)), .len 1 (.t 13)⟩,
  ⟨(some 15), (some (12, true)), .bin .eql (.t 14) (.c (.int .i64 1))⟩,
  ⟨(some 16), none, .pick (.t 12) (.t 15) (.c (.bool false))⟩,
  ⟨(some 17), none, .mov (.t 16)⟩,
  ⟨(some 18), (some (17, true)), .call 0 [] (.c (.fn 34 [])) []⟩,
  ⟨(some 19), (some (17, true)), .len 1 (.t 18)⟩,
  ⟨(some 20), (some (17, true)), .bin .eql (.t 19) (.c (.int .i64 9))⟩,
  ⟨(some 21), none, .pick (.t 17) (.t 20) (.c (.bool false))⟩,
  ⟨(some 0), none, .mov (.t 21)⟩])
 .ret)))),
  [.t 0], false, true, 22⟩
theorem co13 : compF Tryd.prog ⟨[], [], [], [], [], [], 13, [], [], []⟩ false true Tryd.f13 = some ac13 := by kernel_rfl

/-- paideia/term.Var -/
def ac14 : AF := ⟨(.seq (.reg [⟨(some 2), none, .alloc [(.int .i64 0), (.str []), (.int .i64 0), (.int .i64 0), (.str []), (.sl .clip []), (.sl .clip []), (.sl .clip []), (.sl .clip [])] false⟩])
 (.seq (.reg [⟨(some 3), none, .mov (.t 0)⟩,
  ⟨(some 4), none, .build [(.int .i64 0), (.str []), (.int .i64 0), (.int .i64 0), (.str []), (.sl .clip []), (.sl .clip []), (.sl .clip []), (.sl .clip [])] [(0, 1, (.c (.int .i64 1))), (1, 1, (.t 3))]⟩,
  ⟨none, none, .store 9 (.t 2) (.t 4)⟩])
 .ret)),
  [.cell 2 (some 9)], false, true, 5⟩
theorem co14 : compF Tryd.prog ⟨[], [], [], [], [], [], 14, [], [], []⟩ false true Tryd.f14 = some ac14 := by kernel_rfl

/-- paideia/paideiaref4.Con -/
def ac15 : AF := ⟨(.seq (.reg [⟨(some 4), none, .alloc [(.int .i64 0), (.str []), (.sl .clip [])] false⟩])
 (.seq (.reg [⟨(some 5), none, .mov (.t 0)⟩,
  ⟨(some 6), none, .mov (.t 1)⟩,
  ⟨(some 7), none, .build [(.int .i64 0), (.str []), (.sl .clip [])] [(0, 1, (.c (.int .i64 2))), (1, 1, (.t 5)), (2, 1, (.t 6))]⟩,
  ⟨none, none, .store 3 (.t 4) (.t 7)⟩])
 .ret)),
  [.cell 4 (some 3)], false, true, 8⟩
theorem co15 : compF Tryd.prog ⟨[], [], [], [], [], [], 15, [], [], []⟩ false true Tryd.f15 = some ac15 := by kernel_rfl

/-- (*paideia/paideiamake.Seq).Next -/
def ac16 : AF := ⟨(.seq (.reg [⟨(some 4), none, .mov (.c (.int .i64 0))⟩])
 (.seq (.reg [⟨(some 5), none, .mov (.c (.int .i64 0))⟩])
 (.seq (.seq (.reg [⟨(some 6), none, .mov (.t 0)⟩,
  ⟨(some 7), none, .nilck (.t 6)⟩,
  ⟨(some 8), none, .faddr 1 (.t 7)⟩,
  ⟨(some 9), none, .load none (.t 8)⟩,
  ⟨(some 10), none, .mov (.t 0)⟩,
  ⟨(some 11), none, .nilck (.t 10)⟩,
  ⟨(some 12), none, .faddr 0 (.t 11)⟩,
  ⟨(some 13), none, .load none (.t 12)⟩,
  ⟨(some 14), none, .len 1 (.t 13)⟩,
  ⟨(some 15), none, .bin .lss (.t 9) (.t 14)⟩])
 (.cond (.t 15) (.reg [⟨(some 16), none, .mov (.t 0)⟩,
  ⟨(some 17), none, .nilck (.t 16)⟩,
  ⟨(some 18), none, .faddr 0 (.t 17)⟩,
  ⟨(some 19), none, .load none (.t 18)⟩,
  ⟨(some 20), none, .mov (.t 0)⟩,
  ⟨(some 21), none, .nilck (.t 20)⟩,
  ⟨(some 22), none, .faddr 1 (.t 21)⟩,
  ⟨(some 23), none, .load none (.t 22)⟩,
  ⟨(some 24), none, .iaddr 1 (.t 19) (.t 23)⟩,
  ⟨(some 25), none, .load none (.t 24)⟩,
  ⟨(some 5), none, .mov (.t 25)⟩])
 .skip))
 (.seq (.reg [⟨(some 26), none, .mov (.t 0)⟩,
  ⟨(some 27), none, .mov (.t 0)⟩,
  ⟨(some 28), none, .nilck (.t 27)⟩,
  ⟨(some 29), none, .faddr 1 (.t 28)⟩,
  ⟨(some 30), none, .load none (.t 29)⟩,
  ⟨(some 31), none, .bin .add (.t 30) (.c (.int .i64 1))⟩,
  ⟨(some 32), none, .nilck (.t 26)⟩,
  ⟨(some 33), none, .faddr 1 (.t 32)⟩,
  ⟨none, none, .store 1 (.t 33) (.t 31)⟩])
 (.seq (.reg [⟨(some 34), none, .mov (.t 5)⟩,
  ⟨(some 35), none, .mov (.t 1)⟩,
  ⟨(some 36), none, .call 0 [] (.c (.fn 35 [])) [(.t 34), (.t 35)]⟩,
  ⟨(some 4), none, .mov (.t 36)⟩])
 .ret))))),
  [.t 4], false, true, 37⟩
theorem co16 : compF Tryd.prog ⟨[], [], [], [], [], [], 16, [], [], []⟩ false true Tryd.f16 = some ac16 := by kernel_rfl

/-- paideia/term.Show -/
def ac17 : AF := ⟨(.seq (.reg [⟨(some 1), none, .box (.t 0) 9 false⟩,
  ⟨(some 2), none, .mov (.c (.str []))⟩])
 (.seq (.seq (.reg [⟨(some 3), none, .faddr 0 (.t 1)⟩,
  ⟨(some 4), none, .load none (.t 3)⟩])
 (.block 0 (.seq (.seq (.reg [⟨(some 6), none, .bin .eql (.t 4) (.c (.int .i64 1))⟩,
  ⟨(some 5), none, .mov (.t 6)⟩])
 (.cond (.t 5) .skip
 (.seq (.reg [⟨(some 7), none, .bin .eql (.t 4) (.c (.int .i64 2))⟩,
  ⟨(some 5), none, .mov (.t 7)⟩])
 (.cond (.t 5) .skip
 (.reg [⟨(some 8), none, .bin .eql (.t 4) (.c (.int .i64 11))⟩,
  ⟨(some 5), none, .mov (.t 8)⟩])))))
 (.cond (.t 5) (.seq (.reg [⟨(some 9), none, .faddr 1 (.t 1)⟩,
  ⟨(some 10), none, .load none (.t 9)⟩,
  ⟨(some 11), none, .call 0 [] (.c (.fn 36 [])) [(.t 10)]⟩,
  ⟨(some 2), none, .mov (.t 11)⟩])
 .ret)
 (.seq (.reg [⟨(some 13), none, .bin .eql (.t 4) (.c (.int .i64 3))⟩,
  ⟨(some 12), none, .mov (.t 13)⟩])
 (.cond (.t 12) (.seq (.reg [⟨(some 14), none, .faddr 2 (.t 1)⟩,
  ⟨(some 15), none, .load none (.t 14)⟩,
  ⟨(some 16), none, .call 0 [] (.c (.fn 37 [])) [(.t 15), (.c (.int .i64 10))]⟩,
  ⟨(some 2), none, .mov (.t 16)⟩])
 .ret)
 (.seq (.reg [⟨(some 18), none, .bin .eql (.t 4) (.c (.int .i64 4))⟩,
  ⟨(some 17), none, .mov (.t 18)⟩])
 (.cond (.t 17) (.seq (.reg [⟨(some 19), none, .faddr 2 (.t 1)⟩,
  ⟨(some 20), none, .load none (.t 19)⟩,
  ⟨(some 21), none, .call 0 [] (.c (.fn 38 [])) [(.t 20)]⟩,
  ⟨(some 2), none, .mov (.t 21)⟩])
 .ret)
 (.seq (.reg [⟨(some 23), none, .bin .eql (.t 4) (.c (.int .i64 5))⟩,
  ⟨(some 22), none, .mov (.t 23)⟩])
 (.cond (.t 22) (.seq (.reg [⟨(some 24), none, .load (some 9) (.t 1)⟩,
  ⟨(some 25), none, .call 0 [] (.c (.fn 39 [])) [(.t 24), (.c (.int .i64 0))]⟩,
  ⟨(some 26), none, .call 0 [] (.c (.fn 17 [])) [(.t 25)]⟩,
  ⟨(some 27), none, .bin .add (.c (.str [40])) (.t 26)⟩,
  ⟨(some 28), none, .bin .add (.t 27) (.c (.str [32]))⟩,
  ⟨(some 29), none, .loadL (some 9) (.t 1)⟩,
  ⟨(some 30), none, .call 0 [] (.c (.fn 39 [])) [(.t 29), (.c (.int .i64 1))]⟩,
  ⟨(some 31), none, .call 0 [] (.c (.fn 17 [])) [(.t 30)]⟩,
  ⟨(some 32), none, .bin .add (.t 28) (.t 31)⟩,
  ⟨(some 33), none, .bin .add (.t 32) (.c (.str [41]))⟩,
  ⟨(some 2), none, .mov (.t 33)⟩])
 .ret)
 (.seq (.reg [⟨(some 35), none, .bin .eql (.t 4) (.c (.int .i64 6))⟩,
  ⟨(some 34), none, .mov (.t 35)⟩])
 (.cond (.t 34) (.seq (.reg [⟨(some 36), none, .faddr 1 (.t 1)⟩,
  ⟨(some 37), none, .loadL none (.t 36)⟩,
  ⟨(some 38), none, .bin .add (.c (.str [40, 92])) (.t 37)⟩,
  ⟨(some 39), none, .bin .add (.t 38) (.c (.str [32, 58, 32]))⟩,
  ⟨(some 40), none, .faddr 3 (.t 1)⟩,
  ⟨(some 41), none, .load (some 3) (.t 40)⟩,
  ⟨(some 42), none, .call 0 [] (.c (.fn 40 [])) [(.t 41)]⟩,
  ⟨(some 43), none, .bin .add (.t 39) (.t 42)⟩,
  ⟨(some 44), none, .bin .add (.t 43) (.c (.str [32, 45, 62, 32]))⟩,
  ⟨(some 45), none, .loadL (some 9) (.t 1)⟩,
  ⟨(some 46), none, .call 0 [] (.c (.fn 39 [])) [(.t 45), (.c (.int .i64 0))]⟩,
  ⟨(some 47), none, .call 0 [] (.c (.fn 17 [])) [(.t 46)]⟩,
  ⟨(some 48), none, .bin .add (.t 44) (.t 47)⟩,
  ⟨(some 49), none, .bin .add (.t 48) (.c (.str [41]))⟩,
  ⟨(some 2), none, .mov (.t 49)⟩])
 .ret)
 (.seq (.reg [⟨(some 51), none, .bin .eql (.t 4) (.c (.int .i64 7))⟩,
  ⟨(some 50), none, .mov (.t 51)⟩])
 (.cond (.t 50) (.seq (.reg [⟨(some 52), none, .load (some 9) (.t 1)⟩,
  ⟨(some 53), none, .call 0 [] (.c (.fn 39 [])) [(.t 52), (.c (.int .i64 0))]⟩,
  ⟨(some 54), none, .call 0 [] (.c (.fn 17 [])) [(.t 53)]⟩,
  ⟨(some 55), none, .bin .add (.c (.str [40])) (.t 54)⟩,
  ⟨(some 56), none, .bin .add (.t 55) (.c (.str [32, 64]))⟩,
  ⟨(some 57), none, .faddr 3 (.t 1)⟩,
  ⟨(some 58), none, .loadL (some 3) (.t 57)⟩,
  ⟨(some 59), none, .call 0 [] (.c (.fn 41 [])) [(.t 58)]⟩,
  ⟨(some 60), none, .bin .add (.t 56) (.t 59)⟩,
  ⟨(some 61), none, .bin .add (.t 60) (.c (.str [41]))⟩,
  ⟨(some 2), none, .mov (.t 61)⟩])
 .ret)
 (.seq (.reg [⟨(some 63), none, .bin .eql (.t 4) (.c (.int .i64 8))⟩,
  ⟨(some 62), none, .mov (.t 63)⟩])
 (.cond (.t 62) (.seq (.reg [⟨(some 64), none, .faddr 1 (.t 1)⟩,
  ⟨(some 65), none, .loadL none (.t 64)⟩,
  ⟨(some 66), none, .bin .add (.c (.str [40, 47, 92])) (.t 65)⟩,
  ⟨(some 67), none, .bin .add (.t 66) (.c (.str [32, 45, 62, 32]))⟩,
  ⟨(some 68), none, .load (some 9) (.t 1)⟩,
  ⟨(some 69), none, .call 0 [] (.c (.fn 39 [])) [(.t 68), (.c (.int .i64 0))]⟩,
  ⟨(some 70), none, .call 0 [] (.c (.fn 17 [])) [(.t 69)]⟩,
  ⟨(some 71), none, .bin .add (.t 67) (.t 70)⟩,
  ⟨(some 72), none, .bin .add (.t 71) (.c (.str [41]))⟩,
  ⟨(some 2), none, .mov (.t 72)⟩])
 .ret)
 (.seq (.reg [⟨(some 74), none, .bin .eql (.t 4) (.c (.int .i64 9))⟩,
  ⟨(some 73), none, .mov (.t 74)⟩])
 (.cond (.t 73) (.seq (.reg [⟨(some 75), none, .faddr 8 (.t 1)⟩,
  ⟨(some 76), none, .load none (.t 75)⟩,
  ⟨(some 77), none, .call 0 [] (.c (.fn 42 [])) [(.t 76), (.c (.fn 43 []))]⟩,
  ⟨(some 78), none, .bin .add (.c (.str [40, 108, 101, 116, 32])) (.t 77)⟩,
  ⟨(some 79), none, .bin .add (.t 78) (.c (.str [32, 105, 110, 32]))⟩,
  ⟨(some 80), none, .loadL (some 9) (.t 1)⟩,
  ⟨(some 81), none, .call 0 [] (.c (.fn 39 [])) [(.t 80), (.c (.int .i64 0))]⟩,
  ⟨(some 82), none, .call 0 [] (.c (.fn 17 [])) [(.t 81)]⟩,
  ⟨(some 83), none, .bin .add (.t 79) (.t 82)⟩,
  ⟨(some 84), none, .bin .add (.t 83) (.c (.str [41]))⟩,
  ⟨(some 2), none, .mov (.t 84)⟩])
 .ret)
 (.seq (.reg [⟨(some 86), none, .bin .eql (.t 4) (.c (.int .i64 10))⟩,
  ⟨(some 85), none, .mov (.t 86)⟩])
 (.cond (.t 85) (.seq (.reg [⟨(some 87), none, .load (some 9) (.t 1)⟩,
  ⟨(some 88), none, .call 0 [] (.c (.fn 39 [])) [(.t 87), (.c (.int .i64 0))]⟩,
  ⟨(some 89), none, .call 0 [] (.c (.fn 17 [])) [(.t 88)]⟩,
  ⟨(some 90), none, .bin .add (.c (.str [40, 99, 97, 115, 101, 32])) (.t 89)⟩,
  ⟨(some 91), none, .bin .add (.t 90) (.c (.str [32, 58, 32]))⟩,
  ⟨(some 92), none, .faddr 3 (.t 1)⟩,
  ⟨(some 93), none, .loadL (some 3) (.t 92)⟩,
  ⟨(some 94), none, .call 0 [] (.c (.fn 40 [])) [(.t 93)]⟩,
  ⟨(some 95), none, .bin .add (.t 91) (.t 94)⟩,
  ⟨(some 96), none, .bin .add (.t 95) (.c (.str [32, 111, 102, 32]))⟩,
  ⟨(some 97), none, .faddr 7 (.t 1)⟩,
  ⟨(some 98), none, .loadL none (.t 97)⟩,
  ⟨(some 99), none, .call 0 [] (.c (.fn 44 [])) [(.t 98), (.c (.fn 45 []))]⟩,
  ⟨(some 100), none, .bin .add (.t 96) (.t 99)⟩,
  ⟨(some 101), none, .bin .add (.t 100) (.c (.str [41]))⟩,
  ⟨(some 2), none, .mov (.t 101)⟩])
 .ret)
 .skip))))))))))))))))))))
 (.seq (.reg [⟨(some 2), none, .mov (.c (.str []))⟩])
 .ret))),
  [.t 2], false, true, 102⟩
theorem co17 : compF Tryd.prog ⟨[], [], [], [], [], [], 17, [], [], []⟩ false true Tryd.f17 = some ac17 := by kernel_rfl

/-- paideia/term.App -/
def ac18 : AF := ⟨(.seq (.reg [⟨(some 2), none, .box (.t 0) 9 false⟩,
  ⟨(some 4), none, .alloc [(.int .i64 0), (.str []), (.int .i64 0), (.int .i64 0), (.str []), (.sl .clip []), (.sl .clip []), (.sl .clip []), (.sl .clip [])] false⟩])
 (.seq (.seq (.reg [⟨(some 7), none, .mov (.t 1)⟩,
  ⟨(some 8), none, .len 1 (.t 7)⟩,
  ⟨(some 9), none, .mov (.c (.int .i64 0))⟩])
 (.block 0 (.loop [7, 8, 9] [2, 4] (.seq (.reg [⟨(some 10), none, .bin .lss (.t 9) (.t 8)⟩])
 (.seq (.cond (.t 10) .skip
 (.exit 0))
 (.seq (.block 1 (.seq (.reg [⟨(some 11), none, .iaddr 9 (.t 7) (.t 9)⟩,
  ⟨(some 12), none, .load (some 9) (.t 11)⟩,
  ⟨(some 6), none, .alloc [(.int .i64 0), (.str []), (.int .i64 0), (.int .i64 0), (.str []), (.sl .clip []), (.sl .clip []), (.sl .clip []), (.sl .clip [])] false⟩,
  ⟨none, none, .store 9 (.t 6) (.t 12)⟩])
 (.reg [⟨(some 13), none, .load (some 9) (.t 2)⟩,
  ⟨(some 14), none, .load (some 9) (.t 6)⟩,
  ⟨(some 15), none, .bslice [(.int .i64 0), (.str []), (.int .i64 0), (.int .i64 0), (.str []), (.sl .clip []), (.sl .clip []), (.sl .clip []), (.sl .clip [])] 2 [(0, (.t 13)), (1, (.t 14))]⟩,
  ⟨(some 16), none, .build [(.int .i64 0), (.str []), (.int .i64 0), (.int .i64 0), (.str []), (.sl .clip []), (.sl .clip []), (.sl .clip []), (.sl .clip [])] [(0, 1, (.c (.int .i64 5))), (6, 1, (.t 15))]⟩,
  ⟨none, none, .store 9 (.t 2) (.t 16)⟩])))
 (.reg [⟨(some 17), none, .bin .add (.t 9) (.c (.int .i64 1))⟩,
  ⟨(some 9), none, .mov (.t 17)⟩])))))))
 (.seq (.reg [⟨(some 18), none, .load (some 9) (.t 2)⟩,
  ⟨none, none, .store 9 (.t 4) (.t 18)⟩])
 .ret))),
  [.cell 4 (some 9)], false, true, 19⟩
theorem co18 : compF Tryd.prog ⟨[], [(2, [7, 8, 9], [2, 4])], [], [], [], [], 18, [], [], []⟩ false true Tryd.f18 = some ac18 := by kernel_rfl

/-- paideia/term.Lam -/
def ac19 : AF := ⟨(.seq (.reg [⟨(some 3), none, .box (.t 0) 9 false⟩,
  ⟨(some 6), none, .alloc [(.int .i64 0), (.str []), (.int .i64 0), (.int .i64 0), (.str []), (.sl .clip []), (.sl .clip []), (.sl .clip []), (.sl .clip [])] false⟩])
 (.seq (.seq (.reg [⟨(some 8), none, .mov (.t 1)⟩,
  ⟨(some 9), none, .len 1 (.t 8)⟩,
  ⟨(some 10), none, .mov (.t 2)⟩,
  ⟨(some 11), none, .len 1 (.t 10)⟩,
  ⟨(some 12), none, .bmin (.t 9) (.t 11)⟩,
  ⟨(some 13), none, .bin .sub (.t 12) (.c (.int .i64 1))⟩,
  ⟨(some 7), none, .mov (.t 13)⟩])
 (.block 0 (.loop [1, 2, 7] [3, 6] (.seq (.seq (.reg [⟨(some 14), none, .mov (.t 7)⟩,
  ⟨(some 15), none, .bin .geq (.t 14) (.c (.int .i64 0))⟩])
 (.cond (.t 15) .skip
 (.exit 0)))
 (.seq (.block 1 (.reg [⟨(some 18), none, .mov (.t 1)⟩,
  ⟨(some 19), none, .mov (.t 7)⟩,
  ⟨(some 20), none, .iaddr 1 (.t 18) (.t 19)⟩,
  ⟨(some 21), none, .load none (.t 20)⟩,
  ⟨(some 22), none, .mov (.t 2)⟩,
  ⟨(some 23), none, .mov (.t 7)⟩,
  ⟨(some 24), none, .iaddr 3 (.t 22) (.t 23)⟩,
  ⟨(some 25), none, .load (some 3) (.t 24)⟩,
  ⟨(some 26), none, .load (some 9) (.t 3)⟩,
  ⟨(some 27), none, .bslice [(.int .i64 0), (.str []), (.int .i64 0), (.int .i64 0), (.str []), (.sl .clip []), (.sl .clip []), (.sl .clip []), (.sl .clip [])] 1 [(0, (.t 26))]⟩,
  ⟨(some 28), none, .build [(.int .i64 0), (.str []), (.int .i64 0), (.int .i64 0), (.str []), (.sl .clip []), (.sl .clip []), (.sl .clip []), (.sl .clip [])] [(0, 1, (.c (.int .i64 6))), (1, 1, (.t 21)), (3, 3, (.t 25)), (6, 1, (.t 27))]⟩,
  ⟨none, none, .store 9 (.t 3) (.t 28)⟩]))
 (.reg [⟨(some 16), none, .mov (.t 7)⟩,
  ⟨(some 17), none, .bin .sub (.t 16) (.c (.int .i64 1))⟩,
  ⟨(some 7), none, .mov (.t 17)⟩]))))))
 (.seq (.reg [⟨(some 29), none, .load (some 9) (.t 3)⟩,
  ⟨none, none, .store 9 (.t 6) (.t 29)⟩])
 .ret))),
  [.cell 6 (some 9)], false, true, 30⟩
theorem co19 : compF Tryd.prog ⟨[], [(2, [1, 2, 7], [3, 6])], [], [], [], [], 19, [], [], []⟩ false true Tryd.f19 = some ac19 := by kernel_rfl

/-- paideia/term.TApp -/
def ac20 : AF := ⟨(.seq (.reg [⟨(some 2), none, .box (.t 0) 9 false⟩,
  ⟨(some 4), none, .alloc [(.int .i64 0), (.str []), (.int .i64 0), (.int .i64 0), (.str []), (.sl .clip []), (.sl .clip []), (.sl .clip []), (.sl .clip [])] false⟩])
 (.seq (.seq (.reg [⟨(some 7), none, .mov (.t 1)⟩,
  ⟨(some 8), none, .len 1 (.t 7)⟩,
  ⟨(some 9), none, .mov (.c (.int .i64 0))⟩])
 (.block 0 (.loop [7, 8, 9] [2, 4] (.seq (.reg [⟨(some 10), none, .bin .lss (.t 9) (.t 8)⟩])
 (.seq (.cond (.t 10) .skip
 (.exit 0))
 (.seq (.block 1 (.seq (.reg [⟨(some 11), none, .iaddr 3 (.t 7) (.t 9)⟩,
  ⟨(some 12), none, .load (some 3) (.t 11)⟩,
  ⟨(some 6), none, .alloc [(.int .i64 0), (.str []), (.sl .clip [])] false⟩,
  ⟨none, none, .store 3 (.t 6) (.t 12)⟩])
 (.reg [⟨(some 13), none, .load (some 3) (.t 6)⟩,
  ⟨(some 14), none, .load (some 9) (.t 2)⟩,
  ⟨(some 15), none, .bslice [(.int .i64 0), (.str []), (.int .i64 0), (.int .i64 0), (.str []), (.sl .clip []), (.sl .clip []), (.sl .clip []), (.sl .clip [])] 1 [(0, (.t 14))]⟩,
  ⟨(some 16), none, .build [(.int .i64 0), (.str []), (.int .i64 0), (.int .i64 0), (.str []), (.sl .clip []), (.sl .clip []), (.sl .clip []), (.sl .clip [])] [(0, 1, (.c (.int .i64 7))), (3, 3, (.t 13)), (6, 1, (.t 15))]⟩,
  ⟨none, none, .store 9 (.t 2) (.t 16)⟩])))
 (.reg [⟨(some 17), none, .bin .add (.t 9) (.c (.int .i64 1))⟩,
  ⟨(some 9), none, .mov (.t 17)⟩])))))))
 (.seq (.reg [⟨(some 18), none, .load (some 9) (.t 2)⟩,
  ⟨none, none, .store 9 (.t 4) (.t 18)⟩])
 .ret))),
  [.cell 4 (some 9)], false, true, 19⟩
theorem co20 : compF Tryd.prog ⟨[], [(2, [7, 8, 9], [2, 4])], [], [], [], [], 20, [], [], []⟩ false true Tryd.f20 = some ac20 := by kernel_rfl

/-- paideia/term.TLam -/
def ac21 : AF := ⟨(.seq (.reg [⟨(some 2), none, .box (.t 0) 9 false⟩,
  ⟨(some 4), none, .alloc [(.int .i64 0), (.str []), (.int .i64 0), (.int .i64 0), (.str []), (.sl .clip []), (.sl .clip []), (.sl .clip []), (.sl .clip [])] false⟩])
 (.seq (.seq (.reg [⟨(some 6), none, .mov (.t 1)⟩,
  ⟨(some 7), none, .len 1 (.t 6)⟩,
  ⟨(some 8), none, .bin .sub (.t 7) (.c (.int .i64 1))⟩,
  ⟨(some 5), none, .mov (.t 8)⟩])
 (.block 0 (.loop [1, 5] [2, 4] (.seq (.seq (.reg [⟨(some 9), none, .mov (.t 5)⟩,
  ⟨(some 10), none, .bin .geq (.t 9) (.c (.int .i64 0))⟩])
 (.cond (.t 10) .skip
 (.exit 0)))
 (.seq (.block 1 (.reg [⟨(some 13), none, .mov (.t 1)⟩,
  ⟨(some 14), none, .mov (.t 5)⟩,
  ⟨(some 15), none, .iaddr 1 (.t 13) (.t 14)⟩,
  ⟨(some 16), none, .load none (.t 15)⟩,
  ⟨(some 17), none, .load (some 9) (.t 2)⟩,
  ⟨(some 18), none, .bslice [(.int .i64 0), (.str []), (.int .i64 0), (.int .i64 0), (.str []), (.sl .clip []), (.sl .clip []), (.sl .clip []), (.sl .clip [])] 1 [(0, (.t 17))]⟩,
  ⟨(some 19), none, .build [(.int .i64 0), (.str []), (.int .i64 0), (.int .i64 0), (.str []), (.sl .clip []), (.sl .clip []), (.sl .clip []), (.sl .clip [])] [(0, 1, (.c (.int .i64 8))), (1, 1, (.t 16)), (6, 1, (.t 18))]⟩,
  ⟨none, none, .store 9 (.t 2) (.t 19)⟩]))
 (.reg [⟨(some 11), none, .mov (.t 5)⟩,
  ⟨(some 12), none, .bin .sub (.t 11) (.c (.int .i64 1))⟩,
  ⟨(some 5), none, .mov (.t 12)⟩]))))))
 (.seq (.reg [⟨(some 20), none, .load (some 9) (.t 2)⟩,
  ⟨none, none, .store 9 (.t 4) (.t 20)⟩])
 .ret))),
  [.cell 4 (some 9)], false, true, 21⟩
theorem co21 : compF Tryd.prog ⟨[], [(2, [1, 5], [2, 4])], [], [], [], [], 21, [], [], []⟩ false true Tryd.f21 = some ac21 := by kernel_rfl

/-- paideia/term.Free -/
def ac29 : AF := ⟨(.seq (.reg [⟨(some 1), none, .box (.t 0) 9 false⟩,
  ⟨(some 2), none, .mov (.c (.sl .clip []))⟩])
 (.seq (.reg [⟨(some 4), none, .mkmap⟩,
  ⟨(some 5), none, .mkmap⟩,
  ⟨(some 6), none, .build [(.map none), (.map none), (.sl .clip [])] [(0, 1, (.t 4)), (1, 1, (.t 5))]⟩,
  ⟨(some 7), none, .box (.t 6) 3 true⟩,
  ⟨(some 3), none, .mov (.t 7)⟩])
 (.seq (.reg [⟨(some 8), none, .mov (.t 3)⟩,
  ⟨(some 9), none, .load (some 9) (.t 1)⟩,
  ⟨(some 10), none, .call 0 [] (.c (.fn 56 [])) [(.t 8), (.t 9)]⟩])
 (.seq (.reg [⟨(some 11), none, .mov (.t 3)⟩,
  ⟨(some 12), none, .nilck (.t 11)⟩,
  ⟨(some 13), none, .faddr 2 (.t 12)⟩,
  ⟨(some 14), none, .load none (.t 13)⟩,
  ⟨(some 2), none, .mov (.t 14)⟩])
 .ret)))),
  [.t 2], false, true, 15⟩
theorem co29 : compF Tryd.prog ⟨[7], [], [], [], [], [], 29, [], [], []⟩ false true Tryd.f29 = some ac29 := by kernel_rfl

/-- paideia/term.Size -/
def ac33 : AF := ⟨(.seq (.reg [⟨(some 1), none, .box (.t 0) 9 false⟩,
  ⟨(some 2), none, .mov (.c (.int .i64 0))⟩])
 (.seq (.reg [⟨(some 3), none, .mov (.c (.int .i64 1))⟩])
 (.seq (.seq (.reg [⟨(some 10), none, .faddr 6 (.t 1)⟩,
  ⟨(some 11), none, .load none (.t 10)⟩,
  ⟨(some 12), none, .len 1 (.t 11)⟩,
  ⟨(some 13), none, .mov (.c (.int .i64 0))⟩])
 (.block 0 (.loop [3, 11, 12, 13] [1] (.seq (.reg [⟨(some 14), none, .bin .lss (.t 13) (.t 12)⟩])
 (.seq (.cond (.t 14) .skip
 (.exit 0))
 (.seq (.block 1 (.seq (.reg [⟨(some 15), none, .iaddr 9 (.t 11) (.t 13)⟩,
  ⟨(some 16), none, .load (some 9) (.t 15)⟩,
  ⟨(some 5), none, .alloc [(.int .i64 0), (.str []), (.int .i64 0), (.int .i64 0), (.str []), (.sl .clip []), (.sl .clip []), (.sl .clip []), (.sl .clip [])] false⟩,
  ⟨none, none, .store 9 (.t 5) (.t 16)⟩])
 (.reg [⟨(some 17), none, .mov (.t 3)⟩,
  ⟨(some 18), none, .load (some 9) (.t 5)⟩,
  ⟨(some 19), none, .call 0 [] (.c (.fn 33 [])) [(.t 18)]⟩,
  ⟨(some 20), none, .bin .add (.t 17) (.t 19)⟩,
  ⟨(some 3), none, .mov (.t 20)⟩])))
 (.reg [⟨(some 21), none, .bin .add (.t 13) (.c (.int .i64 1))⟩,
  ⟨(some 13), none, .mov (.t 21)⟩])))))))
 (.seq (.seq (.reg [⟨(some 22), none, .faddr 7 (.t 1)⟩,
  ⟨(some 23), none, .load none (.t 22)⟩,
  ⟨(some 24), none, .len 1 (.t 23)⟩,
  ⟨(some 25), none, .mov (.c (.int .i64 0))⟩])
 (.block 2 (.loop [3, 23, 24, 25] [1] (.seq (.reg [⟨(some 26), none, .bin .lss (.t 25) (.t 24)⟩])
 (.seq (.cond (.t 26) .skip
 (.exit 2))
 (.seq (.block 3 (.seq (.reg [⟨(some 27), none, .iaddr 11 (.t 23) (.t 25)⟩,
  ⟨(some 28), none, .load (some 11) (.t 27)⟩,
  ⟨(some 7), none, .alloc [(.str []), (.sl .clip []), (.int .i64 0), (.str []), (.int .i64 0), (.int .i64 0), (.str []), (.sl .clip []), (.sl .clip []), (.sl .clip []), (.sl .clip [])] false⟩,
  ⟨none, none, .store 11 (.t 7) (.t 28)⟩])
 (.reg [⟨(some 29), none, .mov (.t 3)⟩,
  ⟨(some 30), none, .faddr 2 (.t 7)⟩,
  ⟨(some 31), none, .load (some 9) (.t 30)⟩,
  ⟨(some 32), none, .call 0 [] (.c (.fn 33 [])) [(.t 31)]⟩,
  ⟨(some 33), none, .bin .add (.t 29) (.t 32)⟩,
  ⟨(some 3), none, .mov (.t 33)⟩])))
 (.reg [⟨(some 34), none, .bin .add (.t 25) (.c (.int .i64 1))⟩,
  ⟨(some 25), none, .mov (.t 34)⟩])))))))
 (.seq (.seq (.reg [⟨(some 35), none, .faddr 8 (.t 1)⟩,
  ⟨(some 36), none, .load none (.t 35)⟩,
  ⟨(some 37), none, .len 1 (.t 36)⟩,
  ⟨(some 38), none, .mov (.c (.int .i64 0))⟩])
 (.block 4 (.loop [3, 36, 37, 38] [] (.seq (.reg [⟨(some 39), none, .bin .lss (.t 38) (.t 37)⟩])
 (.seq (.cond (.t 39) .skip
 (.exit 4))
 (.seq (.block 5 (.seq (.reg [⟨(some 40), none, .iaddr 13 (.t 36) (.t 38)⟩,
  ⟨(some 41), none, .load (some 13) (.t 40)⟩,
  ⟨(some 9), none, .alloc [(.str []), (.int .i64 0), (.str []), (.sl .clip []), (.int .i64 0), (.str []), (.int .i64 0), (.int .i64 0), (.str []), (.sl .clip []), (.sl .clip []), (.sl .clip []), (.sl .clip [])] false⟩,
  ⟨none, none, .store 13 (.t 9) (.t 41)⟩])
 (.reg [⟨(some 42), none, .mov (.t 3)⟩,
  ⟨(some 43), none, .faddr 4 (.t 9)⟩,
  ⟨(some 44), none, .load (some 9) (.t 43)⟩,
  ⟨(some 45), none, .call 0 [] (.c (.fn 33 [])) [(.t 44)]⟩,
  ⟨(some 46), none, .bin .add (.t 42) (.t 45)⟩,
  ⟨(some 3), none, .mov (.t 46)⟩])))
 (.reg [⟨(some 47), none, .bin .add (.t 38) (.c (.int .i64 1))⟩,
  ⟨(some 38), none, .mov (.t 47)⟩])))))))
 (.seq (.reg [⟨(some 48), none, .mov (.t 3)⟩,
  ⟨(some 2), none, .mov (.t 48)⟩])
 .ret)))))),
  [.t 2], false, true, 49⟩
theorem co33 : compF Tryd.prog ⟨[], [(3, [3, 11, 12, 13], [1]), (8, [3, 23, 24, 25], [1]), (13, [3, 36, 37, 38], [])], [], [], [], [], 33, [], [], []⟩ false true Tryd.f33 = some ac33 := by kernel_rfl

/-- paideia/term.Prims -/
def ac34 : AF := ⟨(.seq (.reg [⟨(some 0), none, .mov (.c (.sl .clip []))⟩])
 (.seq (.reg [⟨(some 1), none, .bslice [(.str [])] 9 [(0, (.c (.str [112, 114, 105, 109, 73, 110, 116, 69, 113]))), (1, (.c (.str [112, 114, 105, 109, 73, 110, 116, 76, 101, 115, 115]))), (2, (.c (.str [112, 114, 105, 109, 73, 110, 116, 65, 100, 100]))), (3, (.c (.str [112, 114, 105, 109, 73, 110, 116, 83, 117, 98]))), (4, (.c (.str [112, 114, 105, 109, 73, 110, 116, 77, 117, 108]))), (5, (.c (.str [112, 114, 105, 109, 73, 110, 116, 83, 104, 111, 119]))), (6, (.c (.str [112, 114, 105, 109, 67, 104, 97, 114, 69, 113]))), (7, (.c (.str [112, 114, 105, 109, 67, 104, 97, 114, 76, 101, 115, 115]))), (8, (.c (.str [112, 114, 105, 109, 67, 104, 97, 114, 83, 104, 111, 119])))]⟩,
  ⟨(some 0), none, .mov (.t 1)⟩])
 .ret)),
  [.t 0], false, true, 2⟩
theorem co34 : compF Tryd.prog ⟨[], [], [], [], [], [], 34, [], [], []⟩ false true Tryd.f34 = some ac34 := by kernel_rfl

/-- paideia/paideiaworld.Number -/
def ac35 : AF := ⟨(.seq (.reg [⟨(some 4), none, .mov (.c (.int .i64 0))⟩])
 (.seq (.reg [⟨(some 6), none, .mov (.t 0)⟩,
  ⟨(some 7), none, .mov (.t 1)⟩,
  ⟨(some 8), none, .bin .rem (.t 6) (.t 7)⟩,
  ⟨(some 5), none, .mov (.t 8)⟩])
 (.seq (.seq (.reg [⟨(some 9), none, .mov (.t 5)⟩,
  ⟨(some 10), none, .bin .lss (.t 9) (.c (.int .i64 0))⟩])
 (.cond (.t 10) (.reg [⟨(some 11), none, .mov (.t 5)⟩,
  ⟨(some 12), none, .mov (.t 1)⟩,
  ⟨(some 13), none, .bin .add (.t 11) (.t 12)⟩,
  ⟨(some 5), none, .mov (.t 13)⟩])
 .skip))
 (.seq (.reg [⟨(some 14), none, .mov (.t 5)⟩,
  ⟨(some 4), none, .mov (.t 14)⟩])
 .ret)))),
  [.t 4], false, true, 15⟩
theorem co35 : compF Tryd.prog ⟨[], [], [], [], [], [], 35, [], [], []⟩ false true Tryd.f35 = some ac35 := by kernel_rfl

/-- paideia/printer.Name -/
def ac36 : AF := ⟨(.seq (.reg [⟨(some 2), none, .mov (.c (.str []))⟩])
 (.seq (.seq (.reg [⟨(some 3), none, .mov (.t 0)⟩,
  ⟨(some 4), none, .call 0 [] (.c (.fn 63 [])) [(.t 3)]⟩])
 (.cond (.t 4) (.seq (.reg [⟨(some 5), none, .mov (.t 0)⟩,
  ⟨(some 6), none, .bin .add (.c (.str [40])) (.t 5)⟩,
  ⟨(some 7), none, .bin .add (.t 6) (.c (.str [41]))⟩,
  ⟨(some 2), none, .mov (.t 7)⟩])
 .ret)
 .skip))
 (.seq (.reg [⟨(some 8), none, .mov (.t 0)⟩,
  ⟨(some 2), none, .mov (.t 8)⟩])
 .ret))),
  [.t 2], false, true, 9⟩
theorem co36 : compF Tryd.prog ⟨[], [], [], [], [], [], 36, [], [], []⟩ false true Tryd.f36 = some ac36 := by kernel_rfl

/-- paideia/printer.Letter -/
def ac38 : AF := ⟨(.seq (.reg [⟨(some 2), none, .mov (.c (.str []))⟩])
 (.seq (.block 0 (.seq (.reg [⟨(some 4), none, .mov (.t 0)⟩,
  ⟨(some 5), none, .bin .eql (.t 4) (.c (.int .i64 10))⟩,
  ⟨(some 3), none, .mov (.t 5)⟩])
 (.cond (.t 3) (.seq (.reg [⟨(some 2), none, .mov (.c (.str [39, 92, 110, 39]))⟩])
 .ret)
 (.seq (.reg [⟨(some 7), none, .mov (.t 0)⟩,
  ⟨(some 8), none, .bin .eql (.t 7) (.c (.int .i64 39))⟩,
  ⟨(some 9), none, .mov (.t 8)⟩,
  ⟨(some 10), (some (9, false)), .mov (.t 0)⟩,
  ⟨(some 11), (some (9, false)), .bin .eql (.t 10) (.c (.int .i64 92))⟩,
  ⟨(some 12), none, .pick (.t 9) (.c (.bool true)) (.t 11)⟩,
  ⟨(some 6), none, .mov (.t 12)⟩])
 (.cond (.t 6) (.seq (.reg [⟨(some 13), none, .mov (.t 0)⟩,
  ⟨(some 14), none, .conv (.int .i32) (.t 13)⟩,
  ⟨(some 15), none, .conv .rune (.t 14)⟩,
  ⟨(some 16), none, .bin .add (.c (.str [39, 92])) (.t 15)⟩,
  ⟨(some 17), none, .bin .add (.t 16) (.c (.str [39]))⟩,
  ⟨(some 2), none, .mov (.t 17)⟩])
 .ret)
 (.seq (.reg [⟨(some 19), none, .mov (.t 0)⟩,
  ⟨(some 20), none, .bin .geq (.t 19) (.c (.int .i64 0))⟩,
  ⟨(some 21), none, .mov (.t 20)⟩,
  ⟨(some 22), (some (21, true)), .mov (.t 0)⟩,
  ⟨(some 23), (some (21, true)), .bin .leq (.t 22) (.c (.int .i64 126))⟩,
  ⟨(some 24), none, .pick (.t 21) (.t 23) (.c (.bool false))⟩,
  ⟨(some 25), none, .mov (.t 24)⟩,
  ⟨(some 26), (some (25, true)), .mov (.t 0)⟩,
  ⟨(some 27), (some (25, true)), .conv (.int .u8) (.t 26)⟩,
  ⟨(some 28), (some (25, true)), .call 0 [] (.c (.fn 65 [])) [(.t 27)]⟩,
  ⟨(some 29), none, .pick (.t 25) (.t 28) (.c (.bool false))⟩,
  ⟨(some 18), none, .mov (.t 29)⟩])
 (.cond (.t 18) (.seq (.reg [⟨(some 30), none, .mov (.t 0)⟩,
  ⟨(some 31), none, .conv (.int .i32) (.t 30)⟩,
  ⟨(some 32), none, .conv .rune (.t 31)⟩,
  ⟨(some 33), none, .bin .add (.c (.str [39])) (.t 32)⟩,
  ⟨(some 34), none, .bin .add (.t 33) (.c (.str [39]))⟩,
  ⟨(some 2), none, .mov (.t 34)⟩])
 .ret)
 .skip)))))))
 (.seq (.reg [⟨(some 2), none, .mov (.c (.str [39, 63, 39]))⟩])
 .ret))),
  [.t 2], false, true, 35⟩
theorem co38 : compF Tryd.prog ⟨[], [], [], [], [], [], 38, [], [], []⟩ false true Tryd.f38 = some ac38 := by kernel_rfl

/-- paideia/term.sub -/
def ac39 : AF := ⟨(.seq (.reg [⟨(some 2), none, .box (.t 0) 9 false⟩,
  ⟨(some 4), none, .alloc [(.int .i64 0), (.str []), (.int .i64 0), (.int .i64 0), (.str []), (.sl .clip []), (.sl .clip []), (.sl .clip []), (.sl .clip [])] false⟩])
 (.seq (.seq (.reg [⟨(some 5), none, .mov (.t 1)⟩,
  ⟨(some 6), none, .faddr 6 (.t 2)⟩,
  ⟨(some 7), none, .load none (.t 6)⟩,
  ⟨(some 8), none, .len 1 (.t 7)⟩,
  ⟨(some 9), none, .bin .lss (.t 5) (.t 8)⟩])
 (.cond (.t 9) (.seq (.reg [⟨(some 10), none, .faddr 6 (.t 2)⟩,
  ⟨(some 11), none, .load none (.t 10)⟩,
  ⟨(some 12), none, .mov (.t 1)⟩,
  ⟨(some 13), none, .iaddr 9 (.t 11) (.t 12)⟩,
  ⟨(some 14), none, .load (some 9) (.t 13)⟩,
  ⟨none, none, .store 9 (.t 4) (.t 14)⟩])
 .ret)
 .skip))
 (.seq (.reg [⟨(some 15), none, .build [(.int .i64 0), (.str []), (.int .i64 0), (.int .i64 0), (.str []), (.sl .clip []), (.sl .clip []), (.sl .clip []), (.sl .clip [])] []⟩,
  ⟨none, none, .store 9 (.t 4) (.t 15)⟩])
 .ret))),
  [.cell 4 (some 9)], false, true, 16⟩
theorem co39 : compF Tryd.prog ⟨[], [], [], [], [], [], 39, [], [], []⟩ false true Tryd.f39 = some ac39 := by kernel_rfl

/-- paideia/printer.Type -/
def ac40 : AF := ⟨(.seq (.reg [⟨(some 1), none, .box (.t 0) 3 false⟩,
  ⟨(some 2), none, .mov (.c (.str []))⟩])
 (.seq (.seq (.reg [⟨(some 6), none, .faddr 0 (.t 1)⟩,
  ⟨(some 7), none, .load none (.t 6)⟩])
 (.block 0 (.seq (.reg [⟨(some 9), none, .bin .eql (.t 7) (.c (.int .i64 3))⟩,
  ⟨(some 8), none, .mov (.t 9)⟩])
 (.cond (.t 8) (.seq (.reg [⟨(some 10), none, .load (some 3) (.t 1)⟩,
  ⟨(some 11), none, .call 0 [] (.c (.fn 67 [])) [(.t 10), (.c (.int .i64 0))]⟩,
  ⟨(some 12), none, .call 0 [] (.c (.fn 66 [])) [(.t 11)]⟩,
  ⟨(some 13), none, .bin .add (.t 12) (.c (.str [32, 45, 62, 32]))⟩,
  ⟨(some 14), none, .loadL (some 3) (.t 1)⟩,
  ⟨(some 15), none, .call 0 [] (.c (.fn 67 [])) [(.t 14), (.c (.int .i64 1))]⟩,
  ⟨(some 16), none, .call 0 [] (.c (.fn 40 [])) [(.t 15)]⟩,
  ⟨(some 17), none, .bin .add (.t 13) (.t 16)⟩,
  ⟨(some 2), none, .mov (.t 17)⟩])
 .ret)
 (.seq (.reg [⟨(some 19), none, .bin .eql (.t 7) (.c (.int .i64 4))⟩,
  ⟨(some 18), none, .mov (.t 19)⟩])
 (.cond (.t 18) (.seq (.reg [⟨(some 20), none, .faddr 1 (.t 1)⟩,
  ⟨(some 21), none, .loadL none (.t 20)⟩,
  ⟨(some 22), none, .bin .add (.c (.str [102, 111, 114, 97, 108, 108, 32])) (.t 21)⟩,
  ⟨(some 23), none, .bin .add (.t 22) (.c (.str [46, 32]))⟩,
  ⟨(some 24), none, .load (some 3) (.t 1)⟩,
  ⟨(some 25), none, .call 0 [] (.c (.fn 67 [])) [(.t 24), (.c (.int .i64 0))]⟩,
  ⟨(some 26), none, .call 0 [] (.c (.fn 40 [])) [(.t 25)]⟩,
  ⟨(some 27), none, .bin .add (.t 23) (.t 26)⟩,
  ⟨(some 2), none, .mov (.t 27)⟩])
 .ret)
 .skip))))))
 (.seq (.reg [⟨(some 28), none, .faddr 1 (.t 1)⟩,
  ⟨(some 29), none, .load none (.t 28)⟩,
  ⟨(some 3), none, .mov (.t 29)⟩])
 (.seq (.seq (.reg [⟨(some 30), none, .faddr 2 (.t 1)⟩,
  ⟨(some 31), none, .load none (.t 30)⟩,
  ⟨(some 32), none, .len 1 (.t 31)⟩,
  ⟨(some 33), none, .mov (.c (.int .i64 0))⟩])
 (.block 1 (.loop [3, 31, 32, 33] [] (.seq (.reg [⟨(some 34), none, .bin .lss (.t 33) (.t 32)⟩])
 (.seq (.cond (.t 34) .skip
 (.exit 1))
 (.seq (.block 2 (.seq (.reg [⟨(some 35), none, .iaddr 3 (.t 31) (.t 33)⟩,
  ⟨(some 36), none, .load (some 3) (.t 35)⟩,
  ⟨(some 5), none, .alloc [(.int .i64 0), (.str []), (.sl .clip [])] false⟩,
  ⟨none, none, .store 3 (.t 5) (.t 36)⟩])
 (.reg [⟨(some 37), none, .mov (.t 3)⟩,
  ⟨(some 38), none, .load (some 3) (.t 5)⟩,
  ⟨(some 39), none, .call 0 [] (.c (.fn 41 [])) [(.t 38)]⟩,
  ⟨(some 40), none, .bin .add (.c (.str [32])) (.t 39)⟩,
  ⟨(some 41), none, .bin .add (.t 37) (.t 40)⟩,
  ⟨(some 3), none, .mov (.t 41)⟩])))
 (.reg [⟨(some 42), none, .bin .add (.t 33) (.c (.int .i64 1))⟩,
  ⟨(some 33), none, .mov (.t 42)⟩])))))))
 (.seq (.reg [⟨(some 43), none, .mov (.t 3)⟩,
  ⟨(some 2), none, .mov (.t 43)⟩])
 .ret))))),
  [.t 2], false, true, 44⟩
theorem co40 : compF Tryd.prog ⟨[], [(8, [3, 31, 32, 33], [])], [], [], [], [], 40, [], [], []⟩ false true Tryd.f40 = some ac40 := by kernel_rfl

/-- paideia/printer.Arg -/
def ac41 : AF := ⟨(.seq (.reg [⟨(some 1), none, .box (.t 0) 3 false⟩,
  ⟨(some 2), none, .mov (.c (.str []))⟩])
 (.seq (.seq (.reg [⟨(some 3), none, .faddr 0 (.t 1)⟩,
  ⟨(some 4), none, .load none (.t 3)⟩,
  ⟨(some 5), none, .bin .eql (.t 4) (.c (.int .i64 3))⟩,
  ⟨(some 6), none, .mov (.t 5)⟩,
  ⟨(some 7), (some (6, false)), .faddr 0 (.t 1)⟩,
  ⟨(some 8), (some (6, false)), .load none (.t 7)⟩,
  ⟨(some 9), (some (6, false)), .bin .eql (.t 8) (.c (.int .i64 4))⟩,
  ⟨(some 10), none, .pick (.t 6) (.c (.bool true)) (.t 9)⟩,
  ⟨(some 11), none, .mov (.t 10)⟩,
  ⟨(some 12), (some (11, false)), .faddr 0 (.t 1)⟩,
  ⟨(some 13), (some (11, false)), .load none (.t 12)⟩,
  ⟨(some 14), (some (11, false)), .bin .eql (.t 13) (.c (.int .i64 2))⟩,
  ⟨(some 15), (some (11, false)), .mov (.t 14)⟩,
  ⟨(some 16), (some (15, true)), .faddr 2 (.t 1)⟩,
  ⟨(some 17), (some (15, true)), .load none (.t 16)⟩,
  ⟨(some 18), (some (15, true)), .len 1 (.t 17)⟩,
  ⟨(some 19), (some (15, true)), .bin .gtr (.t 18) (.c (.int .i64 0))⟩,
  ⟨(some 20), (some (11, false)), .pick (.t 15) (.t 19) (.c (.bool false))⟩,
  ⟨(some 21), none, .pick (.t 11) (.c (.bool true)) (.t 20)⟩])
 (.cond (.t 21) (.seq (.reg [⟨(some 22), none, .load (some 3) (.t 1)⟩,
  ⟨(some 23), none, .call 0 [] (.c (.fn 40 [])) [(.t 22)]⟩,
  ⟨(some 24), none, .bin .add (.c (.str [40])) (.t 23)⟩,
  ⟨(some 25), none, .bin .add (.t 24) (.c (.str [41]))⟩,
  ⟨(some 2), none, .mov (.t 25)⟩])
 .ret)
 .skip))
 (.seq (.reg [⟨(some 26), none, .load (some 3) (.t 1)⟩,
  ⟨(some 27), none, .call 0 [] (.c (.fn 40 [])) [(.t 26)]⟩,
  ⟨(some 2), none, .mov (.t 27)⟩])
 .ret))),
  [.t 2], false, true, 28⟩
theorem co41 : compF Tryd.prog ⟨[], [], [], [], [], [], 41, [], [], []⟩ false true Tryd.f41 = some ac41 := by kernel_rfl

/-- slices.Clone[[]string,string] -/
def ac46 : AF := ⟨(.seq (.reg [⟨(some 2), none, .mov (.c (.sl .clip []))⟩])
 (.seq (.seq (.reg [⟨(some 3), none, .mov (.t 0)⟩,
  ⟨(some 4), none, .nilsl false (.t 3)⟩])
 (.cond (.t 4) (.seq (.reg [⟨(some 2), none, .mov (.c (.sl .clip []))⟩])
 .ret)
 .skip))
 (.seq (.reg [⟨(some 5), none, .bslice [(.str [])] 0 []⟩,
  ⟨(some 6), none, .mov (.t 0)⟩,
  ⟨(some 7), none, .append 1 (.t 5) (.t 6)⟩,
  ⟨(some 2), none, .mov (.t 7)⟩])
 .ret))),
  [.t 2], false, true, 8⟩
theorem co46 : compF Tryd.prog ⟨[], [], [], [], [], [], 46, [], [], []⟩ false true Tryd.f46 = some ac46 := by kernel_rfl

/-- paideia/term.Bound -/
def ac54 : AF := ⟨(.seq (.reg [⟨(some 2), none, .mov (.c (.sl .clip []))⟩])
 (.seq (.reg [⟨(some 3), none, .mov (.c (.sl .clip []))⟩])
 (.seq (.seq (.reg [⟨(some 6), none, .mov (.t 0)⟩,
  ⟨(some 7), none, .len 1 (.t 6)⟩,
  ⟨(some 8), none, .mov (.c (.int .i64 0))⟩])
 (.block 0 (.loop [3, 6, 7, 8] [] (.seq (.reg [⟨(some 9), none, .bin .lss (.t 8) (.t 7)⟩])
 (.seq (.cond (.t 9) .skip
 (.exit 0))
 (.seq (.block 1 (.seq (.reg [⟨(some 10), none, .iaddr 1 (.t 6) (.t 8)⟩,
  ⟨(some 11), none, .load none (.t 10)⟩,
  ⟨(some 5), none, .mov (.t 11)⟩])
 (.seq (.reg [⟨(some 12), none, .mov (.t 5)⟩,
  ⟨(some 13), none, .bin .neq (.t 12) (.c (.str [95]))⟩])
 (.cond (.t 13) (.reg [⟨(some 14), none, .mov (.t 3)⟩,
  ⟨(some 15), none, .mov (.t 5)⟩,
  ⟨(some 16), none, .bslice [(.str [])] 1 [(0, (.t 15))]⟩,
  ⟨(some 17), none, .append 1 (.t 14) (.t 16)⟩,
  ⟨(some 3), none, .mov (.t 17)⟩])
 .skip))))
 (.reg [⟨(some 18), none, .bin .add (.t 8) (.c (.int .i64 1))⟩,
  ⟨(some 8), none, .mov (.t 18)⟩])))))))
 (.seq (.reg [⟨(some 19), none, .mov (.t 3)⟩,
  ⟨(some 2), none, .mov (.t 19)⟩])
 .ret)))),
  [.t 2], false, true, 20⟩
theorem co54 : compF Tryd.prog ⟨[], [(3, [3, 6, 7, 8], [])], [], [], [], [], 54, [], [], []⟩ false true Tryd.f54 = some ac54 := by kernel_rfl

/-- (*paideia/term.free).term -/
def ac56 : AF := ⟨(.seq (.reg [⟨(some 2), none, .fbox (.t 0) 1⟩,
  ⟨(some 3), none, .fbox (.t 1) 9⟩])
 (.seq (.reg [⟨(some 9), none, .faddr 0 (.t 3)⟩,
  ⟨(some 10), none, .load none (.t 9)⟩])
 (.block 0 (.seq (.reg [⟨(some 30), none, .bin .eql (.t 10) (.c (.int .i64 1))⟩,
  ⟨(some 29), none, .mov (.t 30)⟩])
 (.cond (.t 29) (.seq (.reg [⟨(some 31), none, .load none (.t 2)⟩,
  ⟨(some 32), none, .nilck (.t 31)⟩,
  ⟨(some 33), none, .faddr 0 (.t 32)⟩,
  ⟨(some 34), none, .load none (.t 33)⟩,
  ⟨(some 35), none, .faddr 1 (.t 3)⟩,
  ⟨(some 36), none, .load none (.t 35)⟩,
  ⟨(some 37), none, .lookup .str (.int .i64 0) (.t 34) (.t 36) false⟩,
  ⟨(some 38), none, .bin .eql (.t 37) (.c (.int .i64 0))⟩,
  ⟨(some 39), none, .mov (.t 38)⟩,
  ⟨(some 40), (some (39, true)), .load none (.t 2)⟩,
  ⟨(some 41), (some (39, true)), .nilck (.t 40)⟩,
  ⟨(some 42), (some (39, true)), .faddr 1 (.t 41)⟩,
  ⟨(some 43), (some (39, true)), .load none (.t 42)⟩,
  ⟨(some 44), (some (39, true)), .faddr 1 (.t 3)⟩,
  ⟨(some 45), (some (39, true)), .load none (.t 44)⟩,
  ⟨(some 46), (some (39, true)), .lookup .str (.bool false) (.t 43) (.t 45) false⟩,
  ⟨(some 47), (some (39, true)), .not (.t 46)⟩,
  ⟨(some 48), none, .pick (.t 39) (.t 47) (.c (.bool false))⟩])
 (.cond (.t 48) (.seq (.reg [⟨(some 49), none, .load none (.t 2)⟩,
  ⟨(some 50), none, .nilck (.t 49)⟩,
  ⟨(some 51), none, .faddr 1 (.t 50)⟩,
  ⟨(some 52), none, .load none (.t 51)⟩,
  ⟨(some 53), none, .faddr 1 (.t 3)⟩,
  ⟨(some 54), none, .load none (.t 53)⟩,
  ⟨none, none, .mapset .str (.t 52) (.t 54) (.c (.bool true))⟩])
 (.reg [⟨(some 55), none, .loadL none (.t 2)⟩,
  ⟨(some 56), none, .load none (.t 2)⟩,
  ⟨(some 57), none, .nilck (.t 56)⟩,
  ⟨(some 58), none, .faddr 2 (.t 57)⟩,
  ⟨(some 59), none, .load none (.t 58)⟩,
  ⟨(some 60), none, .faddr 1 (.t 3)⟩,
  ⟨(some 61), none, .load none (.t 60)⟩,
  ⟨(some 62), none, .bslice [(.str [])] 1 [(0, (.t 61))]⟩,
  ⟨(some 63), none, .append 1 (.t 59) (.t 62)⟩,
  ⟨(some 64), none, .nilck (.t 55)⟩,
  ⟨(some 65), none, .faddr 2 (.t 64)⟩,
  ⟨none, none, .store 1 (.t 65) (.t 63)⟩]))
 .skip))
 (.seq (.reg [⟨(some 67), none, .bin .eql (.t 10) (.c (.int .i64 6))⟩,
  ⟨(some 66), none, .mov (.t 67)⟩])
 (.cond (.t 66) (.reg [⟨(some 68), none, .load none (.t 2)⟩,
  ⟨(some 69), none, .faddr 1 (.t 3)⟩,
  ⟨(some 70), none, .load none (.t 69)⟩,
  ⟨(some 71), none, .bslice [(.str [])] 1 [(0, (.t 70))]⟩,
  ⟨(some 72), none, .mkfn 74 [(.t 2), (.t 3)]⟩,
  ⟨(some 73), none, .call 0 [] (.c (.fn 73 [])) [(.t 68), (.t 71), (.t 72)]⟩])
 (.seq (.reg [⟨(some 75), none, .bin .eql (.t 10) (.c (.int .i64 9))⟩,
  ⟨(some 74), none, .mov (.t 75)⟩])
 (.cond (.t 74) (.seq (.reg [⟨(some 4), none, .mov (.c (.sl .clip []))⟩])
 (.seq (.seq (.reg [⟨(some 76), none, .faddr 8 (.t 3)⟩,
  ⟨(some 77), none, .load none (.t 76)⟩,
  ⟨(some 78), none, .len 1 (.t 77)⟩,
  ⟨(some 79), none, .mov (.c (.int .i64 0))⟩])
 (.block 3 (.loop [2, 3, 4, 77, 78, 79] [] (.seq (.reg [⟨(some 80), none, .bin .lss (.t 79) (.t 78)⟩])
 (.seq (.cond (.t 80) .skip
 (.exit 3))
 (.seq (.block 4 (.seq (.reg [⟨(some 81), none, .iaddr 13 (.t 77) (.t 79)⟩,
  ⟨(some 82), none, .load (some 13) (.t 81)⟩,
  ⟨(some 6), none, .alloc [(.str []), (.int .i64 0), (.str []), (.sl .clip []), (.int .i64 0), (.str []), (.int .i64 0), (.int .i64 0), (.str []), (.sl .clip []), (.sl .clip []), (.sl .clip []), (.sl .clip [])] false⟩,
  ⟨none, none, .store 13 (.t 6) (.t 82)⟩])
 (.reg [⟨(some 83), none, .mov (.t 4)⟩,
  ⟨(some 84), none, .faddr 0 (.t 6)⟩,
  ⟨(some 85), none, .load none (.t 84)⟩,
  ⟨(some 86), none, .bslice [(.str [])] 1 [(0, (.t 85))]⟩,
  ⟨(some 87), none, .append 1 (.t 83) (.t 86)⟩,
  ⟨(some 4), none, .mov (.t 87)⟩])))
 (.reg [⟨(some 88), none, .bin .add (.t 79) (.c (.int .i64 1))⟩,
  ⟨(some 79), none, .mov (.t 88)⟩])))))))
 (.reg [⟨(some 89), none, .load none (.t 2)⟩,
  ⟨(some 90), none, .mov (.t 4)⟩,
  ⟨(some 91), none, .mkfn 76 [(.t 3), (.t 2)]⟩,
  ⟨(some 92), none, .call 0 [] (.c (.fn 73 [])) [(.t 89), (.t 90), (.t 91)]⟩])))
 (.seq (.reg [⟨(some 11), none, .load none (.t 2)⟩,
  ⟨(some 12), none, .faddr 6 (.t 3)⟩,
  ⟨(some 13), none, .load none (.t 12)⟩,
  ⟨(some 14), none, .call 0 [] (.c (.fn 75 [])) [(.t 11), (.t 13)]⟩])
 (.seq (.reg [⟨(some 15), none, .faddr 7 (.t 3)⟩,
  ⟨(some 16), none, .load none (.t 15)⟩,
  ⟨(some 17), none, .len 1 (.t 16)⟩,
  ⟨(some 18), none, .mov (.c (.int .i64 0))⟩])
 (.block 1 (.loop [2, 16, 17, 18] [] (.seq (.reg [⟨(some 19), none, .bin .lss (.t 18) (.t 17)⟩])
 (.seq (.cond (.t 19) .skip
 (.exit 1))
 (.seq (.block 2 (.seq (.reg [⟨(some 20), none, .iaddr 11 (.t 16) (.t 18)⟩,
  ⟨(some 21), none, .load (some 11) (.t 20)⟩,
  ⟨(some 8), none, .alloc [(.str []), (.sl .clip []), (.int .i64 0), (.str []), (.int .i64 0), (.int .i64 0), (.str []), (.sl .clip []), (.sl .clip []), (.sl .clip []), (.sl .clip [])] true⟩,
  ⟨none, none, .store 11 (.t 8) (.t 21)⟩])
 (.reg [⟨(some 22), none, .loadL none (.t 2)⟩,
  ⟨(some 23), none, .faddr 1 (.t 8)⟩,
  ⟨(some 24), none, .load none (.t 23)⟩,
  ⟨(some 25), none, .call 0 [] (.c (.fn 54 [])) [(.t 24)]⟩,
  ⟨(some 26), none, .mkfn 77 [(.t 2), (.t 8)]⟩,
  ⟨(some 27), none, .call 0 [] (.c (.fn 73 [])) [(.t 22), (.t 25), (.t 26)]⟩])))
 (.reg [⟨(some 28), none, .bin .add (.t 18) (.c (.int .i64 1))⟩,
  ⟨(some 18), none, .mov (.t 28)⟩]))))))))))))))))),
  [], false, false, 93⟩
theorem co56 : compF Tryd.prog ⟨[8], [(4, [2, 16, 17, 18], []), (17, [2, 3, 4, 77, 78, 79], [])], [], [], [2, 3], [], 56, [], [], []⟩ false false Tryd.f56 = some ac56 := by kernel_rfl

/-- paideia/lexer.Operator -/
def ac63 : AF := ⟨(.seq (.reg [⟨(some 2), none, .mov (.c (.bool false))⟩])
 (.seq (.seq (.reg [⟨(some 5), none, .call 0 [] (.c (.fn 80 [])) [(.c (.str [61, 61, 32, 47, 61, 32, 60, 61, 32, 62, 61, 32, 60, 32, 62, 32, 43, 32, 45, 32, 42]))]⟩,
  ⟨(some 6), none, .len 1 (.t 5)⟩,
  ⟨(some 7), none, .mov (.c (.int .i64 0))⟩])
 (.block 0 (.loop [0, 5, 6, 7] [] (.seq (.reg [⟨(some 8), none, .bin .lss (.t 7) (.t 6)⟩])
 (.seq (.cond (.t 8) .skip
 (.exit 0))
 (.seq (.block 1 (.seq (.reg [⟨(some 9), none, .iaddr 1 (.t 5) (.t 7)⟩,
  ⟨(some 10), none, .load none (.t 9)⟩,
  ⟨(some 4), none, .mov (.t 10)⟩])
 (.seq (.reg [⟨(some 11), none, .mov (.t 0)⟩,
  ⟨(some 12), none, .mov (.t 4)⟩,
  ⟨(some 13), none, .bin .eql (.t 11) (.t 12)⟩])
 (.cond (.t 13) (.seq (.reg [⟨(some 2), none, .mov (.c (.bool true))⟩])
 .ret)
 .skip))))
 (.reg [⟨(some 14), none, .bin .add (.t 7) (.c (.int .i64 1))⟩,
  ⟨(some 7), none, .mov (.t 14)⟩])))))))
 (.seq (.reg [⟨(some 2), none, .mov (.c (.bool false))⟩])
 .ret))),
  [.t 2], false, true, 15⟩
theorem co63 : compF Tryd.prog ⟨[], [(2, [0, 5, 6, 7], [])], [], [], [], [], 63, [], [], []⟩ false true Tryd.f63 = some ac63 := by kernel_rfl

/-- paideia/printer.left -/
def ac66 : AF := ⟨(.seq (.reg [⟨(some 1), none, .box (.t 0) 3 false⟩,
  ⟨(some 2), none, .mov (.c (.str []))⟩])
 (.seq (.seq (.reg [⟨(some 3), none, .faddr 0 (.t 1)⟩,
  ⟨(some 4), none, .load none (.t 3)⟩,
  ⟨(some 5), none, .bin .eql (.t 4) (.c (.int .i64 3))⟩,
  ⟨(some 6), none, .mov (.t 5)⟩,
  ⟨(some 7), (some (6, false)), .faddr 0 (.t 1)⟩,
  ⟨(some 8), (some (6, false)), .load none (.t 7)⟩,
  ⟨(some 9), (some (6, false)), .bin .eql (.t 8) (.c (.int .i64 4))⟩,
  ⟨(some 10), none, .pick (.t 6) (.c (.bool true)) (.t 9)⟩])
 (.cond (.t 10) (.seq (.reg [⟨(some 11), none, .load (some 3) (.t 1)⟩,
  ⟨(some 12), none, .call 0 [] (.c (.fn 40 [])) [(.t 11)]⟩,
  ⟨(some 13), none, .bin .add (.c (.str [40])) (.t 12)⟩,
  ⟨(some 14), none, .bin .add (.t 13) (.c (.str [41]))⟩,
  ⟨(some 2), none, .mov (.t 14)⟩])
 .ret)
 .skip))
 (.seq (.reg [⟨(some 15), none, .load (some 3) (.t 1)⟩,
  ⟨(some 16), none, .call 0 [] (.c (.fn 40 [])) [(.t 15)]⟩,
  ⟨(some 2), none, .mov (.t 16)⟩])
 .ret))),
  [.t 2], false, true, 17⟩
theorem co66 : compF Tryd.prog ⟨[], [], [], [], [], [], 66, [], [], []⟩ false true Tryd.f66 = some ac66 := by kernel_rfl

/-- paideia/printer.part -/
def ac67 : AF := ⟨(.seq (.reg [⟨(some 2), none, .box (.t 0) 3 false⟩,
  ⟨(some 4), none, .alloc [(.int .i64 0), (.str []), (.sl .clip [])] false⟩])
 (.seq (.seq (.reg [⟨(some 5), none, .mov (.t 1)⟩,
  ⟨(some 6), none, .faddr 2 (.t 2)⟩,
  ⟨(some 7), none, .load none (.t 6)⟩,
  ⟨(some 8), none, .len 1 (.t 7)⟩,
  ⟨(some 9), none, .bin .lss (.t 5) (.t 8)⟩])
 (.cond (.t 9) (.seq (.reg [⟨(some 10), none, .faddr 2 (.t 2)⟩,
  ⟨(some 11), none, .load none (.t 10)⟩,
  ⟨(some 12), none, .mov (.t 1)⟩,
  ⟨(some 13), none, .iaddr 3 (.t 11) (.t 12)⟩,
  ⟨(some 14), none, .load (some 3) (.t 13)⟩,
  ⟨none, none, .store 3 (.t 4) (.t 14)⟩])
 .ret)
 .skip))
 (.seq (.reg [⟨(some 15), none, .build [(.int .i64 0), (.str []), (.sl .clip [])] []⟩,
  ⟨none, none, .store 3 (.t 4) (.t 15)⟩])
 .ret))),
  [.cell 4 (some 3)], false, true, 16⟩
theorem co67 : compF Tryd.prog ⟨[], [], [], [], [], [], 67, [], [], []⟩ false true Tryd.f67 = some ac67 := by kernel_rfl

/-- (*paideia/term.free).with -/
def ac73 : AF := ⟨(.seq (.seq (.reg [⟨(some 10), none, .mov (.t 1)⟩,
  ⟨(some 11), none, .len 1 (.t 10)⟩,
  ⟨(some 12), none, .mov (.c (.int .i64 0))⟩])
 (.block 0 (.loop [0, 1, 2, 10, 11, 12] [] (.seq (.reg [⟨(some 13), none, .bin .lss (.t 12) (.t 11)⟩])
 (.seq (.cond (.t 13) .skip
 (.exit 0))
 (.seq (.block 1 (.seq (.reg [⟨(some 14), none, .iaddr 1 (.t 10) (.t 12)⟩,
  ⟨(some 15), none, .load none (.t 14)⟩,
  ⟨(some 7), none, .mov (.t 15)⟩])
 (.reg [⟨(some 16), none, .mov (.t 0)⟩,
  ⟨(some 17), none, .nilck (.t 16)⟩,
  ⟨(some 18), none, .faddr 0 (.t 17)⟩,
  ⟨(some 19), none, .load none (.t 18)⟩,
  ⟨(some 20), none, .mov (.t 7)⟩,
  ⟨(some 21), none, .lookup .str (.int .i64 0) (.t 19) (.t 20) false⟩,
  ⟨(some 22), none, .bin .add (.t 21) (.c (.int .i64 1))⟩,
  ⟨none, none, .mapset .str (.t 19) (.t 20) (.t 22)⟩])))
 (.reg [⟨(some 23), none, .bin .add (.t 12) (.c (.int .i64 1))⟩,
  ⟨(some 12), none, .mov (.t 23)⟩])))))))
 (.seq (.reg [⟨(some 24), none, .mov (.t 2)⟩,
  ⟨(some 25), none, .call 0 [] (.t 24) []⟩])
 (.seq (.reg [⟨(some 26), none, .mov (.t 1)⟩,
  ⟨(some 27), none, .len 1 (.t 26)⟩,
  ⟨(some 28), none, .mov (.c (.int .i64 0))⟩])
 (.block 2 (.loop [0, 26, 27, 28] [] (.seq (.reg [⟨(some 29), none, .bin .lss (.t 28) (.t 27)⟩])
 (.seq (.cond (.t 29) .skip
 (.exit 2))
 (.seq (.block 3 (.seq (.reg [⟨(some 30), none, .iaddr 1 (.t 26) (.t 28)⟩,
  ⟨(some 31), none, .load none (.t 30)⟩,
  ⟨(some 9), none, .mov (.t 31)⟩])
 (.reg [⟨(some 32), none, .mov (.t 0)⟩,
  ⟨(some 33), none, .nilck (.t 32)⟩,
  ⟨(some 34), none, .faddr 0 (.t 33)⟩,
  ⟨(some 35), none, .load none (.t 34)⟩,
  ⟨(some 36), none, .mov (.t 9)⟩,
  ⟨(some 37), none, .lookup .str (.int .i64 0) (.t 35) (.t 36) false⟩,
  ⟨(some 38), none, .bin .sub (.t 37) (.c (.int .i64 1))⟩,
  ⟨none, none, .mapset .str (.t 35) (.t 36) (.t 38)⟩])))
 (.reg [⟨(some 39), none, .bin .add (.t 28) (.c (.int .i64 1))⟩,
  ⟨(some 28), none, .mov (.t 39)⟩]))))))))),
  [], false, false, 40⟩
theorem co73 : compF Tryd.prog ⟨[], [(1, [0, 1, 2, 10, 11, 12], []), (7, [0, 26, 27, 28], [])], [], [], [], [], 73, [], [], []⟩ false false Tryd.f73 = some ac73 := by kernel_rfl

/-- (*paideia/term.free).term$1 -/
def ac74 : AF := ⟨(.reg [⟨(some 2), none, .load none (.t 0)⟩,
  ⟨(some 3), none, .faddr 6 (.t 1)⟩,
  ⟨(some 4), none, .load none (.t 3)⟩,
  ⟨(some 5), none, .call 0 [] (.c (.fn 75 [])) [(.t 2), (.t 4)]⟩]),
  [], false, false, 6⟩
theorem co74 : compF Tryd.prog ⟨[], [], [], [], [], [], 74, [], [], []⟩ false false Tryd.f74 = some ac74 := by kernel_rfl

/-- (*paideia/term.free).all -/
def ac75 : AF := ⟨(.seq (.reg [⟨(some 6), none, .mov (.t 1)⟩,
  ⟨(some 7), none, .len 1 (.t 6)⟩,
  ⟨(some 8), none, .mov (.c (.int .i64 0))⟩])
 (.block 0 (.loop [0, 6, 7, 8] [] (.seq (.reg [⟨(some 9), none, .bin .lss (.t 8) (.t 7)⟩])
 (.seq (.cond (.t 9) .skip
 (.exit 0))
 (.seq (.block 1 (.seq (.reg [⟨(some 10), none, .iaddr 9 (.t 6) (.t 8)⟩,
  ⟨(some 11), none, .load (some 9) (.t 10)⟩,
  ⟨(some 5), none, .alloc [(.int .i64 0), (.str []), (.int .i64 0), (.int .i64 0), (.str []), (.sl .clip []), (.sl .clip []), (.sl .clip []), (.sl .clip [])] false⟩,
  ⟨none, none, .store 9 (.t 5) (.t 11)⟩])
 (.reg [⟨(some 12), none, .mov (.t 0)⟩,
  ⟨(some 13), none, .load (some 9) (.t 5)⟩,
  ⟨(some 14), none, .call 0 [] (.c (.fn 56 [])) [(.t 12), (.t 13)]⟩])))
 (.reg [⟨(some 15), none, .bin .add (.t 8) (.c (.int .i64 1))⟩,
  ⟨(some 8), none, .mov (.t 15)⟩]))))))),
  [], false, false, 16⟩
theorem co75 : compF Tryd.prog ⟨[], [(1, [0, 6, 7, 8], [])], [], [], [], [], 75, [], [], []⟩ false false Tryd.f75 = some ac75 := by kernel_rfl

/-- (*paideia/term.free).term$2 -/
def ac76 : AF := ⟨(.seq (.seq (.reg [⟨(some 4), none, .faddr 8 (.t 0)⟩,
  ⟨(some 5), none, .load none (.t 4)⟩,
  ⟨(some 6), none, .len 1 (.t 5)⟩,
  ⟨(some 7), none, .mov (.c (.int .i64 0))⟩])
 (.block 0 (.loop [0, 1, 5, 6, 7] [] (.seq (.reg [⟨(some 8), none, .bin .lss (.t 7) (.t 6)⟩])
 (.seq (.cond (.t 8) .skip
 (.exit 0))
 (.seq (.block 1 (.seq (.reg [⟨(some 9), none, .iaddr 13 (.t 5) (.t 7)⟩,
  ⟨(some 10), none, .load (some 13) (.t 9)⟩,
  ⟨(some 3), none, .alloc [(.str []), (.int .i64 0), (.str []), (.sl .clip []), (.int .i64 0), (.str []), (.int .i64 0), (.int .i64 0), (.str []), (.sl .clip []), (.sl .clip []), (.sl .clip []), (.sl .clip [])] false⟩,
  ⟨none, none, .store 13 (.t 3) (.t 10)⟩])
 (.reg [⟨(some 11), none, .load none (.t 1)⟩,
  ⟨(some 12), none, .faddr 4 (.t 3)⟩,
  ⟨(some 13), none, .load (some 9) (.t 12)⟩,
  ⟨(some 14), none, .call 0 [] (.c (.fn 56 [])) [(.t 11), (.t 13)]⟩])))
 (.reg [⟨(some 15), none, .bin .add (.t 7) (.c (.int .i64 1))⟩,
  ⟨(some 7), none, .mov (.t 15)⟩])))))))
 (.reg [⟨(some 16), none, .load none (.t 1)⟩,
  ⟨(some 17), none, .faddr 6 (.t 0)⟩,
  ⟨(some 18), none, .load none (.t 17)⟩,
  ⟨(some 19), none, .call 0 [] (.c (.fn 75 [])) [(.t 16), (.t 18)]⟩])),
  [], false, false, 20⟩
theorem co76 : compF Tryd.prog ⟨[], [(1, [0, 1, 5, 6, 7], [])], [], [], [], [], 76, [], [], []⟩ false false Tryd.f76 = some ac76 := by kernel_rfl

/-- (*paideia/term.free).term$3 -/
def ac77 : AF := ⟨(.reg [⟨(some 2), none, .load none (.t 0)⟩,
  ⟨(some 3), none, .faddr 2 (.t 1)⟩,
  ⟨(some 4), none, .load (some 9) (.t 3)⟩,
  ⟨(some 5), none, .call 0 [] (.c (.fn 56 [])) [(.t 2), (.t 4)]⟩]),
  [], false, false, 6⟩
theorem co77 : compF Tryd.prog ⟨[], [], [], [], [], [], 77, [], [], []⟩ false false Tryd.f77 = some ac77 := by kernel_rfl


theorem prim69 : PrimOkG Tryd.prog [3000003] 69 joinP := (joinP_ok Tryd.func69 (by kernel_rfl) (by kernel_rfl) Tryd.strings_Join_none Tryd.strings_Join).g
theorem prim80 : PrimOkG Tryd.prog [3000003] 80 fieldsP := fieldsP_ok (g := 3) (t := 9) Tryd.func80 (by kernel_rfl) (by kernel_rfl) (by kernel_rfl) (by simp) Tryd.strings_Fields

def ap1 : AP := fun f vr => match f, vr with
  | 73, 0 => some (.code ac73)
  | 74, 0 => some (.code ac74)
  | 75, 0 => some (.code ac75)
  | 76, 0 => some (.code ac76)
  | 77, 0 => some (.code ac77)
  | 69, 0 => some (.prim joinP)
  | 80, 0 => some (.prim fieldsP)
  | _, _ => none

theorem table1 : TableOk Tryd.prog ap1 [3000003] := by
  intro f vr fd h
  unfold ap1 at h
  split at h
  · cases h; exact ⟨_, _, Tryd.func73, co73, by decide, rfl⟩
  · cases h; exact ⟨_, _, Tryd.func74, co74, by decide, rfl⟩
  · cases h; exact ⟨_, _, Tryd.func75, co75, by decide, rfl⟩
  · cases h; exact ⟨_, _, Tryd.func76, co76, by decide, rfl⟩
  · cases h; exact ⟨_, _, Tryd.func77, co77, by decide, rfl⟩
  · cases h; exact prim69
  · cases h; exact prim80
  · cases h

def ap0 : AP := fun f vr => match f, vr with
  | 5, 0 => some (.code ac5)
  | 13, 0 => some (.code ac13)
  | 14, 0 => some (.code ac14)
  | 15, 0 => some (.code ac15)
  | 16, 0 => some (.code ac16)
  | 17, 0 => some (.code ac17)
  | 18, 0 => some (.code ac18)
  | 19, 0 => some (.code ac19)
  | 20, 0 => some (.code ac20)
  | 21, 0 => some (.code ac21)
  | 29, 0 => some (.code ac29)
  | 33, 0 => some (.code ac33)
  | 34, 0 => some (.code ac34)
  | 35, 0 => some (.code ac35)
  | 36, 0 => some (.code ac36)
  | 38, 0 => some (.code ac38)
  | 39, 0 => some (.code ac39)
  | 40, 0 => some (.code ac40)
  | 41, 0 => some (.code ac41)
  | 46, 0 => some (.code ac46)
  | 54, 0 => some (.code ac54)
  | 56, 0 => some (.code ac56)
  | 63, 0 => some (.code ac63)
  | 66, 0 => some (.code ac66)
  | 67, 0 => some (.code ac67)
  | f, vr => ap1 f vr

theorem table0 : TableOk Tryd.prog ap0 [3000003] := by
  intro f vr fd h
  unfold ap0 at h
  split at h
  · cases h; exact ⟨_, _, Tryd.func5, co5, by decide, rfl⟩
  · cases h; exact ⟨_, _, Tryd.func13, co13, by decide, rfl⟩
  · cases h; exact ⟨_, _, Tryd.func14, co14, by decide, rfl⟩
  · cases h; exact ⟨_, _, Tryd.func15, co15, by decide, rfl⟩
  · cases h; exact ⟨_, _, Tryd.func16, co16, by decide, rfl⟩
  · cases h; exact ⟨_, _, Tryd.func17, co17, by decide, rfl⟩
  · cases h; exact ⟨_, _, Tryd.func18, co18, by decide, rfl⟩
  · cases h; exact ⟨_, _, Tryd.func19, co19, by decide, rfl⟩
  · cases h; exact ⟨_, _, Tryd.func20, co20, by decide, rfl⟩
  · cases h; exact ⟨_, _, Tryd.func21, co21, by decide, rfl⟩
  · cases h; exact ⟨_, _, Tryd.func29, co29, by decide, rfl⟩
  · cases h; exact ⟨_, _, Tryd.func33, co33, by decide, rfl⟩
  · cases h; exact ⟨_, _, Tryd.func34, co34, by decide, rfl⟩
  · cases h; exact ⟨_, _, Tryd.func35, co35, by decide, rfl⟩
  · cases h; exact ⟨_, _, Tryd.func36, co36, by decide, rfl⟩
  · cases h; exact ⟨_, _, Tryd.func38, co38, by decide, rfl⟩
  · cases h; exact ⟨_, _, Tryd.func39, co39, by decide, rfl⟩
  · cases h; exact ⟨_, _, Tryd.func40, co40, by decide, rfl⟩
  · cases h; exact ⟨_, _, Tryd.func41, co41, by decide, rfl⟩
  · cases h; exact ⟨_, _, Tryd.func46, co46, by decide, rfl⟩
  · cases h; exact ⟨_, _, Tryd.func54, co54, by decide, rfl⟩
  · cases h; exact ⟨_, _, Tryd.func56, co56, by decide, rfl⟩
  · cases h; exact ⟨_, _, Tryd.func63, co63, by decide, rfl⟩
  · cases h; exact ⟨_, _, Tryd.func66, co66, by decide, rfl⟩
  · cases h; exact ⟨_, _, Tryd.func67, co67, by decide, rfl⟩
  · exact table1 _ _ _ h

def ap : AP := ap0
theorem tableOk : TableOk Tryd.prog ap [3000003] := table0

end Go.Kt
