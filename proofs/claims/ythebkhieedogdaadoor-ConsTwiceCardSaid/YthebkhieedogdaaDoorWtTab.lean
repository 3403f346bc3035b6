/- The seat's functions on the abstract machine. -/
import Derived.Test.YthebkhieedogdaaDoorAmX
import Derived.Test.YthebkhieedogdaaDoorAmZ
import Derived.Test.YthebkhieedogdaaDoorAmL
import Derived.Test.YthebkhieedogdaaDoorAmQ
import Derived.Test.YthebkhieedogdaaDoorAmU
import Derived.Test.YthebkhieedogdaaDoorProg
namespace Go.Wt
open Go.Am Go.Proofs

set_option maxRecDepth 100000
def cut3 : Nat := 10
def mid3 : AC := (.reg [⟨(some 59), none, .mov (.t 0)⟩,
  ⟨(some 60), none, .bin .rem (.t 59) (.c (.int .i64 6))⟩,
  ⟨(some 61), none, .bin .add (.t 60) (.c (.int .i64 6))⟩,
  ⟨(some 62), none, .bin .rem (.t 61) (.c (.int .i64 6))⟩,
  ⟨(some 11), none, .mov (.t 62)⟩])
def rest3 : AC := (.seq (.reg [⟨(some 63), none, .load (some 5) (.t 8)⟩,
  ⟨(some 64), none, .bslice [(.str []), (.sl .clip []), (.sl .clip []), (.sl .clip []), (.int .i64 0)] 1 [(0, (.t 63))]⟩,
  ⟨(some 65), none, .call 0 [] (.c (.fn 7 [])) [(.t 4), (.t 64)]⟩,
  ⟨(some 12), none, .mov (.t 65)⟩])
 (.seq (.reg [⟨(some 66), none, .call 0 [] (.c (.fn 8 [])) [(.t 4)]⟩,
  ⟨(some 67), none, .len 1 (.t 66)⟩,
  ⟨(some 13), none, .mov (.t 67)⟩])
 (.seq (.reg [⟨(some 68), none, .load (some 5) (.t 8)⟩,
  ⟨(some 69), none, .load (some 5) (.t 9)⟩,
  ⟨(some 70), none, .bslice [(.str []), (.sl .clip []), (.sl .clip []), (.sl .clip []), (.int .i64 0)] 2 [(0, (.t 68)), (1, (.t 69))]⟩,
  ⟨(some 71), none, .call 0 [] (.c (.fn 7 [])) [(.t 4), (.t 70)]⟩,
  ⟨(some 14), none, .mov (.t 71)⟩])
 (.seq (.reg [⟨(some 72), none, .build [(.str []), (.sl .clip []), (.sl .clip []), (.sl .clip []), (.int .i64 0)] [(0, 1, (.c (.str [70, 105, 110, 101])))]⟩,
  ⟨(some 73), none, .mov (.t 10)⟩,
  ⟨(some 74), none, .mov (.t 11)⟩,
  ⟨(some 75), none, .iaddr 5 (.t 73) (.t 74)⟩,
  ⟨(some 76), none, .load (some 5) (.t 75)⟩,
  ⟨(some 77), none, .bslice [(.str []), (.sl .clip []), (.sl .clip []), (.sl .clip []), (.int .i64 0)] 2 [(0, (.t 72)), (1, (.t 76))]⟩,
  ⟨(some 78), none, .call 0 [] (.c (.fn 7 [])) [(.t 4), (.t 77)]⟩,
  ⟨(some 15), none, .mov (.t 78)⟩])
 (.seq (.reg [⟨(some 80), none, .call 0 [] (.c (.fn 9 [])) [(.t 4), (.c (.str [70, 105, 110, 101]))]⟩,
  ⟨(some 79), none, .mov (.t 80)⟩,
  ⟨(some 81), none, .extract (.t 79) 0⟩,
  ⟨(some 82), none, .extract (.t 79) 1⟩,
  ⟨(some 16), none, .mov (.t 81)⟩,
  ⟨(some 17), none, .mov (.t 82)⟩])
 (.seq (.reg [⟨(some 84), none, .call 0 [] (.c (.fn 9 [])) [(.t 4), (.c (.str [87]))]⟩,
  ⟨(some 83), none, .mov (.t 84)⟩,
  ⟨(some 85), none, .extract (.t 83) 0⟩,
  ⟨(some 86), none, .extract (.t 83) 1⟩,
  ⟨(some 18), none, .mov (.t 85)⟩,
  ⟨(some 19), none, .mov (.t 86)⟩])
 (.seq (.reg [⟨(some 87), none, .mov (.t 3)⟩,
  ⟨(some 88), none, .mov (.t 87)⟩,
  ⟨(some 89), (some (88, true)), .mov (.t 12)⟩,
  ⟨(some 90), (some (88, true)), .eqnil .iface true (.t 89)⟩,
  ⟨(some 91), none, .pick (.t 88) (.t 90) (.c (.bool false))⟩,
  ⟨(some 92), none, .mov (.t 91)⟩,
  ⟨(some 93), (some (92, true)), .mov (.t 13)⟩,
  ⟨(some 94), (some (92, true)), .bin .eql (.t 93) (.c (.int .i64 0))⟩,
  ⟨(some 95), none, .pick (.t 92) (.t 94) (.c (.bool false))⟩,
  ⟨(some 96), none, .mov (.t 95)⟩,
  ⟨(some 97), (some (96, true)), .mov (.t 14)⟩,
  ⟨(some 98), (some (96, true)), .eqnil .iface false (.t 97)⟩,
  ⟨(some 99), none, .pick (.t 96) (.t 98) (.c (.bool false))⟩,
  ⟨(some 100), none, .mov (.t 99)⟩,
  ⟨(some 101), (some (100, true)), .mov (.t 15)⟩,
  ⟨(some 102), (some (100, true)), .eqnil .iface true (.t 101)⟩,
  ⟨(some 103), none, .pick (.t 100) (.t 102) (.c (.bool false))⟩,
  ⟨(some 104), none, .mov (.t 103)⟩,
  ⟨(some 105), (some (104, true)), .mov (.t 17)⟩,
  ⟨(some 106), (some (104, true)), .not (.t 105)⟩,
  ⟨(some 107), none, .pick (.t 104) (.t 106) (.c (.bool false))⟩,
  ⟨(some 108), none, .mov (.t 107)⟩,
  ⟨(some 109), (some (108, true)), .mov (.t 19)⟩,
  ⟨(some 110), (some (108, true)), .not (.t 109)⟩,
  ⟨(some 111), none, .pick (.t 108) (.t 110) (.c (.bool false))⟩,
  ⟨(some 112), none, .mov (.t 111)⟩,
  ⟨(some 113), (some (112, true)), .call 0 [] (.c (.fn 8 [])) [(.t 4)]⟩,
  ⟨(some 114), (some (112, true)), .len 1 (.t 113)⟩,
  ⟨(some 115), (some (112, true)), .bin .eql (.t 114) (.c (.int .i64 2))⟩,
  ⟨(some 116), none, .pick (.t 112) (.t 115) (.c (.bool false))⟩,
  ⟨(some 2), none, .mov (.t 116)⟩])
 .ret)))))))
/-- paideia/paideialaw11.ConsTwice -/
def ac3 : AF := ⟨(.seq (.reg [⟨(some 2), none, .mov (.c (.bool false))⟩])
 (.seq (.reg [⟨(some 20), none, .call 0 [] (.c (.fn 6 [])) []⟩,
  ⟨(some 3), none, .mov (.t 20)⟩])
 (.seq (.seq (.reg [⟨(some 21), none, .mov (.t 3)⟩,
  ⟨(some 22), none, .not (.t 21)⟩])
 (.cond (.t 22) (.seq (.reg [⟨(some 2), none, .mov (.c (.bool false))⟩])
 .ret)
 .skip))
 (.seq (.reg [⟨(some 4), none, .alloc [(.sl .clip []), (.map none), (.map none)] true⟩])
 (.seq (.reg [⟨(some 23), none, .build [(.int .i64 0), (.str []), (.sl .clip [])] [(0, 1, (.c (.int .i64 2))), (1, 1, (.c (.str [84])))]⟩,
  ⟨(some 5), none, .alloc [(.int .i64 0), (.str []), (.sl .clip [])] false⟩,
  ⟨none, none, .store 3 (.t 5) (.t 23)⟩])
 (.seq (.reg [⟨(some 24), none, .build [(.int .i64 0), (.str []), (.sl .clip [])] [(0, 1, (.c (.int .i64 2))), (1, 1, (.c (.str [85])))]⟩,
  ⟨(some 6), none, .alloc [(.int .i64 0), (.str []), (.sl .clip [])] false⟩,
  ⟨none, none, .store 3 (.t 6) (.t 24)⟩])
 (.seq (.reg [⟨(some 25), none, .build [(.int .i64 0), (.str []), (.sl .clip [])] [(0, 1, (.c (.int .i64 1))), (1, 1, (.c (.str [97])))]⟩,
  ⟨(some 7), none, .alloc [(.int .i64 0), (.str []), (.sl .clip [])] false⟩,
  ⟨none, none, .store 3 (.t 7) (.t 25)⟩])
 (.seq (.reg [⟨(some 26), none, .load (some 3) (.t 6)⟩,
  ⟨(some 27), none, .bslice [(.int .i64 0), (.str []), (.sl .clip [])] 1 [(0, (.t 26))]⟩,
  ⟨(some 28), none, .build [(.str []), (.sl .clip [])] [(0, 1, (.c (.str [65]))), (1, 1, (.t 27))]⟩,
  ⟨(some 29), none, .bslice [(.str []), (.sl .clip [])] 1 [(0, (.t 28))]⟩,
  ⟨(some 30), none, .build [(.str []), (.sl .clip []), (.sl .clip []), (.sl .clip []), (.int .i64 0)] [(0, 1, (.c (.str [84]))), (2, 1, (.t 29))]⟩,
  ⟨(some 8), none, .alloc [(.str []), (.sl .clip []), (.sl .clip []), (.sl .clip []), (.int .i64 0)] false⟩,
  ⟨none, none, .store 5 (.t 8) (.t 30)⟩])
 (.seq (.reg [⟨(some 31), none, .load (some 3) (.t 5)⟩,
  ⟨(some 32), none, .bslice [(.int .i64 0), (.str []), (.sl .clip [])] 1 [(0, (.t 31))]⟩,
  ⟨(some 33), none, .build [(.str []), (.sl .clip [])] [(0, 1, (.c (.str [66]))), (1, 1, (.t 32))]⟩,
  ⟨(some 34), none, .build [(.str []), (.sl .clip [])] [(0, 1, (.c (.str [69])))]⟩,
  ⟨(some 35), none, .bslice [(.str []), (.sl .clip [])] 2 [(0, (.t 33)), (1, (.t 34))]⟩,
  ⟨(some 36), none, .build [(.str []), (.sl .clip []), (.sl .clip []), (.sl .clip []), (.int .i64 0)] [(0, 1, (.c (.str [85]))), (2, 1, (.t 35))]⟩,
  ⟨(some 9), none, .alloc [(.str []), (.sl .clip []), (.sl .clip []), (.sl .clip []), (.int .i64 0)] false⟩,
  ⟨none, none, .store 5 (.t 9) (.t 36)⟩])
 (.seq (.reg [⟨(some 37), none, .build [(.str []), (.sl .clip []), (.sl .clip []), (.sl .clip []), (.int .i64 0)] [(0, 1, (.c (.str [85])))]⟩,
  ⟨(some 38), none, .build [(.str []), (.sl .clip [])] [(0, 1, (.c (.str [65])))]⟩,
  ⟨(some 39), none, .bslice [(.str []), (.sl .clip [])] 1 [(0, (.t 38))]⟩,
  ⟨(some 40), none, .build [(.str []), (.sl .clip []), (.sl .clip []), (.sl .clip []), (.int .i64 0)] [(0, 1, (.c (.str [87]))), (2, 1, (.t 39))]⟩,
  ⟨(some 41), none, .load (some 3) (.t 7)⟩,
  ⟨(some 42), none, .bslice [(.int .i64 0), (.str []), (.sl .clip [])] 1 [(0, (.t 41))]⟩,
  ⟨(some 43), none, .build [(.str []), (.sl .clip [])] [(0, 1, (.c (.str [88]))), (1, 1, (.t 42))]⟩,
  ⟨(some 44), none, .bslice [(.str []), (.sl .clip [])] 1 [(0, (.t 43))]⟩,
  ⟨(some 45), none, .build [(.str []), (.sl .clip []), (.sl .clip []), (.sl .clip []), (.int .i64 0)] [(0, 1, (.c (.str [87]))), (2, 1, (.t 44))]⟩,
  ⟨(some 46), none, .load (some 3) (.t 5)⟩,
  ⟨(some 47), none, .bslice [(.int .i64 0), (.str []), (.sl .clip [])] 1 [(0, (.t 46))]⟩,
  ⟨(some 48), none, .build [(.int .i64 0), (.str []), (.sl .clip [])] [(0, 1, (.c (.int .i64 2))), (1, 1, (.c (.str [84]))), (2, 1, (.t 47))]⟩,
  ⟨(some 49), none, .bslice [(.int .i64 0), (.str []), (.sl .clip [])] 1 [(0, (.t 48))]⟩,
  ⟨(some 50), none, .build [(.str []), (.sl .clip [])] [(0, 1, (.c (.str [88]))), (1, 1, (.t 49))]⟩,
  ⟨(some 51), none, .bslice [(.str []), (.sl .clip [])] 1 [(0, (.t 50))]⟩,
  ⟨(some 52), none, .build [(.str []), (.sl .clip []), (.sl .clip []), (.sl .clip []), (.int .i64 0)] [(0, 1, (.c (.str [87]))), (2, 1, (.t 51))]⟩,
  ⟨(some 53), none, .build [(.str []), (.sl .clip []), (.sl .clip []), (.sl .clip []), (.int .i64 0)] [(0, 1, (.c (.str [67, 104, 97, 114])))]⟩,
  ⟨(some 54), none, .build [(.str []), (.sl .clip [])] [(0, 1, (.c (.str [88])))]⟩,
  ⟨(some 55), none, .build [(.str []), (.sl .clip [])] [(0, 1, (.c (.str [88])))]⟩,
  ⟨(some 56), none, .bslice [(.str []), (.sl .clip [])] 2 [(0, (.t 54)), (1, (.t 55))]⟩,
  ⟨(some 57), none, .build [(.str []), (.sl .clip []), (.sl .clip []), (.sl .clip []), (.int .i64 0)] [(0, 1, (.c (.str [87]))), (2, 1, (.t 56))]⟩,
  ⟨(some 58), none, .bslice [(.str []), (.sl .clip []), (.sl .clip []), (.sl .clip []), (.int .i64 0)] 6 [(0, (.t 37)), (1, (.t 40)), (2, (.t 45)), (3, (.t 52)), (4, (.t 53)), (5, (.t 57))]⟩,
  ⟨(some 10), none, .mov (.t 58)⟩])
 (.seq mid3 rest3))))))))))),
  [.t 2], false, true, 117⟩
theorem co3 : compF Tryd.prog ⟨[4], [], [], [], [], [], 3, [], []⟩ false true Tryd.f3 = some ac3 := by kernel_rfl

/-- paideia/paideialaw11.first -/
def ac6 : AF := ⟨(.seq (.reg [⟨(some 0), none, .mov (.c (.bool false))⟩])
 (.seq (.reg [⟨(some 1), none, .alloc [(.sl .clip []), (.map none), (.map none)] true⟩])
 (.seq (.reg [⟨(some 5), none, .call 0 [] (.c (.fn 9 [])) [(.t 1), (.c (.str [73, 110, 116]))]⟩,
  ⟨(some 4), none, .mov (.t 5)⟩,
  ⟨(some 6), none, .extract (.t 4) 0⟩,
  ⟨(some 7), none, .extract (.t 4) 1⟩,
  ⟨(some 2), none, .mov (.t 6)⟩,
  ⟨(some 3), none, .mov (.t 7)⟩])
 (.seq (.reg [⟨(some 8), none, .mov (.t 3)⟩,
  ⟨(some 9), none, .mov (.t 8)⟩,
  ⟨(some 10), (some (9, true)), .mov (.t 2)⟩,
  ⟨(some 11), (some (9, true)), .bin .eql (.t 10) (.c (.int .i64 0))⟩,
  ⟨(some 12), none, .pick (.t 9) (.t 11) (.c (.bool false))⟩,
  ⟨(some 13), none, .mov (.t 12)⟩,
  ⟨(some 14), (some (13, true)), .build [(.str []), (.sl .clip [])] [(0, 1, (.c (.str [67])))]⟩,
  ⟨(some 15), (some (13, true)), .bslice [(.str []), (.sl .clip [])] 1 [(0, (.t 14))]⟩,
  ⟨(some 16), (some (13, true)), .build [(.str []), (.sl .clip []), (.sl .clip []), (.sl .clip []), (.int .i64 0)] [(0, 1, (.c (.str [84]))), (2, 1, (.t 15))]⟩,
  ⟨(some 17), (some (13, true)), .bslice [(.str []), (.sl .clip []), (.sl .clip []), (.sl .clip []), (.int .i64 0)] 1 [(0, (.t 16))]⟩,
  ⟨(some 18), (some (13, true)), .call 0 [] (.c (.fn 7 [])) [(.t 1), (.t 17)]⟩,
  ⟨(some 19), (some (13, true)), .eqnil .iface false (.t 18)⟩,
  ⟨(some 20), none, .pick (.t 13) (.t 19) (.c (.bool false))⟩,
  ⟨(some 21), none, .mov (.t 20)⟩,
  ⟨(some 22), (some (21, true)), .call 0 [] (.c (.fn 8 [])) [(.t 1)]⟩,
  ⟨(some 23), (some (21, true)), .len 1 (.t 22)⟩,
  ⟨(some 24), (some (21, true)), .bin .eql (.t 23) (.c (.int .i64 1))⟩,
  ⟨(some 25), none, .pick (.t 21) (.t 24) (.c (.bool false))⟩,
  ⟨(some 0), none, .mov (.t 25)⟩])
 .ret)))),
  [.t 0], false, true, 26⟩
theorem co6 : compF Tryd.prog ⟨[1], [], [], [], [], [], 6, [], []⟩ false true Tryd.f6 = some ac6 := by kernel_rfl

/-- (*paideia/cons.Env).Add -/
def ac7 : AF := ⟨(.seq (.reg [⟨(some 4), none, .mov (.c .nili)⟩])
 (.seq (.reg [⟨(some 19), none, .mov (.t 0)⟩,
  ⟨(some 20), none, .call 0 [] (.c (.fn 22 [])) [(.t 19)]⟩,
  ⟨(some 5), none, .mov (.t 20)⟩])
 (.seq (.seq (.reg [⟨(some 21), none, .mov (.t 1)⟩,
  ⟨(some 22), none, .len 1 (.t 21)⟩,
  ⟨(some 23), none, .mov (.c (.int .i64 0))⟩])
 (.block 0 (.loop [0, 1, 5, 21, 22, 23] [] (.seq (.reg [⟨(some 24), none, .bin .lss (.t 23) (.t 22)⟩])
 (.seq (.cond (.t 24) .skip
 (.exit 0))
 (.seq (.block 1 (.seq (.reg [⟨(some 25), none, .iaddr 5 (.t 21) (.t 23)⟩,
  ⟨(some 26), none, .load (some 5) (.t 25)⟩,
  ⟨(some 7), none, .alloc [(.str []), (.sl .clip []), (.sl .clip []), (.sl .clip []), (.int .i64 0)] false⟩,
  ⟨none, none, .store 5 (.t 7) (.t 26)⟩])
 (.seq (.seq (.reg [⟨(some 28), none, .mov (.t 5)⟩,
  ⟨(some 29), none, .faddr 0 (.t 7)⟩,
  ⟨(some 30), none, .load none (.t 29)⟩,
  ⟨(some 31), none, .call 0 [] (.c (.fn 9 [])) [(.t 28), (.t 30)]⟩,
  ⟨(some 27), none, .mov (.t 31)⟩,
  ⟨(some 32), none, .extract (.t 27) 0⟩,
  ⟨(some 33), none, .extract (.t 27) 1⟩,
  ⟨(some 8), none, .mov (.t 32)⟩,
  ⟨(some 9), none, .mov (.t 33)⟩])
 (.seq (.reg [⟨(some 34), none, .mov (.t 9)⟩])
 (.cond (.t 34) (.seq (.reg [⟨(some 35), none, .faddr 4 (.t 7)⟩,
  ⟨(some 36), none, .load none (.t 35)⟩,
  ⟨(some 37), none, .gload 0⟩,
  ⟨(some 38), none, .build [(.int .i64 0), .nili] [(0, 1, (.t 36)), (1, 1, (.t 37))]⟩,
  ⟨(some 39), none, .box (.t 38) 2 true⟩,
  ⟨(some 40), none, .mkif 71 (.t 39)⟩,
  ⟨(some 4), none, .mov (.t 40)⟩])
 .ret)
 .skip)))
 (.seq (.reg [⟨(some 41), none, .mkmap⟩,
  ⟨(some 10), none, .mov (.t 41)⟩])
 (.seq (.seq (.reg [⟨(some 42), none, .faddr 2 (.t 7)⟩,
  ⟨(some 43), none, .load none (.t 42)⟩,
  ⟨(some 44), none, .len 1 (.t 43)⟩,
  ⟨(some 45), none, .mov (.c (.int .i64 0))⟩])
 (.block 2 (.loop [0, 1, 5, 10, 21, 22, 23, 43, 44, 45] [7] (.seq (.reg [⟨(some 46), none, .bin .lss (.t 45) (.t 44)⟩])
 (.seq (.cond (.t 46) .skip
 (.exit 2))
 (.seq (.block 3 (.seq (.reg [⟨(some 47), none, .iaddr 2 (.t 43) (.t 45)⟩,
  ⟨(some 48), none, .load (some 2) (.t 47)⟩,
  ⟨(some 12), none, .alloc [(.str []), (.sl .clip [])] false⟩,
  ⟨none, none, .store 2 (.t 12) (.t 48)⟩])
 (.seq (.seq (.reg [⟨(some 50), none, .mov (.t 5)⟩,
  ⟨(some 51), none, .faddr 0 (.t 12)⟩,
  ⟨(some 52), none, .load none (.t 51)⟩,
  ⟨(some 53), none, .call 0 [] (.c (.fn 23 [])) [(.t 50), (.t 52)]⟩,
  ⟨(some 49), none, .mov (.t 53)⟩,
  ⟨(some 54), none, .extract (.t 49) 0⟩,
  ⟨(some 55), none, .extract (.t 49) 1⟩,
  ⟨(some 56), none, .extract (.t 49) 2⟩,
  ⟨(some 13), none, .mov (.t 54)⟩,
  ⟨(some 14), none, .mov (.t 55)⟩,
  ⟨(some 15), none, .mov (.t 56)⟩])
 (.seq (.reg [⟨(some 57), none, .mov (.t 15)⟩,
  ⟨(some 58), none, .mov (.t 57)⟩,
  ⟨(some 59), (some (58, false)), .mov (.t 10)⟩,
  ⟨(some 60), (some (58, false)), .faddr 0 (.t 12)⟩,
  ⟨(some 61), (some (58, false)), .load none (.t 60)⟩,
  ⟨(some 62), (some (58, false)), .lookup .str (.bool false) (.t 59) (.t 61) false⟩,
  ⟨(some 63), none, .pick (.t 58) (.c (.bool true)) (.t 62)⟩])
 (.cond (.t 63) (.seq (.reg [⟨(some 64), none, .faddr 4 (.t 7)⟩,
  ⟨(some 65), none, .load none (.t 64)⟩,
  ⟨(some 66), none, .gload 0⟩,
  ⟨(some 67), none, .build [(.int .i64 0), .nili] [(0, 1, (.t 65)), (1, 1, (.t 66))]⟩,
  ⟨(some 68), none, .box (.t 67) 2 true⟩,
  ⟨(some 69), none, .mkif 71 (.t 68)⟩,
  ⟨(some 4), none, .mov (.t 69)⟩])
 .ret)
 .skip)))
 (.reg [⟨(some 70), none, .mov (.t 10)⟩,
  ⟨(some 71), none, .faddr 0 (.t 12)⟩,
  ⟨(some 72), none, .load none (.t 71)⟩,
  ⟨none, none, .mapset .str (.t 70) (.t 72) (.c (.bool true))⟩]))))
 (.reg [⟨(some 73), none, .bin .add (.t 45) (.c (.int .i64 1))⟩,
  ⟨(some 45), none, .mov (.t 73)⟩])))))))
 (.reg [⟨(some 74), none, .mov (.t 5)⟩,
  ⟨(some 75), none, .load (some 5) (.t 7)⟩,
  ⟨(some 76), none, .call 0 [] (.c (.fn 25 [])) [(.t 75)]⟩,
  ⟨(some 77), none, .call 0 [] (.c (.fn 24 [])) [(.t 74), (.t 76)]⟩]))))))
 (.reg [⟨(some 78), none, .bin .add (.t 23) (.c (.int .i64 1))⟩,
  ⟨(some 23), none, .mov (.t 78)⟩])))))))
 (.seq (.seq (.reg [⟨(some 79), none, .mov (.t 1)⟩,
  ⟨(some 80), none, .len 1 (.t 79)⟩,
  ⟨(some 81), none, .mov (.c (.int .i64 0))⟩])
 (.block 4 (.loop [0, 5, 79, 80, 81] [] (.seq (.reg [⟨(some 82), none, .bin .lss (.t 81) (.t 80)⟩])
 (.seq (.cond (.t 82) .skip
 (.exit 4))
 (.seq (.block 5 (.seq (.reg [⟨(some 83), none, .iaddr 5 (.t 79) (.t 81)⟩,
  ⟨(some 84), none, .load (some 5) (.t 83)⟩,
  ⟨(some 17), none, .alloc [(.str []), (.sl .clip []), (.sl .clip []), (.sl .clip []), (.int .i64 0)] false⟩,
  ⟨none, none, .store 5 (.t 17) (.t 84)⟩])
 (.seq (.reg [⟨(some 85), none, .mov (.t 5)⟩,
  ⟨(some 86), none, .load (some 5) (.t 17)⟩,
  ⟨(some 87), none, .call 0 [] (.c (.fn 26 [])) [(.t 85), (.t 86)]⟩,
  ⟨(some 18), none, .mov (.t 87)⟩])
 (.seq (.reg [⟨(some 88), none, .mov (.t 18)⟩,
  ⟨(some 89), none, .eqnil .iface true (.t 88)⟩])
 (.cond (.t 89) (.seq (.reg [⟨(some 90), none, .faddr 4 (.t 17)⟩,
  ⟨(some 91), none, .load none (.t 90)⟩,
  ⟨(some 92), none, .mov (.t 18)⟩,
  ⟨(some 93), none, .build [(.int .i64 0), .nili] [(0, 1, (.t 91)), (1, 1, (.t 92))]⟩,
  ⟨(some 94), none, .box (.t 93) 2 true⟩,
  ⟨(some 95), none, .mkif 71 (.t 94)⟩,
  ⟨(some 4), none, .mov (.t 95)⟩])
 .ret)
 .skip)))))
 (.reg [⟨(some 96), none, .bin .add (.t 81) (.c (.int .i64 1))⟩,
  ⟨(some 81), none, .mov (.t 96)⟩])))))))
 (.seq (.reg [⟨(some 97), none, .mov (.t 0)⟩,
  ⟨(some 98), none, .mov (.t 5)⟩,
  ⟨(some 99), none, .nilck (.t 98)⟩,
  ⟨(some 100), none, .load (some 3) (.t 99)⟩,
  ⟨(some 101), none, .nilck (.t 97)⟩,
  ⟨none, none, .store 3 (.t 101) (.t 100)⟩])
 (.seq (.reg [⟨(some 4), none, .mov (.c .nili)⟩])
 .ret)))))),
  [.t 4], false, false, 102⟩
theorem co7 : compF Tryd.prog ⟨[39, 68, 94], [(3, [0, 1, 5, 21, 22, 23], []), (10, [0, 1, 5, 10, 21, 22, 23, 43, 44, 45], [7]), (20, [0, 5, 79, 80, 81], [])], [], [0], [], [], 7, [], []⟩ false false Tryd.f7 = some ac7 := by kernel_rfl

/-- (*paideia/cons.Env).Datas -/
def ac8 : AF := ⟨(.seq (.reg [⟨(some 2), none, .mov (.c (.sl .clip []))⟩])
 (.seq (.reg [⟨(some 3), none, .mov (.c (.sl .clip []))⟩])
 (.seq (.seq (.reg [⟨(some 6), none, .mov (.t 0)⟩,
  ⟨(some 7), none, .nilck (.t 6)⟩,
  ⟨(some 8), none, .faddr 0 (.t 7)⟩,
  ⟨(some 9), none, .load none (.t 8)⟩,
  ⟨(some 10), none, .len 1 (.t 9)⟩,
  ⟨(some 11), none, .mov (.c (.int .i64 0))⟩])
 (.block 0 (.loop [3, 9, 10, 11] [] (.seq (.reg [⟨(some 12), none, .bin .lss (.t 11) (.t 10)⟩])
 (.seq (.cond (.t 12) .skip
 (.exit 0))
 (.seq (.block 1 (.seq (.reg [⟨(some 13), none, .iaddr 5 (.t 9) (.t 11)⟩,
  ⟨(some 14), none, .load (some 5) (.t 13)⟩,
  ⟨(some 5), none, .alloc [(.str []), (.sl .clip []), (.sl .clip []), (.sl .clip []), (.int .i64 0)] false⟩,
  ⟨none, none, .store 5 (.t 5) (.t 14)⟩])
 (.reg [⟨(some 15), none, .mov (.t 3)⟩,
  ⟨(some 16), none, .load (some 5) (.t 5)⟩,
  ⟨(some 17), none, .call 0 [] (.c (.fn 25 [])) [(.t 16)]⟩,
  ⟨(some 18), none, .bslice [(.str []), (.sl .clip []), (.sl .clip []), (.sl .clip []), (.int .i64 0)] 1 [(0, (.t 17))]⟩,
  ⟨(some 19), none, .append 5 (.t 15) (.t 18)⟩,
  ⟨(some 3), none, .mov (.t 19)⟩])))
 (.reg [⟨(some 20), none, .bin .add (.t 11) (.c (.int .i64 1))⟩,
  ⟨(some 11), none, .mov (.t 20)⟩])))))))
 (.seq (.reg [⟨(some 21), none, .mov (.t 3)⟩,
  ⟨(some 2), none, .mov (.t 21)⟩])
 .ret)))),
  [.t 2], false, true, 22⟩
theorem co8 : compF Tryd.prog ⟨[], [(3, [3, 9, 10, 11], [])], [], [], [], [], 8, [], []⟩ false true Tryd.f8 = some ac8 := by kernel_rfl

/-- (*paideia/cons.Env).Arity -/
def ac9 : AF := ⟨(.seq (.reg [⟨(some 4), none, .mov (.c (.int .i64 0))⟩,
  ⟨(some 5), none, .mov (.c (.bool false))⟩])
 (.seq (.seq (.reg [⟨(some 8), none, .mov (.t 1)⟩,
  ⟨(some 9), none, .bin .eql (.t 8) (.c (.str [73, 110, 116]))⟩,
  ⟨(some 10), none, .mov (.t 9)⟩,
  ⟨(some 11), (some (10, false)), .mov (.t 1)⟩,
  ⟨(some 12), (some (10, false)), .bin .eql (.t 11) (.c (.str [67, 104, 97, 114]))⟩,
  ⟨(some 13), none, .pick (.t 10) (.c (.bool true)) (.t 12)⟩])
 (.cond (.t 13) (.seq (.reg [⟨(some 4), none, .mov (.c (.int .i64 0))⟩,
  ⟨(some 5), none, .mov (.c (.bool true))⟩])
 .ret)
 .skip))
 (.seq (.reg [⟨(some 15), none, .mov (.t 0)⟩,
  ⟨(some 16), none, .nilck (.t 15)⟩,
  ⟨(some 17), none, .faddr 1 (.t 16)⟩,
  ⟨(some 18), none, .load none (.t 17)⟩,
  ⟨(some 19), none, .mov (.t 1)⟩,
  ⟨(some 20), none, .lookup .str (.int .i64 0) (.t 18) (.t 19) true⟩,
  ⟨(some 14), none, .mov (.t 20)⟩,
  ⟨(some 21), none, .extract (.t 14) 0⟩,
  ⟨(some 22), none, .extract (.t 14) 1⟩,
  ⟨(some 6), none, .mov (.t 21)⟩,
  ⟨(some 7), none, .mov (.t 22)⟩])
 (.seq (.seq (.reg [⟨(some 23), none, .mov (.t 7)⟩,
  ⟨(some 24), none, .not (.t 23)⟩])
 (.cond (.t 24) (.seq (.reg [⟨(some 4), none, .mov (.c (.int .i64 0))⟩,
  ⟨(some 5), none, .mov (.c (.bool false))⟩])
 .ret)
 .skip))
 (.seq (.reg [⟨(some 25), none, .mov (.t 0)⟩,
  ⟨(some 26), none, .nilck (.t 25)⟩,
  ⟨(some 27), none, .faddr 0 (.t 26)⟩,
  ⟨(some 28), none, .load none (.t 27)⟩,
  ⟨(some 29), none, .mov (.t 6)⟩,
  ⟨(some 30), none, .iaddr 5 (.t 28) (.t 29)⟩,
  ⟨(some 31), none, .faddr 1 (.t 30)⟩,
  ⟨(some 32), none, .load none (.t 31)⟩,
  ⟨(some 33), none, .len 1 (.t 32)⟩,
  ⟨(some 4), none, .mov (.t 33)⟩,
  ⟨(some 5), none, .mov (.c (.bool true))⟩])
 .ret))))),
  [.t 4, .t 5], false, true, 34⟩
theorem co9 : compF Tryd.prog ⟨[], [], [], [], [], [], 9, [], []⟩ false true Tryd.f9 = some ac9 := by kernel_rfl

/-- (*paideia/cons.Env).Copy -/
def ac22 : AF := ⟨(.seq (.reg [⟨(some 2), none, .mov (.c .nilp)⟩])
 (.seq (.reg [⟨(some 6), none, .mkmap⟩,
  ⟨(some 7), none, .mkmap⟩,
  ⟨(some 8), none, .build [(.sl .clip []), (.map none), (.map none)] [(1, 1, (.t 6)), (2, 1, (.t 7))]⟩,
  ⟨(some 9), none, .box (.t 8) 3 true⟩,
  ⟨(some 3), none, .mov (.t 9)⟩])
 (.seq (.seq (.reg [⟨(some 10), none, .mov (.t 0)⟩,
  ⟨(some 11), none, .nilck (.t 10)⟩,
  ⟨(some 12), none, .faddr 0 (.t 11)⟩,
  ⟨(some 13), none, .load none (.t 12)⟩,
  ⟨(some 14), none, .len 1 (.t 13)⟩,
  ⟨(some 15), none, .mov (.c (.int .i64 0))⟩])
 (.block 0 (.loop [3, 13, 14, 15] [] (.seq (.reg [⟨(some 16), none, .bin .lss (.t 15) (.t 14)⟩])
 (.seq (.cond (.t 16) .skip
 (.exit 0))
 (.seq (.block 1 (.seq (.reg [⟨(some 17), none, .iaddr 5 (.t 13) (.t 15)⟩,
  ⟨(some 18), none, .load (some 5) (.t 17)⟩,
  ⟨(some 5), none, .alloc [(.str []), (.sl .clip []), (.sl .clip []), (.sl .clip []), (.int .i64 0)] false⟩,
  ⟨none, none, .store 5 (.t 5) (.t 18)⟩])
 (.reg [⟨(some 19), none, .mov (.t 3)⟩,
  ⟨(some 20), none, .load (some 5) (.t 5)⟩,
  ⟨(some 21), none, .call 0 [] (.c (.fn 25 [])) [(.t 20)]⟩,
  ⟨(some 22), none, .call 0 [] (.c (.fn 24 [])) [(.t 19), (.t 21)]⟩])))
 (.reg [⟨(some 23), none, .bin .add (.t 15) (.c (.int .i64 1))⟩,
  ⟨(some 15), none, .mov (.t 23)⟩])))))))
 (.seq (.reg [⟨(some 24), none, .mov (.t 3)⟩,
  ⟨(some 2), none, .mov (.t 24)⟩])
 .ret)))),
  [.t 2], false, false, 25⟩
theorem co22 : compF Tryd.prog ⟨[9], [(3, [3, 13, 14, 15], [])], [], [], [], [], 22, [], []⟩ false false Tryd.f22 = some ac22 := by kernel_rfl

/-- (*paideia/cons.Env).Place -/
def ac23 : AF := ⟨(.seq (.reg [⟨(some 4), none, .mov (.c (.str []))⟩,
  ⟨(some 5), none, .mov (.c (.int .i64 0))⟩,
  ⟨(some 6), none, .mov (.c (.bool false))⟩])
 (.seq (.reg [⟨(some 10), none, .mov (.t 0)⟩,
  ⟨(some 11), none, .nilck (.t 10)⟩,
  ⟨(some 12), none, .faddr 2 (.t 11)⟩,
  ⟨(some 13), none, .load none (.t 12)⟩,
  ⟨(some 14), none, .mov (.t 1)⟩,
  ⟨(some 15), none, .lookup .str (.agg [(.int .i64 0), (.int .i64 0)]) (.t 13) (.t 14) true⟩,
  ⟨(some 9), none, .mov (.t 15)⟩,
  ⟨(some 16), none, .extract (.t 9) 0⟩,
  ⟨(some 17), none, .extract (.t 9) 1⟩,
  ⟨(some 7), none, .alloc [(.int .i64 0), (.int .i64 0)] false⟩,
  ⟨none, none, .store 2 (.t 7) (.t 16)⟩,
  ⟨(some 8), none, .mov (.t 17)⟩])
 (.seq (.seq (.reg [⟨(some 18), none, .mov (.t 8)⟩,
  ⟨(some 19), none, .not (.t 18)⟩])
 (.cond (.t 19) (.seq (.reg [⟨(some 4), none, .mov (.c (.str []))⟩,
  ⟨(some 5), none, .mov (.c (.int .i64 0))⟩,
  ⟨(some 6), none, .mov (.c (.bool false))⟩])
 .ret)
 .skip))
 (.seq (.reg [⟨(some 20), none, .mov (.t 0)⟩,
  ⟨(some 21), none, .nilck (.t 20)⟩,
  ⟨(some 22), none, .faddr 0 (.t 21)⟩,
  ⟨(some 23), none, .load none (.t 22)⟩,
  ⟨(some 24), none, .faddr 0 (.t 7)⟩,
  ⟨(some 25), none, .load none (.t 24)⟩,
  ⟨(some 26), none, .iaddr 5 (.t 23) (.t 25)⟩,
  ⟨(some 27), none, .faddr 0 (.t 26)⟩,
  ⟨(some 28), none, .load none (.t 27)⟩,
  ⟨(some 29), none, .faddr 1 (.t 7)⟩,
  ⟨(some 30), none, .load none (.t 29)⟩,
  ⟨(some 4), none, .mov (.t 28)⟩,
  ⟨(some 5), none, .mov (.t 30)⟩,
  ⟨(some 6), none, .mov (.c (.bool true))⟩])
 .ret)))),
  [.t 4, .t 5, .t 6], false, true, 31⟩
theorem co23 : compF Tryd.prog ⟨[], [], [], [], [], [], 23, [], []⟩ false true Tryd.f23 = some ac23 := by kernel_rfl

/-- (*paideia/cons.Env).puts -/
def ac24 : AF := ⟨(.seq (.reg [⟨(some 3), none, .box (.t 1) 5 false⟩])
 (.seq (.seq (.reg [⟨(some 6), none, .mov (.t 0)⟩,
  ⟨(some 7), none, .nilck (.t 6)⟩,
  ⟨(some 8), none, .faddr 1 (.t 7)⟩,
  ⟨(some 9), none, .load none (.t 8)⟩,
  ⟨(some 10), none, .eqnil .map false (.t 9)⟩])
 (.cond (.t 10) (.reg [⟨(some 11), none, .mov (.t 0)⟩,
  ⟨(some 12), none, .mov (.t 0)⟩,
  ⟨(some 13), none, .mkmap⟩,
  ⟨(some 14), none, .mkmap⟩,
  ⟨(some 15), none, .nilck (.t 11)⟩,
  ⟨(some 16), none, .faddr 1 (.t 15)⟩,
  ⟨none, none, .store 1 (.t 16) (.t 13)⟩,
  ⟨(some 17), none, .nilck (.t 12)⟩,
  ⟨(some 18), none, .faddr 2 (.t 17)⟩,
  ⟨none, none, .store 1 (.t 18) (.t 14)⟩])
 .skip))
 (.seq (.reg [⟨(some 19), none, .mov (.t 0)⟩,
  ⟨(some 20), none, .nilck (.t 19)⟩,
  ⟨(some 21), none, .faddr 1 (.t 20)⟩,
  ⟨(some 22), none, .load none (.t 21)⟩,
  ⟨(some 23), none, .faddr 0 (.t 3)⟩,
  ⟨(some 24), none, .load none (.t 23)⟩,
  ⟨(some 25), none, .mov (.t 0)⟩,
  ⟨(some 26), none, .nilck (.t 25)⟩,
  ⟨(some 27), none, .faddr 0 (.t 26)⟩,
  ⟨(some 28), none, .load none (.t 27)⟩,
  ⟨(some 29), none, .len 1 (.t 28)⟩,
  ⟨none, none, .mapset .str (.t 22) (.t 24) (.t 29)⟩])
 (.seq (.seq (.reg [⟨(some 30), none, .faddr 2 (.t 3)⟩,
  ⟨(some 31), none, .load none (.t 30)⟩,
  ⟨(some 32), none, .len 1 (.t 31)⟩,
  ⟨(some 33), none, .mov (.c (.int .i64 0))⟩])
 (.block 0 (.loop [0, 31, 32, 33] [3] (.seq (.reg [⟨(some 34), none, .bin .lss (.t 33) (.t 32)⟩])
 (.seq (.cond (.t 34) .skip
 (.exit 0))
 (.seq (.block 1 (.seq (.reg [⟨(some 35), none, .mov (.t 33)⟩,
  ⟨(some 36), none, .iaddr 2 (.t 31) (.t 33)⟩,
  ⟨(some 37), none, .load (some 2) (.t 36)⟩,
  ⟨(some 5), none, .alloc [(.str []), (.sl .clip [])] false⟩,
  ⟨(some 4), none, .mov (.t 35)⟩,
  ⟨none, none, .store 2 (.t 5) (.t 37)⟩])
 (.reg [⟨(some 38), none, .mov (.t 0)⟩,
  ⟨(some 39), none, .nilck (.t 38)⟩,
  ⟨(some 40), none, .faddr 2 (.t 39)⟩,
  ⟨(some 41), none, .load none (.t 40)⟩,
  ⟨(some 42), none, .faddr 0 (.t 5)⟩,
  ⟨(some 43), none, .load none (.t 42)⟩,
  ⟨(some 44), none, .mov (.t 0)⟩,
  ⟨(some 45), none, .nilck (.t 44)⟩,
  ⟨(some 46), none, .faddr 0 (.t 45)⟩,
  ⟨(some 47), none, .load none (.t 46)⟩,
  ⟨(some 48), none, .len 1 (.t 47)⟩,
  ⟨(some 49), none, .mov (.t 4)⟩,
  ⟨(some 50), none, .build [(.int .i64 0), (.int .i64 0)] [(0, 1, (.t 48)), (1, 1, (.t 49))]⟩,
  ⟨none, none, .mapset .str (.t 41) (.t 43) (.t 50)⟩])))
 (.reg [⟨(some 51), none, .bin .add (.t 33) (.c (.int .i64 1))⟩,
  ⟨(some 33), none, .mov (.t 51)⟩])))))))
 (.reg [⟨(some 52), none, .mov (.t 0)⟩,
  ⟨(some 53), none, .mov (.t 0)⟩,
  ⟨(some 54), none, .nilck (.t 53)⟩,
  ⟨(some 55), none, .faddr 0 (.t 54)⟩,
  ⟨(some 56), none, .load none (.t 55)⟩,
  ⟨(some 57), none, .load (some 5) (.t 3)⟩,
  ⟨(some 58), none, .bslice [(.str []), (.sl .clip []), (.sl .clip []), (.sl .clip []), (.int .i64 0)] 1 [(0, (.t 57))]⟩,
  ⟨(some 59), none, .append 5 (.t 56) (.t 58)⟩,
  ⟨(some 60), none, .nilck (.t 52)⟩,
  ⟨(some 61), none, .faddr 0 (.t 60)⟩,
  ⟨none, none, .store 1 (.t 61) (.t 59)⟩]))))),
  [], false, false, 62⟩
theorem co24 : compF Tryd.prog ⟨[], [(5, [0, 31, 32, 33], [3])], [], [], [], [], 24, [], []⟩ false false Tryd.f24 = some ac24 := by kernel_rfl

/-- paideia/cons.Clone -/
def ac25 : AF := ⟨(.seq (.reg [⟨(some 1), none, .box (.t 0) 5 false⟩,
  ⟨(some 2), none, .alloc [(.str []), (.sl .clip []), (.sl .clip []), (.sl .clip []), (.int .i64 0)] false⟩])
 (.seq (.reg [⟨(some 9), none, .load (some 5) (.t 1)⟩,
  ⟨(some 3), none, .alloc [(.str []), (.sl .clip []), (.sl .clip []), (.sl .clip []), (.int .i64 0)] false⟩,
  ⟨none, none, .store 5 (.t 3) (.t 9)⟩])
 (.seq (.reg [⟨(some 10), none, .faddr 1 (.t 1)⟩,
  ⟨(some 11), none, .load none (.t 10)⟩,
  ⟨(some 12), none, .call 0 [] (.c (.fn 46 [])) [(.t 11)]⟩,
  ⟨(some 13), none, .faddr 3 (.t 1)⟩,
  ⟨(some 14), none, .loadL none (.t 13)⟩,
  ⟨(some 15), none, .call 0 [] (.c (.fn 46 [])) [(.t 14)]⟩,
  ⟨(some 16), none, .faddr 1 (.t 3)⟩,
  ⟨none, none, .store 1 (.t 16) (.t 12)⟩,
  ⟨(some 17), none, .faddr 3 (.t 3)⟩,
  ⟨none, none, .store 1 (.t 17) (.t 15)⟩,
  ⟨(some 18), none, .faddr 2 (.t 3)⟩,
  ⟨none, none, .store 1 (.t 18) (.c (.sl .clip []))⟩])
 (.seq (.seq (.reg [⟨(some 19), none, .faddr 2 (.t 1)⟩,
  ⟨(some 20), none, .load none (.t 19)⟩,
  ⟨(some 21), none, .len 1 (.t 20)⟩,
  ⟨(some 22), none, .mov (.c (.int .i64 0))⟩])
 (.block 0 (.loop [20, 21, 22] [2, 3] (.seq (.reg [⟨(some 23), none, .bin .lss (.t 22) (.t 21)⟩])
 (.seq (.cond (.t 23) .skip
 (.exit 0))
 (.seq (.block 1 (.seq (.reg [⟨(some 24), none, .iaddr 2 (.t 20) (.t 22)⟩,
  ⟨(some 25), none, .load (some 2) (.t 24)⟩,
  ⟨(some 5), none, .alloc [(.str []), (.sl .clip [])] false⟩,
  ⟨none, none, .store 2 (.t 5) (.t 25)⟩])
 (.seq (.reg [⟨(some 26), none, .faddr 0 (.t 5)⟩,
  ⟨(some 27), none, .load none (.t 26)⟩,
  ⟨(some 28), none, .build [(.str []), (.sl .clip [])] [(0, 1, (.t 27))]⟩,
  ⟨(some 6), none, .alloc [(.str []), (.sl .clip [])] false⟩,
  ⟨none, none, .store 2 (.t 6) (.t 28)⟩])
 (.seq (.seq (.reg [⟨(some 29), none, .faddr 1 (.t 5)⟩,
  ⟨(some 30), none, .load none (.t 29)⟩,
  ⟨(some 31), none, .len 1 (.t 30)⟩,
  ⟨(some 32), none, .mov (.c (.int .i64 0))⟩])
 (.block 2 (.loop [20, 21, 22, 30, 31, 32] [2, 3, 6] (.seq (.reg [⟨(some 33), none, .bin .lss (.t 32) (.t 31)⟩])
 (.seq (.cond (.t 33) .skip
 (.exit 2))
 (.seq (.block 3 (.seq (.reg [⟨(some 34), none, .iaddr 3 (.t 30) (.t 32)⟩,
  ⟨(some 35), none, .load (some 3) (.t 34)⟩,
  ⟨(some 8), none, .alloc [(.int .i64 0), (.str []), (.sl .clip [])] false⟩,
  ⟨none, none, .store 3 (.t 8) (.t 35)⟩])
 (.reg [⟨(some 36), none, .faddr 1 (.t 6)⟩,
  ⟨(some 37), none, .loadL none (.t 36)⟩,
  ⟨(some 38), none, .load (some 3) (.t 8)⟩,
  ⟨(some 39), none, .call 0 [] (.c (.fn 47 [])) [(.t 38)]⟩,
  ⟨(some 40), none, .bslice [(.int .i64 0), (.str []), (.sl .clip [])] 1 [(0, (.t 39))]⟩,
  ⟨(some 41), none, .append 3 (.t 37) (.t 40)⟩,
  ⟨(some 42), none, .faddr 1 (.t 6)⟩,
  ⟨none, none, .store 1 (.t 42) (.t 41)⟩])))
 (.reg [⟨(some 43), none, .bin .add (.t 32) (.c (.int .i64 1))⟩,
  ⟨(some 32), none, .mov (.t 43)⟩])))))))
 (.reg [⟨(some 44), none, .faddr 2 (.t 3)⟩,
  ⟨(some 45), none, .load none (.t 44)⟩,
  ⟨(some 46), none, .load (some 2) (.t 6)⟩,
  ⟨(some 47), none, .bslice [(.str []), (.sl .clip [])] 1 [(0, (.t 46))]⟩,
  ⟨(some 48), none, .append 2 (.t 45) (.t 47)⟩,
  ⟨(some 49), none, .faddr 2 (.t 3)⟩,
  ⟨none, none, .store 1 (.t 49) (.t 48)⟩])))))
 (.reg [⟨(some 50), none, .bin .add (.t 22) (.c (.int .i64 1))⟩,
  ⟨(some 22), none, .mov (.t 50)⟩])))))))
 (.seq (.reg [⟨(some 51), none, .load (some 5) (.t 3)⟩,
  ⟨none, none, .store 5 (.t 2) (.t 51)⟩])
 .ret))))),
  [.cell 2 (some 5)], false, true, 52⟩
theorem co25 : compF Tryd.prog ⟨[], [(4, [20, 21, 22], [2, 3]), (8, [20, 21, 22, 30, 31, 32], [2, 3, 6])], [], [], [], [], 25, [], []⟩ false true Tryd.f25 = some ac25 := by kernel_rfl

/-- (*paideia/cons.Env).args: round 0 -/
def ab26_0 : AB := ⟨[27], (.reg [⟨(some 9), none, .alloc [(.int .i64 0), (.str []), (.sl .clip [])] false⟩,
  ⟨none, none, .store 3 (.t 9) (.t 27)⟩]),
 (.block 5 (.seq (.seq (.reg [⟨(some 28), none, .faddr 0 (.t 9)⟩,
  ⟨(some 29), none, .load none (.t 28)⟩,
  ⟨(some 30), none, .bin .eql (.t 29) (.c (.int .i64 1))⟩,
  ⟨(some 31), none, .mov (.t 30)⟩,
  ⟨(some 32), (some (31, true)), .faddr 1 (.t 3)⟩,
  ⟨(some 33), (some (31, true)), .load none (.t 32)⟩,
  ⟨(some 34), (some (31, true)), .faddr 1 (.t 9)⟩,
  ⟨(some 35), (some (31, true)), .load none (.t 34)⟩,
  ⟨(some 36), (some (31, true)), .call 0 [] (.c (.fn 49 [])) [(.t 33), (.t 35)]⟩,
  ⟨(some 37), (some (31, true)), .not (.t 36)⟩,
  ⟨(some 38), none, .pick (.t 31) (.t 37) (.c (.bool false))⟩])
 (.cond (.t 38) (.seq (.reg [⟨(some 39), none, .gload 1⟩,
  ⟨none, none, .store 1 (.t 4) (.t 39)⟩])
 .ret)
 .skip))
 (.seq (.reg [⟨(some 40), none, .load none (.t 2)⟩,
  ⟨(some 41), none, .load (some 3) (.t 9)⟩,
  ⟨(some 42), none, .call 0 [] (.c (.fn 50 [])) [(.t 40), (.t 41)]⟩,
  ⟨(some 10), none, .mov (.t 42)⟩])
 (.seq (.reg [⟨(some 43), none, .mov (.t 10)⟩,
  ⟨(some 44), none, .eqnil .iface true (.t 43)⟩])
 (.cond (.t 44) (.seq (.reg [⟨(some 45), none, .mov (.t 10)⟩,
  ⟨none, none, .store 1 (.t 4) (.t 45)⟩])
 .ret)
 .skip)))))⟩
theorem cb26_0 : ((Tryd.f26.body.bind fun c => ((rfs c)[1664 % 64]?).map fun t => (t.1, t.2.1, t.2.2, Tryd.f26.ntmps)).bind (compB Tryd.prog ⟨[], [], [], [1], [], [], 26, [], []⟩)) = some ab26_0 := by kernel_rfl

/-- (*paideia/cons.Env).args -/
def ac26 : AF := ⟨(.seq (.reg [⟨(some 2), none, .box (.t 0) 1 true⟩,
  ⟨(some 3), none, .box (.t 1) 5 true⟩,
  ⟨(some 4), none, .alloc [.nili] true⟩])
 (.seq (.seq (.reg [⟨(some 11), none, .faddr 2 (.t 3)⟩,
  ⟨(some 12), none, .load none (.t 11)⟩,
  ⟨(some 13), none, .len 1 (.t 12)⟩,
  ⟨(some 14), none, .mov (.c (.int .i64 0))⟩])
 (.block 0 (.loop [2, 3, 4, 12, 13, 14] [] (.seq (.reg [⟨(some 15), none, .bin .lss (.t 14) (.t 13)⟩])
 (.seq (.cond (.t 15) .skip
 (.exit 0))
 (.seq (.block 1 (.seq (.reg [⟨(some 16), none, .iaddr 2 (.t 12) (.t 14)⟩,
  ⟨(some 17), none, .load (some 2) (.t 16)⟩,
  ⟨(some 6), none, .alloc [(.str []), (.sl .clip [])] false⟩,
  ⟨none, none, .store 2 (.t 6) (.t 17)⟩])
 (.seq (.reg [⟨(some 18), none, .faddr 1 (.t 6)⟩,
  ⟨(some 19), none, .load none (.t 18)⟩,
  ⟨(some 20), none, .len 1 (.t 19)⟩,
  ⟨(some 21), none, .mov (.c (.int .i64 0))⟩])
 (.block 2 (.loop [2, 3, 4, 12, 13, 14, 19, 20, 21] [] (.seq (.reg [⟨(some 22), none, .bin .lss (.t 21) (.t 20)⟩])
 (.seq (.cond (.t 22) .skip
 (.exit 2))
 (.seq (.block 3 (.seq (.reg [⟨(some 23), none, .iaddr 3 (.t 19) (.t 21)⟩,
  ⟨(some 24), none, .load (some 3) (.t 23)⟩,
  ⟨(some 8), none, .alloc [(.int .i64 0), (.str []), (.sl .clip [])] false⟩,
  ⟨none, none, .store 3 (.t 8) (.t 24)⟩])
 (.seq (.reg [⟨(some 25), none, .load (some 3) (.t 8)⟩,
  ⟨(some 26), none, .call 0 [] (.c (.fn 48 [])) [(.t 25)]⟩])
 (.block 4 (.rfunc (.t 26) 1664 [3, 4, 2] [70])))))
 (.reg [⟨(some 46), none, .bin .add (.t 21) (.c (.int .i64 1))⟩,
  ⟨(some 21), none, .mov (.t 46)⟩])))))))))
 (.reg [⟨(some 47), none, .bin .add (.t 14) (.c (.int .i64 1))⟩,
  ⟨(some 14), none, .mov (.t 47)⟩])))))))
 (.seq (.reg [⟨none, none, .store 1 (.t 4) (.c .nili)⟩])
 .ret))),
  [.cell 4 none], false, false, 48⟩
theorem co26 : compF Tryd.prog ⟨[2, 3, 4], [(2, [2, 3, 4, 12, 13, 14], []), (5, [2, 3, 4, 12, 13, 14, 19, 20, 21], [])], [], [], [], [], 26, [(0, [3, 4, 2])], [70]⟩ false false Tryd.f26 = some ac26 := by kernel_rfl

/-- slices.Clone[[]string,string] -/
def ac46 : AF := ⟨(.seq (.reg [⟨(some 2), none, .mov (.c (.sl .clip []))⟩])
 (.seq (.seq (.reg [⟨(some 3), none, .mov (.t 0)⟩,
  ⟨(some 4), none, .nilsl false (.t 3)⟩])
 (.cond (.t 4) (.seq (.reg [⟨(some 2), none, .mov (.c (.sl .clip []))⟩])
 .ret)
 .skip))
 (.seq (.reg [⟨(some 5), none, .bslice [(.str [])] 0 []⟩,
  ⟨(some 6), none, .mov (.t 0)⟩,
  ⟨(some 7), none, .append 1 (.t 5) (.t 6)⟩,
  ⟨(some 2), none, .mov (.t 7)⟩])
 .ret))),
  [.t 2], false, true, 8⟩
theorem co46 : compF Tryd.prog ⟨[], [], [], [], [], [], 46, [], []⟩ false true Tryd.f46 = some ac46 := by kernel_rfl

/-- paideia/types.Clone -/
def ac47 : AF := ⟨(.seq (.reg [⟨(some 1), none, .box (.t 0) 3 false⟩,
  ⟨(some 2), none, .alloc [(.int .i64 0), (.str []), (.sl .clip [])] false⟩])
 (.seq (.reg [⟨(some 6), none, .faddr 0 (.t 1)⟩,
  ⟨(some 7), none, .load none (.t 6)⟩,
  ⟨(some 8), none, .faddr 1 (.t 1)⟩,
  ⟨(some 9), none, .load none (.t 8)⟩,
  ⟨(some 10), none, .build [(.int .i64 0), (.str []), (.sl .clip [])] [(0, 1, (.t 7)), (1, 1, (.t 9))]⟩,
  ⟨(some 3), none, .alloc [(.int .i64 0), (.str []), (.sl .clip [])] false⟩,
  ⟨none, none, .store 3 (.t 3) (.t 10)⟩])
 (.seq (.seq (.reg [⟨(some 11), none, .faddr 2 (.t 1)⟩,
  ⟨(some 12), none, .load none (.t 11)⟩,
  ⟨(some 13), none, .len 1 (.t 12)⟩,
  ⟨(some 14), none, .mov (.c (.int .i64 0))⟩])
 (.block 0 (.loop [12, 13, 14] [2, 3] (.seq (.reg [⟨(some 15), none, .bin .lss (.t 14) (.t 13)⟩])
 (.seq (.cond (.t 15) .skip
 (.exit 0))
 (.seq (.block 1 (.seq (.reg [⟨(some 16), none, .iaddr 3 (.t 12) (.t 14)⟩,
  ⟨(some 17), none, .load (some 3) (.t 16)⟩,
  ⟨(some 5), none, .alloc [(.int .i64 0), (.str []), (.sl .clip [])] false⟩,
  ⟨none, none, .store 3 (.t 5) (.t 17)⟩])
 (.reg [⟨(some 18), none, .faddr 2 (.t 3)⟩,
  ⟨(some 19), none, .loadL none (.t 18)⟩,
  ⟨(some 20), none, .load (some 3) (.t 5)⟩,
  ⟨(some 21), none, .call 0 [] (.c (.fn 47 [])) [(.t 20)]⟩,
  ⟨(some 22), none, .bslice [(.int .i64 0), (.str []), (.sl .clip [])] 1 [(0, (.t 21))]⟩,
  ⟨(some 23), none, .append 3 (.t 19) (.t 22)⟩,
  ⟨(some 24), none, .faddr 2 (.t 3)⟩,
  ⟨none, none, .store 1 (.t 24) (.t 23)⟩])))
 (.reg [⟨(some 25), none, .bin .add (.t 14) (.c (.int .i64 1))⟩,
  ⟨(some 14), none, .mov (.t 25)⟩])))))))
 (.seq (.reg [⟨(some 26), none, .load (some 3) (.t 3)⟩,
  ⟨none, none, .store 3 (.t 2) (.t 26)⟩])
 .ret)))),
  [.cell 2 (some 3)], false, true, 27⟩
theorem co47 : compF Tryd.prog ⟨[], [(3, [12, 13, 14], [2, 3])], [], [], [], [], 47, [], []⟩ false true Tryd.f47 = some ac47 := by kernel_rfl

/-- paideia/types.All -/
def ac48 : AF := ⟨(.seq (.reg [⟨(some 1), none, .box (.t 0) 3 true⟩,
  ⟨(some 2), none, .mov (.c .nilfn)⟩])
 (.seq (.reg [⟨(some 3), none, .mkfn 70 [(.t 1)]⟩,
  ⟨(some 2), none, .mov (.t 3)⟩])
 .ret)),
  [.t 2], false, false, 4⟩
theorem co48 : compF Tryd.prog ⟨[1], [], [], [], [], [], 48, [], []⟩ false false Tryd.f48 = some ac48 := by kernel_rfl

/-- slices.Contains[[]string,string] -/
def ac49 : AF := ⟨(.seq (.reg [⟨(some 4), none, .mov (.c (.bool false))⟩])
 (.seq (.reg [⟨(some 5), none, .mov (.t 0)⟩,
  ⟨(some 6), none, .mov (.t 1)⟩,
  ⟨(some 7), none, .call 0 [] (.c (.fn 72 [])) [(.t 5), (.t 6)]⟩,
  ⟨(some 8), none, .bin .geq (.t 7) (.c (.int .i64 0))⟩,
  ⟨(some 4), none, .mov (.t 8)⟩])
 .ret)),
  [.t 4], false, true, 9⟩
theorem co49 : compF Tryd.prog ⟨[], [], [], [], [], [], 49, [], []⟩ false true Tryd.f49 = some ac49 := by kernel_rfl

/-- (*paideia/cons.Env).part -/
def ac50 : AF := ⟨(.seq (.reg [⟨(some 3), none, .box (.t 1) 3 false⟩,
  ⟨(some 4), none, .mov (.c .nili)⟩])
 (.seq (.seq (.reg [⟨(some 7), none, .faddr 0 (.t 3)⟩,
  ⟨(some 8), none, .load none (.t 7)⟩,
  ⟨(some 9), none, .bin .neq (.t 8) (.c (.int .i64 2))⟩])
 (.cond (.t 9) (.seq (.reg [⟨(some 4), none, .mov (.c .nili)⟩])
 .ret)
 .skip))
 (.seq (.reg [⟨(some 11), none, .mov (.t 0)⟩,
  ⟨(some 12), none, .faddr 1 (.t 3)⟩,
  ⟨(some 13), none, .load none (.t 12)⟩,
  ⟨(some 14), none, .call 0 [] (.c (.fn 9 [])) [(.t 11), (.t 13)]⟩,
  ⟨(some 10), none, .mov (.t 14)⟩,
  ⟨(some 15), none, .extract (.t 10) 0⟩,
  ⟨(some 16), none, .extract (.t 10) 1⟩,
  ⟨(some 5), none, .mov (.t 15)⟩,
  ⟨(some 6), none, .mov (.t 16)⟩])
 (.seq (.block 0 (.seq (.reg [⟨(some 18), none, .mov (.t 6)⟩,
  ⟨(some 19), none, .not (.t 18)⟩,
  ⟨(some 17), none, .mov (.t 19)⟩])
 (.cond (.t 17) (.seq (.reg [⟨(some 20), none, .gload 1⟩,
  ⟨(some 4), none, .mov (.t 20)⟩])
 .ret)
 (.seq (.reg [⟨(some 22), none, .mov (.t 5)⟩,
  ⟨(some 23), none, .faddr 2 (.t 3)⟩,
  ⟨(some 24), none, .load none (.t 23)⟩,
  ⟨(some 25), none, .len 1 (.t 24)⟩,
  ⟨(some 26), none, .bin .neq (.t 22) (.t 25)⟩,
  ⟨(some 21), none, .mov (.t 26)⟩])
 (.cond (.t 21) (.seq (.reg [⟨(some 27), none, .gload 2⟩,
  ⟨(some 4), none, .mov (.t 27)⟩])
 .ret)
 .skip)))))
 (.seq (.reg [⟨(some 4), none, .mov (.c .nili)⟩])
 .ret))))),
  [.t 4], false, true, 28⟩
theorem co50 : compF Tryd.prog ⟨[], [], [], [1, 2], [], [], 50, [], []⟩ false true Tryd.f50 = some ac50 := by kernel_rfl

/-- paideia/types.All$1 -/
def ac70 : AF := ⟨(.reg [⟨(some 3), none, .load (some 3) (.t 1)⟩,
  ⟨(some 4), none, .mov (.t 0)⟩,
  ⟨(some 5), none, .call 0 [] (.c (.fn 71 [])) [(.t 3), (.t 4)]⟩]),
  [], false, false, 6⟩
theorem co70 : compF Tryd.prog ⟨[], [], [], [], [], [], 70, [], []⟩ false false Tryd.f70 = some ac70 := by kernel_rfl

/-- paideia/types.walk -/
def ac71 : AF := ⟨(.seq (.reg [⟨(some 2), none, .box (.t 0) 3 false⟩,
  ⟨(some 4), none, .mov (.c (.bool false))⟩])
 (.seq (.seq (.reg [⟨(some 7), none, .mov (.t 1)⟩,
  ⟨(some 8), none, .load (some 3) (.t 2)⟩,
  ⟨(some 9), none, .call 0 [] (.c (.fn 47 [])) [(.t 8)]⟩,
  ⟨(some 10), none, .call 0 [] (.t 7) [(.t 9)]⟩,
  ⟨(some 11), none, .not (.t 10)⟩])
 (.cond (.t 11) (.seq (.reg [⟨(some 4), none, .mov (.c (.bool false))⟩])
 .ret)
 .skip))
 (.seq (.seq (.reg [⟨(some 12), none, .faddr 2 (.t 2)⟩,
  ⟨(some 13), none, .load none (.t 12)⟩,
  ⟨(some 14), none, .len 1 (.t 13)⟩,
  ⟨(some 15), none, .mov (.c (.int .i64 0))⟩])
 (.block 0 (.loop [1, 13, 14, 15] [] (.seq (.reg [⟨(some 16), none, .bin .lss (.t 15) (.t 14)⟩])
 (.seq (.cond (.t 16) .skip
 (.exit 0))
 (.seq (.block 1 (.seq (.reg [⟨(some 17), none, .iaddr 3 (.t 13) (.t 15)⟩,
  ⟨(some 18), none, .load (some 3) (.t 17)⟩,
  ⟨(some 6), none, .alloc [(.int .i64 0), (.str []), (.sl .clip [])] false⟩,
  ⟨none, none, .store 3 (.t 6) (.t 18)⟩])
 (.seq (.reg [⟨(some 19), none, .load (some 3) (.t 6)⟩,
  ⟨(some 20), none, .mov (.t 1)⟩,
  ⟨(some 21), none, .call 0 [] (.c (.fn 71 [])) [(.t 19), (.t 20)]⟩,
  ⟨(some 22), none, .not (.t 21)⟩])
 (.cond (.t 22) (.seq (.reg [⟨(some 4), none, .mov (.c (.bool false))⟩])
 .ret)
 .skip))))
 (.reg [⟨(some 23), none, .bin .add (.t 15) (.c (.int .i64 1))⟩,
  ⟨(some 15), none, .mov (.t 23)⟩])))))))
 (.seq (.reg [⟨(some 4), none, .mov (.c (.bool true))⟩])
 .ret)))),
  [.t 4], false, false, 24⟩
theorem co71 : compF Tryd.prog ⟨[], [(4, [1, 13, 14, 15], [])], [], [], [], [], 71, [], []⟩ false false Tryd.f71 = some ac71 := by kernel_rfl

/-- slices.Index[[]string,string] -/
def ac72 : AF := ⟨(.seq (.reg [⟨(some 4), none, .mov (.c (.int .i64 0))⟩])
 (.seq (.seq (.reg [⟨(some 6), none, .mov (.t 0)⟩,
  ⟨(some 7), none, .len 1 (.t 6)⟩,
  ⟨(some 8), none, .mov (.c (.int .i64 0))⟩])
 (.block 0 (.loop [0, 1, 7, 8] [] (.seq (.reg [⟨(some 9), none, .bin .lss (.t 8) (.t 7)⟩])
 (.seq (.cond (.t 9) .skip
 (.exit 0))
 (.seq (.block 1 (.seq (.reg [⟨(some 10), none, .mov (.t 8)⟩,
  ⟨(some 5), none, .mov (.t 10)⟩])
 (.seq (.reg [⟨(some 11), none, .mov (.t 1)⟩,
  ⟨(some 12), none, .mov (.t 0)⟩,
  ⟨(some 13), none, .mov (.t 5)⟩,
  ⟨(some 14), none, .iaddr 1 (.t 12) (.t 13)⟩,
  ⟨(some 15), none, .load none (.t 14)⟩,
  ⟨(some 16), none, .bin .eql (.t 11) (.t 15)⟩])
 (.cond (.t 16) (.seq (.reg [⟨(some 17), none, .mov (.t 5)⟩,
  ⟨(some 4), none, .mov (.t 17)⟩])
 .ret)
 .skip))))
 (.reg [⟨(some 18), none, .bin .add (.t 8) (.c (.int .i64 1))⟩,
  ⟨(some 8), none, .mov (.t 18)⟩])))))))
 (.seq (.reg [⟨(some 4), none, .mov (.c (.int .i64 (-1)))⟩])
 .ret))),
  [.t 4], false, true, 19⟩
theorem co72 : compF Tryd.prog ⟨[], [(2, [0, 1, 7, 8], [])], [], [], [], [], 72, [], []⟩ false true Tryd.f72 = some ac72 := by kernel_rfl



def ap0 : AP := fun f vr => match f, vr with
  | 3, 0 => some (.code ac3)
  | 6, 0 => some (.code ac6)
  | 7, 0 => some (.code ac7)
  | 8, 0 => some (.code ac8)
  | 9, 0 => some (.code ac9)
  | 22, 0 => some (.code ac22)
  | 23, 0 => some (.code ac23)
  | 24, 0 => some (.code ac24)
  | 25, 0 => some (.code ac25)
  | 26, 0 => some (.code ac26)
  | 46, 0 => some (.code ac46)
  | 47, 0 => some (.code ac47)
  | 48, 0 => some (.code ac48)
  | 49, 0 => some (.code ac49)
  | 50, 0 => some (.code ac50)
  | 70, 0 => some (.code ac70)
  | 71, 0 => some (.code ac71)
  | 72, 0 => some (.code ac72)
  | 1664, 77 => some (.body ab26_0)
  | _, _ => none

theorem table0 : TableOk Tryd.prog ap0 [0,1,2] := by
  intro f vr fd h
  unfold ap0 at h
  split at h
  · cases h; exact ⟨_, _, Tryd.func3, co3, by decide, rfl⟩
  · cases h; exact ⟨_, _, Tryd.func6, co6, by decide, rfl⟩
  · cases h; exact ⟨_, _, Tryd.func7, co7, by decide, rfl⟩
  · cases h; exact ⟨_, _, Tryd.func8, co8, by decide, rfl⟩
  · cases h; exact ⟨_, _, Tryd.func9, co9, by decide, rfl⟩
  · cases h; exact ⟨_, _, Tryd.func22, co22, by decide, rfl⟩
  · cases h; exact ⟨_, _, Tryd.func23, co23, by decide, rfl⟩
  · cases h; exact ⟨_, _, Tryd.func24, co24, by decide, rfl⟩
  · cases h; exact ⟨_, _, Tryd.func25, co25, by decide, rfl⟩
  · cases h; exact ⟨_, _, Tryd.func26, co26, by decide, rfl⟩
  · cases h; exact ⟨_, _, Tryd.func46, co46, by decide, rfl⟩
  · cases h; exact ⟨_, _, Tryd.func47, co47, by decide, rfl⟩
  · cases h; exact ⟨_, _, Tryd.func48, co48, by decide, rfl⟩
  · cases h; exact ⟨_, _, Tryd.func49, co49, by decide, rfl⟩
  · cases h; exact ⟨_, _, Tryd.func50, co50, by decide, rfl⟩
  · cases h; exact ⟨_, _, Tryd.func70, co70, by decide, rfl⟩
  · cases h; exact ⟨_, _, Tryd.func71, co71, by decide, rfl⟩
  · cases h; exact ⟨_, _, Tryd.func72, co72, by decide, rfl⟩
  · cases h; exact tab_body (key := 1664) Tryd.func26 cb26_0 (by decide)
  · cases h

def ap : AP := ap0
theorem tableOk : TableOk Tryd.prog ap [0,1,2] := table0

end Go.Wt
