/- The seat's functions on the abstract machine. -/
import Derived.Test.YthebkhieedogdaaDoorAmX
import Derived.Test.YthebkhieedogdaaDoorAmZ
import Derived.Test.YthebkhieedogdaaDoorAmL
import Derived.Test.YthebkhieedogdaaDoorAmQ
import Derived.Test.YthebkhieedogdaaDoorAmU
import Derived.Test.YthebkhieedogdaaDoorAmI
import Derived.Test.YthebkhieedogdaaDoorAmF
import Derived.Test.YthebkhieedogdaaDoorFtShelf
import Derived.Test.YthebkhieedogdaaDoorProg
namespace Go.Ft
open Go.Am Go.Proofs

set_option maxRecDepth 100000
def cut4 : Nat := 9
def mid4 : AC := (.reg [⟨(some 68), none, .mov (.t 0)⟩,
  ⟨(some 69), none, .mov (.t 8)⟩,
  ⟨(some 70), none, .len 1 (.t 69)⟩,
  ⟨(some 71), none, .bin .rem (.t 68) (.t 70)⟩,
  ⟨(some 72), none, .mov (.t 8)⟩,
  ⟨(some 73), none, .len 1 (.t 72)⟩,
  ⟨(some 74), none, .bin .add (.t 71) (.t 73)⟩,
  ⟨(some 75), none, .mov (.t 8)⟩,
  ⟨(some 76), none, .len 1 (.t 75)⟩,
  ⟨(some 77), none, .bin .rem (.t 74) (.t 76)⟩,
  ⟨(some 10), none, .mov (.t 77)⟩])
def rest4 : AC := (.seq (.reg [⟨(some 78), none, .mov (.t 3)⟩,
  ⟨(some 79), none, .mov (.t 78)⟩,
  ⟨(some 80), (some (79, true)), .mov (.t 8)⟩,
  ⟨(some 81), (some (79, true)), .mov (.t 10)⟩,
  ⟨(some 82), (some (79, true)), .iaddr 9 (.t 80) (.t 81)⟩,
  ⟨(some 83), (some (79, true)), .load (some 9) (.t 82)⟩,
  ⟨(some 84), (some (79, true)), .call 0 [] (.c (.fn 11 [])) [(.t 83)]⟩,
  ⟨(some 85), (some (79, true)), .mov (.t 9)⟩,
  ⟨(some 86), (some (79, true)), .mov (.t 10)⟩,
  ⟨(some 87), (some (79, true)), .iaddr 1 (.t 85) (.t 86)⟩,
  ⟨(some 88), (some (79, true)), .loadL none (.t 87)⟩,
  ⟨(some 89), (some (79, true)), .eqb false (.t 84) (.t 88)⟩,
  ⟨(some 90), none, .pick (.t 79) (.t 89) (.c (.bool false))⟩,
  ⟨(some 91), none, .mov (.t 90)⟩,
  ⟨(some 92), (some (91, true)), .mov (.t 8)⟩,
  ⟨(some 93), (some (91, true)), .mov (.t 10)⟩,
  ⟨(some 94), (some (91, true)), .iaddr 9 (.t 92) (.t 93)⟩,
  ⟨(some 95), (some (91, true)), .load (some 9) (.t 94)⟩,
  ⟨(some 96), (some (91, true)), .call 0 [] (.c (.fn 12 [])) [(.t 95)]⟩,
  ⟨(some 97), (some (91, true)), .call 0 [] (.c (.fn 11 [])) [(.t 96)]⟩,
  ⟨(some 98), none, .pick (.t 91) (.t 97) (.c (.bool false))⟩,
  ⟨(some 2), none, .mov (.t 98)⟩])
 .ret)
/-- paideia/paideialaw24.NormFlat -/
def ac4 : AF := ⟨(.seq (.reg [⟨(some 2), none, .mov (.c (.bool false))⟩])
 (.seq (.reg [⟨(some 11), none, .call 0 [] (.c (.fn 10 [])) []⟩,
  ⟨(some 3), none, .mov (.t 11)⟩])
 (.seq (.seq (.reg [⟨(some 12), none, .mov (.t 3)⟩,
  ⟨(some 13), none, .not (.t 12)⟩])
 (.cond (.t 13) (.seq (.reg [⟨(some 2), none, .mov (.c (.bool false))⟩])
 .ret)
 .skip))
 (.seq (.reg [⟨(some 14), none, .build [(.int .i64 0), (.str []), (.int .i64 0), (.int .i64 0), (.str []), (.sl .clip []), (.sl .clip []), (.sl .clip []), (.sl .clip [])] [(0, 1, (.c (.int .i64 1))), (1, 1, (.c (.str [120])))]⟩,
  ⟨(some 4), none, .alloc [(.int .i64 0), (.str []), (.int .i64 0), (.int .i64 0), (.str []), (.sl .clip []), (.sl .clip []), (.sl .clip []), (.sl .clip [])] false⟩,
  ⟨none, none, .store 9 (.t 4) (.t 14)⟩])
 (.seq (.reg [⟨(some 15), none, .build [(.int .i64 0), (.str []), (.int .i64 0), (.int .i64 0), (.str []), (.sl .clip []), (.sl .clip []), (.sl .clip []), (.sl .clip [])] [(0, 1, (.c (.int .i64 3))), (2, 1, (.c (.int .i64 1)))]⟩,
  ⟨(some 5), none, .alloc [(.int .i64 0), (.str []), (.int .i64 0), (.int .i64 0), (.str []), (.sl .clip []), (.sl .clip []), (.sl .clip []), (.sl .clip [])] false⟩,
  ⟨none, none, .store 9 (.t 5) (.t 15)⟩])
 (.seq (.reg [⟨(some 16), none, .build [(.int .i64 0), (.str []), (.sl .clip [])] [(0, 1, (.c (.int .i64 2))), (1, 1, (.c (.str [73, 110, 116])))]⟩,
  ⟨(some 6), none, .alloc [(.int .i64 0), (.str []), (.sl .clip [])] false⟩,
  ⟨none, none, .store 3 (.t 6) (.t 16)⟩])
 (.seq (.reg [⟨(some 17), none, .load (some 9) (.t 4)⟩,
  ⟨(some 18), none, .bslice [(.int .i64 0), (.str []), (.int .i64 0), (.int .i64 0), (.str []), (.sl .clip []), (.sl .clip []), (.sl .clip []), (.sl .clip [])] 1 [(0, (.t 17))]⟩,
  ⟨(some 19), none, .build [(.int .i64 0), (.str []), (.int .i64 0), (.int .i64 0), (.str []), (.sl .clip []), (.sl .clip []), (.sl .clip []), (.sl .clip [])] [(0, 1, (.c (.int .i64 6))), (1, 1, (.c (.str [120]))), (6, 1, (.t 18))]⟩,
  ⟨(some 7), none, .alloc [(.int .i64 0), (.str []), (.int .i64 0), (.int .i64 0), (.str []), (.sl .clip []), (.sl .clip []), (.sl .clip []), (.sl .clip [])] false⟩,
  ⟨none, none, .store 9 (.t 7) (.t 19)⟩])
 (.seq (.reg [⟨(some 20), none, .load (some 9) (.t 7)⟩,
  ⟨(some 21), none, .load (some 9) (.t 5)⟩,
  ⟨(some 22), none, .bslice [(.int .i64 0), (.str []), (.int .i64 0), (.int .i64 0), (.str []), (.sl .clip []), (.sl .clip []), (.sl .clip []), (.sl .clip [])] 2 [(0, (.t 20)), (1, (.t 21))]⟩,
  ⟨(some 23), none, .build [(.int .i64 0), (.str []), (.int .i64 0), (.int .i64 0), (.str []), (.sl .clip []), (.sl .clip []), (.sl .clip []), (.sl .clip [])] [(0, 1, (.c (.int .i64 5))), (6, 1, (.t 22))]⟩,
  ⟨(some 24), none, .load (some 9) (.t 7)⟩,
  ⟨(some 25), none, .load (some 9) (.t 7)⟩,
  ⟨(some 26), none, .bslice [(.int .i64 0), (.str []), (.int .i64 0), (.int .i64 0), (.str []), (.sl .clip []), (.sl .clip []), (.sl .clip []), (.sl .clip [])] 2 [(0, (.t 24)), (1, (.t 25))]⟩,
  ⟨(some 27), none, .build [(.int .i64 0), (.str []), (.int .i64 0), (.int .i64 0), (.str []), (.sl .clip []), (.sl .clip []), (.sl .clip []), (.sl .clip [])] [(0, 1, (.c (.int .i64 5))), (6, 1, (.t 26))]⟩,
  ⟨(some 28), none, .load (some 9) (.t 7)⟩,
  ⟨(some 29), none, .bslice [(.int .i64 0), (.str []), (.int .i64 0), (.int .i64 0), (.str []), (.sl .clip []), (.sl .clip []), (.sl .clip []), (.sl .clip [])] 1 [(0, (.t 28))]⟩,
  ⟨(some 30), none, .build [(.int .i64 0), (.str []), (.int .i64 0), (.int .i64 0), (.str []), (.sl .clip []), (.sl .clip []), (.sl .clip []), (.sl .clip [])] [(0, 1, (.c (.int .i64 6))), (1, 1, (.c (.str [120]))), (6, 1, (.t 29))]⟩,
  ⟨(some 31), none, .load (some 9) (.t 7)⟩,
  ⟨(some 32), none, .load (some 9) (.t 4)⟩,
  ⟨(some 33), none, .bslice [(.int .i64 0), (.str []), (.int .i64 0), (.int .i64 0), (.str []), (.sl .clip []), (.sl .clip []), (.sl .clip []), (.sl .clip [])] 2 [(0, (.t 31)), (1, (.t 32))]⟩,
  ⟨(some 34), none, .build [(.int .i64 0), (.str []), (.int .i64 0), (.int .i64 0), (.str []), (.sl .clip []), (.sl .clip []), (.sl .clip []), (.sl .clip [])] [(0, 1, (.c (.int .i64 5))), (6, 1, (.t 33))]⟩,
  ⟨(some 35), none, .load (some 3) (.t 6)⟩,
  ⟨(some 36), none, .load (some 9) (.t 4)⟩,
  ⟨(some 37), none, .bslice [(.int .i64 0), (.str []), (.int .i64 0), (.int .i64 0), (.str []), (.sl .clip []), (.sl .clip []), (.sl .clip []), (.sl .clip [])] 1 [(0, (.t 36))]⟩,
  ⟨(some 38), none, .build [(.int .i64 0), (.str []), (.int .i64 0), (.int .i64 0), (.str []), (.sl .clip []), (.sl .clip []), (.sl .clip []), (.sl .clip [])] [(0, 1, (.c (.int .i64 6))), (1, 1, (.c (.str [120]))), (3, 3, (.t 35)), (6, 1, (.t 37))]⟩,
  ⟨(some 39), none, .load (some 3) (.t 6)⟩,
  ⟨(some 40), none, .load (some 9) (.t 4)⟩,
  ⟨(some 41), none, .bslice [(.int .i64 0), (.str []), (.int .i64 0), (.int .i64 0), (.str []), (.sl .clip []), (.sl .clip []), (.sl .clip []), (.sl .clip [])] 1 [(0, (.t 40))]⟩,
  ⟨(some 42), none, .build [(.int .i64 0), (.str []), (.int .i64 0), (.int .i64 0), (.str []), (.sl .clip []), (.sl .clip []), (.sl .clip []), (.sl .clip [])] [(0, 1, (.c (.int .i64 7))), (3, 3, (.t 39)), (6, 1, (.t 41))]⟩,
  ⟨(some 43), none, .load (some 9) (.t 5)⟩,
  ⟨(some 44), none, .build [(.str []), (.int .i64 0), (.str []), (.sl .clip []), (.int .i64 0), (.str []), (.int .i64 0), (.int .i64 0), (.str []), (.sl .clip []), (.sl .clip []), (.sl .clip []), (.sl .clip [])] [(0, 1, (.c (.str [121]))), (4, 9, (.t 43))]⟩,
  ⟨(some 45), none, .bslice [(.str []), (.int .i64 0), (.str []), (.sl .clip []), (.int .i64 0), (.str []), (.int .i64 0), (.int .i64 0), (.str []), (.sl .clip []), (.sl .clip []), (.sl .clip []), (.sl .clip [])] 1 [(0, (.t 44))]⟩,
  ⟨(some 46), none, .load (some 9) (.t 7)⟩,
  ⟨(some 47), none, .build [(.int .i64 0), (.str []), (.int .i64 0), (.int .i64 0), (.str []), (.sl .clip []), (.sl .clip []), (.sl .clip []), (.sl .clip [])] [(0, 1, (.c (.int .i64 1))), (1, 1, (.c (.str [121])))]⟩,
  ⟨(some 48), none, .bslice [(.int .i64 0), (.str []), (.int .i64 0), (.int .i64 0), (.str []), (.sl .clip []), (.sl .clip []), (.sl .clip []), (.sl .clip [])] 2 [(0, (.t 46)), (1, (.t 47))]⟩,
  ⟨(some 49), none, .build [(.int .i64 0), (.str []), (.int .i64 0), (.int .i64 0), (.str []), (.sl .clip []), (.sl .clip []), (.sl .clip []), (.sl .clip [])] [(0, 1, (.c (.int .i64 5))), (6, 1, (.t 48))]⟩,
  ⟨(some 50), none, .bslice [(.int .i64 0), (.str []), (.int .i64 0), (.int .i64 0), (.str []), (.sl .clip []), (.sl .clip []), (.sl .clip []), (.sl .clip [])] 1 [(0, (.t 49))]⟩,
  ⟨(some 51), none, .build [(.int .i64 0), (.str []), (.int .i64 0), (.int .i64 0), (.str []), (.sl .clip []), (.sl .clip []), (.sl .clip []), (.sl .clip [])] [(0, 1, (.c (.int .i64 9))), (8, 1, (.t 45)), (6, 1, (.t 50))]⟩,
  ⟨(some 52), none, .load (some 9) (.t 5)⟩,
  ⟨(some 53), none, .bslice [(.int .i64 0), (.str []), (.int .i64 0), (.int .i64 0), (.str []), (.sl .clip []), (.sl .clip []), (.sl .clip []), (.sl .clip [])] 1 [(0, (.t 52))]⟩,
  ⟨(some 54), none, .bslice [(.str [])] 2 [(0, (.c (.str [95]))), (1, (.c (.str [95])))]⟩,
  ⟨(some 55), none, .load (some 9) (.t 5)⟩,
  ⟨(some 56), none, .build [(.str []), (.sl .clip []), (.int .i64 0), (.str []), (.int .i64 0), (.int .i64 0), (.str []), (.sl .clip []), (.sl .clip []), (.sl .clip []), (.sl .clip [])] [(0, 1, (.c (.str [65]))), (1, 1, (.t 54)), (2, 9, (.t 55))]⟩,
  ⟨(some 57), none, .bslice [(.str []), (.sl .clip []), (.int .i64 0), (.str []), (.int .i64 0), (.int .i64 0), (.str []), (.sl .clip []), (.sl .clip []), (.sl .clip []), (.sl .clip [])] 1 [(0, (.t 56))]⟩,
  ⟨(some 58), none, .build [(.int .i64 0), (.str []), (.int .i64 0), (.int .i64 0), (.str []), (.sl .clip []), (.sl .clip []), (.sl .clip []), (.sl .clip [])] [(0, 1, (.c (.int .i64 10))), (6, 1, (.t 53)), (7, 1, (.t 57))]⟩,
  ⟨(some 59), none, .load (some 9) (.t 5)⟩,
  ⟨(some 60), none, .bslice [(.int .i64 0), (.str []), (.int .i64 0), (.int .i64 0), (.str []), (.sl .clip []), (.sl .clip []), (.sl .clip []), (.sl .clip [])] 1 [(0, (.t 59))]⟩,
  ⟨(some 61), none, .bslice [(.str [])] 2 [(0, (.c (.str [112]))), (1, (.c (.str [112])))]⟩,
  ⟨(some 62), none, .load (some 9) (.t 5)⟩,
  ⟨(some 63), none, .build [(.str []), (.sl .clip []), (.int .i64 0), (.str []), (.int .i64 0), (.int .i64 0), (.str []), (.sl .clip []), (.sl .clip []), (.sl .clip []), (.sl .clip [])] [(0, 1, (.c (.str [65]))), (1, 1, (.t 61)), (2, 9, (.t 62))]⟩,
  ⟨(some 64), none, .bslice [(.str []), (.sl .clip []), (.int .i64 0), (.str []), (.int .i64 0), (.int .i64 0), (.str []), (.sl .clip []), (.sl .clip []), (.sl .clip []), (.sl .clip [])] 1 [(0, (.t 63))]⟩,
  ⟨(some 65), none, .build [(.int .i64 0), (.str []), (.int .i64 0), (.int .i64 0), (.str []), (.sl .clip []), (.sl .clip []), (.sl .clip []), (.sl .clip [])] [(0, 1, (.c (.int .i64 10))), (6, 1, (.t 60)), (7, 1, (.t 64))]⟩,
  ⟨(some 66), none, .bslice [(.int .i64 0), (.str []), (.int .i64 0), (.int .i64 0), (.str []), (.sl .clip []), (.sl .clip []), (.sl .clip []), (.sl .clip [])] 9 [(0, (.t 23)), (1, (.t 27)), (2, (.t 30)), (3, (.t 34)), (4, (.t 38)), (5, (.t 42)), (6, (.t 51)), (7, (.t 58)), (8, (.t 65))]⟩,
  ⟨(some 8), none, .mov (.t 66)⟩])
 (.seq (.reg [⟨(some 67), none, .bslice [(.bool false)] 9 [(0, (.c (.bool true))), (1, (.c (.bool false))), (2, (.c (.bool false))), (3, (.c (.bool false))), (4, (.c (.bool false))), (5, (.c (.bool false))), (6, (.c (.bool true))), (7, (.c (.bool true))), (8, (.c (.bool false)))]⟩,
  ⟨(some 9), none, .mov (.t 67)⟩])
 (.seq mid4 rest4)))))))))),
  [.t 2], false, true, 99⟩
theorem co4 : compF Tryd.prog ⟨[], [], [], [], [], [], 4, [], [], []⟩ false true Tryd.f4 = some ac4 := by kernel_rfl

/-- paideia/paideialaw24.first -/
def ac10 : AF := ⟨(.seq (.reg [⟨(some 0), none, .mov (.c (.bool false))⟩])
 (.seq (.reg [⟨(some 1), none, .build [(.int .i64 0), (.str []), (.int .i64 0), (.int .i64 0), (.str []), (.sl .clip []), (.sl .clip []), (.sl .clip []), (.sl .clip [])] [(0, 1, (.c (.int .i64 3)))]⟩,
  ⟨(some 2), none, .call 0 [] (.c (.fn 11 [])) [(.t 1)]⟩,
  ⟨(some 3), none, .mov (.t 2)⟩,
  ⟨(some 4), (some (3, true)), .build [(.int .i64 0), (.str []), (.int .i64 0), (.int .i64 0), (.str []), (.sl .clip []), (.sl .clip []), (.sl .clip []), (.sl .clip [])] [(0, 1, (.c (.int .i64 3)))]⟩,
  ⟨(some 5), (some (3, true)), .bslice [(.int .i64 0), (.str []), (.int .i64 0), (.int .i64 0), (.str []), (.sl .clip []), (.sl .clip []), (.sl .clip []), (.sl .clip [])] 1 [(0, (.t 4))]⟩,
  ⟨(some 6), (some (3, true)), .build [(.int .i64 0), (.str []), (.int .i64 0), (.int .i64 0), (.str []), (.sl .clip []), (.sl .clip []), (.sl .clip []), (.sl .clip [])] [(0, 1, (.c (.int .i64 8))), (6, 1, (.t 5))]⟩,
  ⟨(some 7), (some (3, true)), .call 0 [] (.c (.fn 11 [])) [(.t 6)]⟩,
  ⟨(some 8), (some (3, true)), .not (.t 7)⟩,
  ⟨(some 9), none, .pick (.t 3) (.t 8) (.c (.bool false))⟩,
  ⟨(some 0), none, .mov (.t 9)⟩])
 .ret)),
  [.t 0], false, true, 10⟩
theorem co10 : compF Tryd.prog ⟨[], [], [], [], [], [], 10, [], [], []⟩ false true Tryd.f10 = some ac10 := by kernel_rfl

/-- paideia/norm.Flat -/
def ac11 : AF := ⟨(.seq (.reg [⟨(some 1), none, .box (.t 0) 9 false⟩,
  ⟨(some 2), none, .mov (.c (.bool false))⟩])
 (.seq (.reg [⟨(some 4), none, .mkmap⟩,
  ⟨(some 5), none, .build [(.map none), (.bool false)] [(0, 1, (.t 4)), (1, 1, (.c (.bool true)))]⟩,
  ⟨(some 6), none, .box (.t 5) 2 true⟩,
  ⟨(some 3), none, .alloc [.nilp] true⟩,
  ⟨none, none, .store 1 (.t 3) (.t 6)⟩])
 (.seq (.reg [⟨(some 7), none, .load none (.t 3)⟩,
  ⟨(some 8), none, .load (some 9) (.t 1)⟩,
  ⟨(some 9), none, .call 0 [] (.c (.fn 27 [])) [(.t 7), (.t 8)]⟩])
 (.seq (.reg [⟨(some 10), none, .load none (.t 3)⟩,
  ⟨(some 11), none, .nilck (.t 10)⟩,
  ⟨(some 12), none, .faddr 1 (.t 11)⟩,
  ⟨(some 13), none, .load none (.t 12)⟩,
  ⟨(some 14), none, .mov (.t 13)⟩,
  ⟨(some 15), (some (14, true)), .load (some 9) (.t 1)⟩,
  ⟨(some 16), (some (14, true)), .call 0 [] (.c (.fn 29 [])) [(.t 15)]⟩,
  ⟨(some 17), (some (14, true)), .mkfn 30 [(.t 3)]⟩,
  ⟨(some 18), (some (14, true)), .call 0 [] (.c (.fn 28 [])) [(.t 16), (.t 17)]⟩,
  ⟨(some 19), (some (14, true)), .not (.t 18)⟩,
  ⟨(some 20), none, .pick (.t 14) (.t 19) (.c (.bool false))⟩,
  ⟨(some 2), none, .mov (.t 20)⟩])
 .ret)))),
  [.t 2], false, true, 21⟩
theorem co11 : compF Tryd.prog ⟨[6, 3], [], [], [], [], [], 11, [], [], []⟩ false true Tryd.f11 = some ac11 := by kernel_rfl

/-- paideia/norm.Norm -/
def ac12 : AF := ⟨(.seq (.reg [⟨(some 1), none, .box (.t 0) 9 false⟩,
  ⟨(some 2), none, .alloc [(.int .i64 0), (.str []), (.int .i64 0), (.int .i64 0), (.str []), (.sl .clip []), (.sl .clip []), (.sl .clip []), (.sl .clip [])] false⟩])
 (.seq (.reg [⟨(some 6), none, .load (some 9) (.t 1)⟩,
  ⟨(some 7), none, .call 0 [] (.c (.fn 31 [])) [(.t 6)]⟩,
  ⟨none, none, .store 9 (.t 1) (.t 7)⟩])
 (.seq (.reg [⟨(some 8), none, .mkmap⟩,
  ⟨(some 9), none, .mkmap⟩,
  ⟨(some 10), none, .build [(.map none), (.int .i64 0), (.map none)] [(0, 1, (.t 8)), (2, 1, (.t 9))]⟩,
  ⟨(some 11), none, .box (.t 10) 3 true⟩,
  ⟨(some 3), none, .mov (.t 11)⟩])
 (.seq (.seq (.reg [⟨(some 12), none, .load (some 9) (.t 1)⟩,
  ⟨(some 13), none, .call 0 [] (.c (.fn 29 [])) [(.t 12)]⟩,
  ⟨(some 14), none, .len 1 (.t 13)⟩,
  ⟨(some 15), none, .mov (.c (.int .i64 0))⟩])
 (.block 0 (.loop [3, 13, 14, 15] [1, 2] (.seq (.reg [⟨(some 16), none, .bin .lss (.t 15) (.t 14)⟩])
 (.seq (.cond (.t 16) .skip
 (.exit 0))
 (.seq (.block 1 (.seq (.reg [⟨(some 17), none, .iaddr 1 (.t 13) (.t 15)⟩,
  ⟨(some 18), none, .load none (.t 17)⟩,
  ⟨(some 5), none, .mov (.t 18)⟩])
 (.reg [⟨(some 19), none, .mov (.t 3)⟩,
  ⟨(some 20), none, .nilck (.t 19)⟩,
  ⟨(some 21), none, .faddr 0 (.t 20)⟩,
  ⟨(some 22), none, .load none (.t 21)⟩,
  ⟨(some 23), none, .mov (.t 5)⟩,
  ⟨none, none, .mapset .str (.t 22) (.t 23) (.c (.bool true))⟩])))
 (.reg [⟨(some 24), none, .bin .add (.t 15) (.c (.int .i64 1))⟩,
  ⟨(some 15), none, .mov (.t 24)⟩])))))))
 (.seq (.reg [⟨(some 25), none, .mov (.t 3)⟩,
  ⟨(some 26), none, .load (some 9) (.t 1)⟩,
  ⟨(some 27), none, .call 0 [] (.c (.fn 32 [])) [(.t 25), (.t 26)]⟩,
  ⟨none, none, .store 9 (.t 2) (.t 27)⟩])
 .ret))))),
  [.cell 2 (some 9)], false, true, 28⟩
theorem co12 : compF Tryd.prog ⟨[11], [(4, [3, 13, 14, 15], [1, 2])], [], [], [], [], 12, [], [], []⟩ false true Tryd.f12 = some ac12 := by kernel_rfl

/-- paideia/term.Var -/
def ac14 : AF := ⟨(.seq (.reg [⟨(some 2), none, .alloc [(.int .i64 0), (.str []), (.int .i64 0), (.int .i64 0), (.str []), (.sl .clip []), (.sl .clip []), (.sl .clip []), (.sl .clip [])] false⟩])
 (.seq (.reg [⟨(some 3), none, .mov (.t 0)⟩,
  ⟨(some 4), none, .build [(.int .i64 0), (.str []), (.int .i64 0), (.int .i64 0), (.str []), (.sl .clip []), (.sl .clip []), (.sl .clip []), (.sl .clip [])] [(0, 1, (.c (.int .i64 1))), (1, 1, (.t 3))]⟩,
  ⟨none, none, .store 9 (.t 2) (.t 4)⟩])
 .ret)),
  [.cell 2 (some 9)], false, true, 5⟩
theorem co14 : compF Tryd.prog ⟨[], [], [], [], [], [], 14, [], [], []⟩ false true Tryd.f14 = some ac14 := by kernel_rfl

/-- paideia/term.App -/
def ac18 : AF := ⟨(.seq (.reg [⟨(some 2), none, .box (.t 0) 9 false⟩,
  ⟨(some 4), none, .alloc [(.int .i64 0), (.str []), (.int .i64 0), (.int .i64 0), (.str []), (.sl .clip []), (.sl .clip []), (.sl .clip []), (.sl .clip [])] false⟩])
 (.seq (.seq (.reg [⟨(some 7), none, .mov (.t 1)⟩,
  ⟨(some 8), none, .len 1 (.t 7)⟩,
  ⟨(some 9), none, .mov (.c (.int .i64 0))⟩])
 (.block 0 (.loop [7, 8, 9] [2, 4] (.seq (.reg [⟨(some 10), none, .bin .lss (.t 9) (.t 8)⟩])
 (.seq (.cond (.t 10) .skip
 (.exit 0))
 (.seq (.block 1 (.seq (.reg [⟨(some 11), none, .iaddr 9 (.t 7) (.t 9)⟩,
  ⟨(some 12), none, .load (some 9) (.t 11)⟩,
  ⟨(some 6), none, .alloc [(.int .i64 0), (.str []), (.int .i64 0), (.int .i64 0), (.str []), (.sl .clip []), (.sl .clip []), (.sl .clip []), (.sl .clip [])] false⟩,
  ⟨none, none, .store 9 (.t 6) (.t 12)⟩])
 (.reg [⟨(some 13), none, .load (some 9) (.t 2)⟩,
  ⟨(some 14), none, .load (some 9) (.t 6)⟩,
  ⟨(some 15), none, .bslice [(.int .i64 0), (.str []), (.int .i64 0), (.int .i64 0), (.str []), (.sl .clip []), (.sl .clip []), (.sl .clip []), (.sl .clip [])] 2 [(0, (.t 13)), (1, (.t 14))]⟩,
  ⟨(some 16), none, .build [(.int .i64 0), (.str []), (.int .i64 0), (.int .i64 0), (.str []), (.sl .clip []), (.sl .clip []), (.sl .clip []), (.sl .clip [])] [(0, 1, (.c (.int .i64 5))), (6, 1, (.t 15))]⟩,
  ⟨none, none, .store 9 (.t 2) (.t 16)⟩])))
 (.reg [⟨(some 17), none, .bin .add (.t 9) (.c (.int .i64 1))⟩,
  ⟨(some 9), none, .mov (.t 17)⟩])))))))
 (.seq (.reg [⟨(some 18), none, .load (some 9) (.t 2)⟩,
  ⟨none, none, .store 9 (.t 4) (.t 18)⟩])
 .ret))),
  [.cell 4 (some 9)], false, true, 19⟩
theorem co18 : compF Tryd.prog ⟨[], [(2, [7, 8, 9], [2, 4])], [], [], [], [], 18, [], [], []⟩ false true Tryd.f18 = some ac18 := by kernel_rfl

/-- (*paideia/norm.flat).term -/
def ac27 : AF := ⟨(.seq (.reg [⟨(some 3), none, .box (.t 1) 9 false⟩])
 (.seq (.seq (.reg [⟨(some 14), none, .faddr 0 (.t 3)⟩,
  ⟨(some 15), none, .load none (.t 14)⟩,
  ⟨(some 16), none, .bin .eql (.t 15) (.c (.int .i64 7))⟩,
  ⟨(some 17), none, .mov (.t 16)⟩,
  ⟨(some 18), (some (17, false)), .faddr 0 (.t 3)⟩,
  ⟨(some 19), (some (17, false)), .load none (.t 18)⟩,
  ⟨(some 20), (some (17, false)), .bin .eql (.t 19) (.c (.int .i64 8))⟩,
  ⟨(some 21), none, .pick (.t 17) (.c (.bool true)) (.t 20)⟩,
  ⟨(some 22), none, .mov (.t 21)⟩,
  ⟨(some 23), (some (22, false)), .faddr 3 (.t 3)⟩,
  ⟨(some 24), (some (22, false)), .load (some 3) (.t 23)⟩,
  ⟨(some 25), (some (22, false)), .call 0 [] (.c (.fn 51 [])) [(.t 24)]⟩,
  ⟨(some 26), none, .pick (.t 22) (.c (.bool true)) (.t 25)⟩,
  ⟨(some 27), none, .mov (.t 26)⟩,
  ⟨(some 28), (some (27, false)), .faddr 0 (.t 3)⟩,
  ⟨(some 29), (some (27, false)), .load none (.t 28)⟩,
  ⟨(some 30), (some (27, false)), .bin .eql (.t 29) (.c (.int .i64 5))⟩,
  ⟨(some 31), (some (27, false)), .mov (.t 30)⟩,
  ⟨(some 32), (some (31, true)), .faddr 6 (.t 3)⟩,
  ⟨(some 33), (some (31, true)), .load none (.t 32)⟩,
  ⟨(some 34), (some (31, true)), .len 1 (.t 33)⟩,
  ⟨(some 35), (some (31, true)), .bin .neq (.t 34) (.c (.int .i64 2))⟩,
  ⟨(some 36), (some (31, true)), .mov (.t 35)⟩,
  ⟨(some 37), (some (36, false)), .faddr 6 (.t 3)⟩,
  ⟨(some 38), (some (36, false)), .load none (.t 37)⟩,
  ⟨(some 39), (some (36, false)), .iaddr 9 (.t 38) (.c (.int .i64 1))⟩,
  ⟨(some 40), (some (36, false)), .load (some 9) (.t 39)⟩,
  ⟨(some 41), (some (36, false)), .call 0 [] (.c (.fn 52 [])) [(.t 40)]⟩,
  ⟨(some 42), (some (36, false)), .not (.t 41)⟩,
  ⟨(some 43), (some (31, true)), .pick (.t 36) (.c (.bool true)) (.t 42)⟩,
  ⟨(some 44), (some (27, false)), .pick (.t 31) (.t 43) (.c (.bool false))⟩,
  ⟨(some 45), none, .pick (.t 27) (.c (.bool true)) (.t 44)⟩])
 (.cond (.t 45) (.reg [⟨(some 46), none, .mov (.t 0)⟩,
  ⟨(some 47), none, .nilck (.t 46)⟩,
  ⟨(some 48), none, .faddr 1 (.t 47)⟩,
  ⟨none, none, .store 1 (.t 48) (.c (.bool false))⟩])
 .skip))
 (.seq (.seq (.reg [⟨(some 49), none, .faddr 0 (.t 3)⟩,
  ⟨(some 50), none, .load none (.t 49)⟩,
  ⟨(some 51), none, .bin .eql (.t 50) (.c (.int .i64 6))⟩])
 (.cond (.t 51) (.reg [⟨(some 52), none, .mov (.t 0)⟩,
  ⟨(some 53), none, .faddr 1 (.t 3)⟩,
  ⟨(some 54), none, .load none (.t 53)⟩,
  ⟨(some 55), none, .call 0 [] (.c (.fn 53 [])) [(.t 52), (.t 54)]⟩])
 .skip))
 (.seq (.seq (.reg [⟨(some 56), none, .faddr 8 (.t 3)⟩,
  ⟨(some 57), none, .load none (.t 56)⟩,
  ⟨(some 58), none, .len 1 (.t 57)⟩,
  ⟨(some 59), none, .mov (.c (.int .i64 0))⟩])
 (.block 0 (.loop [0, 57, 58, 59] [3] (.seq (.reg [⟨(some 60), none, .bin .lss (.t 59) (.t 58)⟩])
 (.seq (.cond (.t 60) .skip
 (.exit 0))
 (.seq (.block 1 (.seq (.reg [⟨(some 61), none, .iaddr 13 (.t 57) (.t 59)⟩,
  ⟨(some 62), none, .load (some 13) (.t 61)⟩,
  ⟨(some 5), none, .alloc [(.str []), (.int .i64 0), (.str []), (.sl .clip []), (.int .i64 0), (.str []), (.int .i64 0), (.int .i64 0), (.str []), (.sl .clip []), (.sl .clip []), (.sl .clip []), (.sl .clip [])] false⟩,
  ⟨none, none, .store 13 (.t 5) (.t 62)⟩])
 (.seq (.reg [⟨(some 63), none, .mov (.t 0)⟩,
  ⟨(some 64), none, .faddr 0 (.t 5)⟩,
  ⟨(some 65), none, .load none (.t 64)⟩,
  ⟨(some 66), none, .call 0 [] (.c (.fn 53 [])) [(.t 63), (.t 65)]⟩])
 (.reg [⟨(some 67), none, .mov (.t 0)⟩,
  ⟨(some 68), none, .mov (.t 0)⟩,
  ⟨(some 69), none, .nilck (.t 68)⟩,
  ⟨(some 70), none, .faddr 1 (.t 69)⟩,
  ⟨(some 71), none, .load none (.t 70)⟩,
  ⟨(some 72), none, .mov (.t 71)⟩,
  ⟨(some 73), (some (72, true)), .faddr 1 (.t 5)⟩,
  ⟨(some 74), (some (72, true)), .load (some 3) (.t 73)⟩,
  ⟨(some 75), (some (72, true)), .call 0 [] (.c (.fn 51 [])) [(.t 74)]⟩,
  ⟨(some 76), (some (72, true)), .not (.t 75)⟩,
  ⟨(some 77), none, .pick (.t 72) (.t 76) (.c (.bool false))⟩,
  ⟨(some 78), none, .nilck (.t 67)⟩,
  ⟨(some 79), none, .faddr 1 (.t 78)⟩,
  ⟨none, none, .store 1 (.t 79) (.t 77)⟩]))))
 (.reg [⟨(some 80), none, .bin .add (.t 59) (.c (.int .i64 1))⟩,
  ⟨(some 59), none, .mov (.t 80)⟩])))))))
 (.seq (.seq (.reg [⟨(some 81), none, .faddr 8 (.t 3)⟩,
  ⟨(some 82), none, .load none (.t 81)⟩,
  ⟨(some 83), none, .len 1 (.t 82)⟩,
  ⟨(some 84), none, .mov (.c (.int .i64 0))⟩])
 (.block 2 (.loop [0, 82, 83, 84] [3] (.seq (.reg [⟨(some 85), none, .bin .lss (.t 84) (.t 83)⟩])
 (.seq (.cond (.t 85) .skip
 (.exit 2))
 (.seq (.block 3 (.seq (.reg [⟨(some 86), none, .iaddr 13 (.t 82) (.t 84)⟩,
  ⟨(some 87), none, .load (some 13) (.t 86)⟩,
  ⟨(some 7), none, .alloc [(.str []), (.int .i64 0), (.str []), (.sl .clip []), (.int .i64 0), (.str []), (.int .i64 0), (.int .i64 0), (.str []), (.sl .clip []), (.sl .clip []), (.sl .clip []), (.sl .clip [])] false⟩,
  ⟨none, none, .store 13 (.t 7) (.t 87)⟩])
 (.reg [⟨(some 88), none, .mov (.t 0)⟩,
  ⟨(some 89), none, .faddr 4 (.t 7)⟩,
  ⟨(some 90), none, .load (some 9) (.t 89)⟩,
  ⟨(some 91), none, .call 0 [] (.c (.fn 27 [])) [(.t 88), (.t 90)]⟩])))
 (.reg [⟨(some 92), none, .bin .add (.t 84) (.c (.int .i64 1))⟩,
  ⟨(some 84), none, .mov (.t 92)⟩])))))))
 (.seq (.seq (.reg [⟨(some 93), none, .faddr 6 (.t 3)⟩,
  ⟨(some 94), none, .load none (.t 93)⟩,
  ⟨(some 95), none, .len 1 (.t 94)⟩,
  ⟨(some 96), none, .mov (.c (.int .i64 0))⟩])
 (.block 4 (.loop [0, 94, 95, 96] [3] (.seq (.reg [⟨(some 97), none, .bin .lss (.t 96) (.t 95)⟩])
 (.seq (.cond (.t 97) .skip
 (.exit 4))
 (.seq (.block 5 (.seq (.reg [⟨(some 98), none, .iaddr 9 (.t 94) (.t 96)⟩,
  ⟨(some 99), none, .load (some 9) (.t 98)⟩,
  ⟨(some 9), none, .alloc [(.int .i64 0), (.str []), (.int .i64 0), (.int .i64 0), (.str []), (.sl .clip []), (.sl .clip []), (.sl .clip []), (.sl .clip [])] false⟩,
  ⟨none, none, .store 9 (.t 9) (.t 99)⟩])
 (.reg [⟨(some 100), none, .mov (.t 0)⟩,
  ⟨(some 101), none, .load (some 9) (.t 9)⟩,
  ⟨(some 102), none, .call 0 [] (.c (.fn 27 [])) [(.t 100), (.t 101)]⟩])))
 (.reg [⟨(some 103), none, .bin .add (.t 96) (.c (.int .i64 1))⟩,
  ⟨(some 96), none, .mov (.t 103)⟩])))))))
 (.seq (.reg [⟨(some 104), none, .faddr 7 (.t 3)⟩,
  ⟨(some 105), none, .load none (.t 104)⟩,
  ⟨(some 106), none, .len 1 (.t 105)⟩,
  ⟨(some 107), none, .mov (.c (.int .i64 0))⟩])
 (.block 6 (.loop [0, 105, 106, 107] [] (.seq (.reg [⟨(some 108), none, .bin .lss (.t 107) (.t 106)⟩])
 (.seq (.cond (.t 108) .skip
 (.exit 6))
 (.seq (.block 7 (.seq (.reg [⟨(some 109), none, .iaddr 11 (.t 105) (.t 107)⟩,
  ⟨(some 110), none, .load (some 11) (.t 109)⟩,
  ⟨(some 11), none, .alloc [(.str []), (.sl .clip []), (.int .i64 0), (.str []), (.int .i64 0), (.int .i64 0), (.str []), (.sl .clip []), (.sl .clip []), (.sl .clip []), (.sl .clip [])] false⟩,
  ⟨none, none, .store 11 (.t 11) (.t 110)⟩])
 (.seq (.seq (.reg [⟨(some 111), none, .faddr 1 (.t 11)⟩,
  ⟨(some 112), none, .load none (.t 111)⟩,
  ⟨(some 113), none, .call 0 [] (.c (.fn 54 [])) [(.t 112)]⟩,
  ⟨(some 114), none, .len 1 (.t 113)⟩,
  ⟨(some 115), none, .mov (.c (.int .i64 0))⟩])
 (.block 8 (.loop [0, 105, 106, 107, 113, 114, 115] [11] (.seq (.reg [⟨(some 116), none, .bin .lss (.t 115) (.t 114)⟩])
 (.seq (.cond (.t 116) .skip
 (.exit 8))
 (.seq (.block 9 (.seq (.reg [⟨(some 117), none, .iaddr 1 (.t 113) (.t 115)⟩,
  ⟨(some 118), none, .load none (.t 117)⟩,
  ⟨(some 13), none, .mov (.t 118)⟩])
 (.reg [⟨(some 119), none, .mov (.t 0)⟩,
  ⟨(some 120), none, .mov (.t 13)⟩,
  ⟨(some 121), none, .call 0 [] (.c (.fn 53 [])) [(.t 119), (.t 120)]⟩])))
 (.reg [⟨(some 122), none, .bin .add (.t 115) (.c (.int .i64 1))⟩,
  ⟨(some 115), none, .mov (.t 122)⟩])))))))
 (.reg [⟨(some 123), none, .mov (.t 0)⟩,
  ⟨(some 124), none, .faddr 2 (.t 11)⟩,
  ⟨(some 125), none, .load (some 9) (.t 124)⟩,
  ⟨(some 126), none, .call 0 [] (.c (.fn 27 [])) [(.t 123), (.t 125)]⟩]))))
 (.reg [⟨(some 127), none, .bin .add (.t 107) (.c (.int .i64 1))⟩,
  ⟨(some 107), none, .mov (.t 127)⟩]))))))))))))),
  [], false, true, 128⟩
theorem co27 : compF Tryd.prog ⟨[], [(6, [0, 57, 58, 59], [3]), (12, [0, 82, 83, 84], [3]), (17, [0, 94, 95, 96], [3]), (22, [0, 105, 106, 107], []), (25, [0, 105, 106, 107, 113, 114, 115], [11])], [], [], [], [], 27, [], [], []⟩ false true Tryd.f27 = some ac27 := by kernel_rfl

/-- slices.ContainsFunc[[]string,string] -/
def ac28 : AF := ⟨(.seq (.reg [⟨(some 4), none, .mov (.c (.bool false))⟩])
 (.seq (.reg [⟨(some 5), none, .mov (.t 0)⟩,
  ⟨(some 6), none, .mov (.t 1)⟩,
  ⟨(some 7), none, .call 0 [] (.c (.fn 55 [])) [(.t 5), (.t 6)]⟩,
  ⟨(some 8), none, .bin .geq (.t 7) (.c (.int .i64 0))⟩,
  ⟨(some 4), none, .mov (.t 8)⟩])
 .ret)),
  [.t 4], false, true, 9⟩
theorem co28 : compF Tryd.prog ⟨[], [], [], [], [], [], 28, [], [], []⟩ false true Tryd.f28 = some ac28 := by kernel_rfl

/-- paideia/term.Free -/
def ac29 : AF := ⟨(.seq (.reg [⟨(some 1), none, .box (.t 0) 9 false⟩,
  ⟨(some 2), none, .mov (.c (.sl .clip []))⟩])
 (.seq (.reg [⟨(some 4), none, .mkmap⟩,
  ⟨(some 5), none, .mkmap⟩,
  ⟨(some 6), none, .build [(.map none), (.map none), (.sl .clip [])] [(0, 1, (.t 4)), (1, 1, (.t 5))]⟩,
  ⟨(some 7), none, .box (.t 6) 3 true⟩,
  ⟨(some 3), none, .mov (.t 7)⟩])
 (.seq (.reg [⟨(some 8), none, .mov (.t 3)⟩,
  ⟨(some 9), none, .load (some 9) (.t 1)⟩,
  ⟨(some 10), none, .call 0 [] (.c (.fn 56 [])) [(.t 8), (.t 9)]⟩])
 (.seq (.reg [⟨(some 11), none, .mov (.t 3)⟩,
  ⟨(some 12), none, .nilck (.t 11)⟩,
  ⟨(some 13), none, .faddr 2 (.t 12)⟩,
  ⟨(some 14), none, .load none (.t 13)⟩,
  ⟨(some 2), none, .mov (.t 14)⟩])
 .ret)))),
  [.t 2], false, true, 15⟩
theorem co29 : compF Tryd.prog ⟨[7], [], [], [], [], [], 29, [], [], []⟩ false true Tryd.f29 = some ac29 := by kernel_rfl

/-- paideia/norm.Flat$1 -/
def ac30 : AF := ⟨(.seq (.reg [⟨(some 3), none, .mov (.c (.bool false))⟩])
 (.seq (.reg [⟨(some 4), none, .load none (.t 1)⟩,
  ⟨(some 5), none, .nilck (.t 4)⟩,
  ⟨(some 6), none, .faddr 0 (.t 5)⟩,
  ⟨(some 7), none, .load none (.t 6)⟩,
  ⟨(some 8), none, .mov (.t 0)⟩,
  ⟨(some 9), none, .lookup .str (.bool false) (.t 7) (.t 8) false⟩,
  ⟨(some 3), none, .mov (.t 9)⟩])
 .ret)),
  [.t 3], false, true, 10⟩
theorem co30 : compF Tryd.prog ⟨[], [], [], [], [], [], 30, [], [], []⟩ false true Tryd.f30 = some ac30 := by kernel_rfl

/-- paideia/norm.Erase -/
def ac31 : AF := ⟨(.seq (.reg [⟨(some 1), none, .box (.t 0) 9 false⟩,
  ⟨(some 2), none, .alloc [(.int .i64 0), (.str []), (.int .i64 0), (.int .i64 0), (.str []), (.sl .clip []), (.sl .clip []), (.sl .clip []), (.sl .clip [])] false⟩])
 (.seq (.seq (.reg [⟨(some 10), none, .faddr 0 (.t 1)⟩,
  ⟨(some 11), none, .load none (.t 10)⟩,
  ⟨(some 12), none, .bin .eql (.t 11) (.c (.int .i64 7))⟩,
  ⟨(some 13), none, .mov (.t 12)⟩,
  ⟨(some 14), (some (13, false)), .faddr 0 (.t 1)⟩,
  ⟨(some 15), (some (13, false)), .load none (.t 14)⟩,
  ⟨(some 16), (some (13, false)), .bin .eql (.t 15) (.c (.int .i64 8))⟩,
  ⟨(some 17), none, .pick (.t 13) (.c (.bool true)) (.t 16)⟩,
  ⟨(some 18), none, .mov (.t 17)⟩,
  ⟨(some 19), (some (18, true)), .faddr 6 (.t 1)⟩,
  ⟨(some 20), (some (18, true)), .load none (.t 19)⟩,
  ⟨(some 21), (some (18, true)), .len 1 (.t 20)⟩,
  ⟨(some 22), (some (18, true)), .bin .gtr (.t 21) (.c (.int .i64 0))⟩,
  ⟨(some 23), none, .pick (.t 18) (.t 22) (.c (.bool false))⟩])
 (.cond (.t 23) (.seq (.reg [⟨(some 24), none, .faddr 6 (.t 1)⟩,
  ⟨(some 25), none, .load none (.t 24)⟩,
  ⟨(some 26), none, .iaddr 9 (.t 25) (.c (.int .i64 0))⟩,
  ⟨(some 27), none, .load (some 9) (.t 26)⟩,
  ⟨(some 28), none, .call 0 [] (.c (.fn 31 [])) [(.t 27)]⟩,
  ⟨none, none, .store 9 (.t 2) (.t 28)⟩])
 .ret)
 .skip))
 (.seq (.reg [⟨(some 29), none, .faddr 0 (.t 1)⟩,
  ⟨(some 30), none, .load none (.t 29)⟩,
  ⟨(some 31), none, .faddr 1 (.t 1)⟩,
  ⟨(some 32), none, .load none (.t 31)⟩,
  ⟨(some 33), none, .faddr 2 (.t 1)⟩,
  ⟨(some 34), none, .load none (.t 33)⟩,
  ⟨(some 35), none, .build [(.int .i64 0), (.str []), (.int .i64 0), (.int .i64 0), (.str []), (.sl .clip []), (.sl .clip []), (.sl .clip []), (.sl .clip [])] [(0, 1, (.t 30)), (1, 1, (.t 32)), (2, 1, (.t 34))]⟩,
  ⟨(some 3), none, .alloc [(.int .i64 0), (.str []), (.int .i64 0), (.int .i64 0), (.str []), (.sl .clip []), (.sl .clip []), (.sl .clip []), (.sl .clip [])] false⟩,
  ⟨none, none, .store 9 (.t 3) (.t 35)⟩])
 (.seq (.seq (.reg [⟨(some 36), none, .faddr 6 (.t 1)⟩,
  ⟨(some 37), none, .load none (.t 36)⟩,
  ⟨(some 38), none, .len 1 (.t 37)⟩,
  ⟨(some 39), none, .mov (.c (.int .i64 0))⟩])
 (.block 0 (.loop [37, 38, 39] [1, 2, 3] (.seq (.reg [⟨(some 40), none, .bin .lss (.t 39) (.t 38)⟩])
 (.seq (.cond (.t 40) .skip
 (.exit 0))
 (.seq (.block 1 (.seq (.reg [⟨(some 41), none, .iaddr 9 (.t 37) (.t 39)⟩,
  ⟨(some 42), none, .load (some 9) (.t 41)⟩,
  ⟨(some 5), none, .alloc [(.int .i64 0), (.str []), (.int .i64 0), (.int .i64 0), (.str []), (.sl .clip []), (.sl .clip []), (.sl .clip []), (.sl .clip [])] false⟩,
  ⟨none, none, .store 9 (.t 5) (.t 42)⟩])
 (.reg [⟨(some 43), none, .faddr 6 (.t 3)⟩,
  ⟨(some 44), none, .loadL none (.t 43)⟩,
  ⟨(some 45), none, .load (some 9) (.t 5)⟩,
  ⟨(some 46), none, .call 0 [] (.c (.fn 31 [])) [(.t 45)]⟩,
  ⟨(some 47), none, .bslice [(.int .i64 0), (.str []), (.int .i64 0), (.int .i64 0), (.str []), (.sl .clip []), (.sl .clip []), (.sl .clip []), (.sl .clip [])] 1 [(0, (.t 46))]⟩,
  ⟨(some 48), none, .append 9 (.t 44) (.t 47)⟩,
  ⟨(some 49), none, .faddr 6 (.t 3)⟩,
  ⟨none, none, .store 1 (.t 49) (.t 48)⟩])))
 (.reg [⟨(some 50), none, .bin .add (.t 39) (.c (.int .i64 1))⟩,
  ⟨(some 39), none, .mov (.t 50)⟩])))))))
 (.seq (.seq (.reg [⟨(some 51), none, .faddr 7 (.t 1)⟩,
  ⟨(some 52), none, .load none (.t 51)⟩,
  ⟨(some 53), none, .len 1 (.t 52)⟩,
  ⟨(some 54), none, .mov (.c (.int .i64 0))⟩])
 (.block 2 (.loop [52, 53, 54] [1, 2, 3] (.seq (.reg [⟨(some 55), none, .bin .lss (.t 54) (.t 53)⟩])
 (.seq (.cond (.t 55) .skip
 (.exit 2))
 (.seq (.block 3 (.seq (.reg [⟨(some 56), none, .iaddr 11 (.t 52) (.t 54)⟩,
  ⟨(some 57), none, .load (some 11) (.t 56)⟩,
  ⟨(some 7), none, .alloc [(.str []), (.sl .clip []), (.int .i64 0), (.str []), (.int .i64 0), (.int .i64 0), (.str []), (.sl .clip []), (.sl .clip []), (.sl .clip []), (.sl .clip [])] false⟩,
  ⟨none, none, .store 11 (.t 7) (.t 57)⟩])
 (.reg [⟨(some 58), none, .faddr 7 (.t 3)⟩,
  ⟨(some 59), none, .loadL none (.t 58)⟩,
  ⟨(some 60), none, .faddr 0 (.t 7)⟩,
  ⟨(some 61), none, .loadL none (.t 60)⟩,
  ⟨(some 62), none, .faddr 1 (.t 7)⟩,
  ⟨(some 63), none, .load none (.t 62)⟩,
  ⟨(some 64), none, .call 0 [] (.c (.fn 46 [])) [(.t 63)]⟩,
  ⟨(some 65), none, .faddr 2 (.t 7)⟩,
  ⟨(some 66), none, .loadL (some 9) (.t 65)⟩,
  ⟨(some 67), none, .call 0 [] (.c (.fn 31 [])) [(.t 66)]⟩,
  ⟨(some 68), none, .build [(.str []), (.sl .clip []), (.int .i64 0), (.str []), (.int .i64 0), (.int .i64 0), (.str []), (.sl .clip []), (.sl .clip []), (.sl .clip []), (.sl .clip [])] [(0, 1, (.t 61)), (1, 1, (.t 64)), (2, 9, (.t 67))]⟩,
  ⟨(some 69), none, .bslice [(.str []), (.sl .clip []), (.int .i64 0), (.str []), (.int .i64 0), (.int .i64 0), (.str []), (.sl .clip []), (.sl .clip []), (.sl .clip []), (.sl .clip [])] 1 [(0, (.t 68))]⟩,
  ⟨(some 70), none, .append 11 (.t 59) (.t 69)⟩,
  ⟨(some 71), none, .faddr 7 (.t 3)⟩,
  ⟨none, none, .store 1 (.t 71) (.t 70)⟩])))
 (.reg [⟨(some 72), none, .bin .add (.t 54) (.c (.int .i64 1))⟩,
  ⟨(some 54), none, .mov (.t 72)⟩])))))))
 (.seq (.seq (.reg [⟨(some 73), none, .faddr 8 (.t 1)⟩,
  ⟨(some 74), none, .load none (.t 73)⟩,
  ⟨(some 75), none, .len 1 (.t 74)⟩,
  ⟨(some 76), none, .mov (.c (.int .i64 0))⟩])
 (.block 4 (.loop [74, 75, 76] [2, 3] (.seq (.reg [⟨(some 77), none, .bin .lss (.t 76) (.t 75)⟩])
 (.seq (.cond (.t 77) .skip
 (.exit 4))
 (.seq (.block 5 (.seq (.reg [⟨(some 78), none, .iaddr 13 (.t 74) (.t 76)⟩,
  ⟨(some 79), none, .load (some 13) (.t 78)⟩,
  ⟨(some 9), none, .alloc [(.str []), (.int .i64 0), (.str []), (.sl .clip []), (.int .i64 0), (.str []), (.int .i64 0), (.int .i64 0), (.str []), (.sl .clip []), (.sl .clip []), (.sl .clip []), (.sl .clip [])] false⟩,
  ⟨none, none, .store 13 (.t 9) (.t 79)⟩])
 (.reg [⟨(some 80), none, .faddr 8 (.t 3)⟩,
  ⟨(some 81), none, .loadL none (.t 80)⟩,
  ⟨(some 82), none, .faddr 0 (.t 9)⟩,
  ⟨(some 83), none, .loadL none (.t 82)⟩,
  ⟨(some 84), none, .faddr 4 (.t 9)⟩,
  ⟨(some 85), none, .load (some 9) (.t 84)⟩,
  ⟨(some 86), none, .call 0 [] (.c (.fn 31 [])) [(.t 85)]⟩,
  ⟨(some 87), none, .build [(.str []), (.int .i64 0), (.str []), (.sl .clip []), (.int .i64 0), (.str []), (.int .i64 0), (.int .i64 0), (.str []), (.sl .clip []), (.sl .clip []), (.sl .clip []), (.sl .clip [])] [(0, 1, (.t 83)), (4, 9, (.t 86))]⟩,
  ⟨(some 88), none, .bslice [(.str []), (.int .i64 0), (.str []), (.sl .clip []), (.int .i64 0), (.str []), (.int .i64 0), (.int .i64 0), (.str []), (.sl .clip []), (.sl .clip []), (.sl .clip []), (.sl .clip [])] 1 [(0, (.t 87))]⟩,
  ⟨(some 89), none, .append 13 (.t 81) (.t 88)⟩,
  ⟨(some 90), none, .faddr 8 (.t 3)⟩,
  ⟨none, none, .store 1 (.t 90) (.t 89)⟩])))
 (.reg [⟨(some 91), none, .bin .add (.t 76) (.c (.int .i64 1))⟩,
  ⟨(some 76), none, .mov (.t 91)⟩])))))))
 (.seq (.reg [⟨(some 92), none, .load (some 9) (.t 3)⟩,
  ⟨none, none, .store 9 (.t 2) (.t 92)⟩])
 .ret))))))),
  [.cell 2 (some 9)], false, true, 93⟩
theorem co31 : compF Tryd.prog ⟨[], [(5, [37, 38, 39], [1, 2, 3]), (10, [52, 53, 54], [1, 2, 3]), (15, [74, 75, 76], [2, 3])], [], [], [], [], 31, [], [], []⟩ false true Tryd.f31 = some ac31 := by kernel_rfl

/-- (*paideia/norm.norm).term -/
def ac32 : AF := ⟨(.seq (.reg [⟨(some 2), none, .fbox (.t 0) 1⟩,
  ⟨(some 3), none, .fbox (.t 1) 9⟩,
  ⟨(some 4), none, .alloc [(.int .i64 0), (.str []), (.int .i64 0), (.int .i64 0), (.str []), (.sl .clip []), (.sl .clip []), (.sl .clip []), (.sl .clip [])] false⟩])
 (.seq (.block 0 (.seq (.reg [⟨(some 13), none, .faddr 0 (.t 3)⟩,
  ⟨(some 14), none, .load none (.t 13)⟩,
  ⟨(some 15), none, .bin .eql (.t 14) (.c (.int .i64 1))⟩,
  ⟨(some 12), none, .mov (.t 15)⟩])
 (.cond (.t 12) (.seq (.seq (.reg [⟨(some 17), none, .load none (.t 2)⟩,
  ⟨(some 18), none, .nilck (.t 17)⟩,
  ⟨(some 19), none, .faddr 2 (.t 18)⟩,
  ⟨(some 20), none, .load none (.t 19)⟩,
  ⟨(some 21), none, .faddr 1 (.t 3)⟩,
  ⟨(some 22), none, .load none (.t 21)⟩,
  ⟨(some 23), none, .lookup .str (.str []) (.t 20) (.t 22) true⟩,
  ⟨(some 16), none, .mov (.t 23)⟩,
  ⟨(some 24), none, .extract (.t 16) 0⟩,
  ⟨(some 25), none, .extract (.t 16) 1⟩,
  ⟨(some 5), none, .mov (.t 24)⟩,
  ⟨(some 6), none, .mov (.t 25)⟩])
 (.seq (.reg [⟨(some 26), none, .mov (.t 6)⟩])
 (.cond (.t 26) (.seq (.reg [⟨(some 27), none, .mov (.t 5)⟩,
  ⟨(some 28), none, .call 0 [] (.c (.fn 14 [])) [(.t 27)]⟩,
  ⟨none, none, .store 9 (.t 4) (.t 28)⟩])
 .ret)
 .skip)))
 (.seq (.reg [⟨(some 29), none, .faddr 1 (.t 3)⟩,
  ⟨(some 30), none, .load none (.t 29)⟩,
  ⟨(some 31), none, .call 0 [] (.c (.fn 14 [])) [(.t 30)]⟩,
  ⟨none, none, .store 9 (.t 4) (.t 31)⟩])
 .ret))
 (.seq (.reg [⟨(some 33), none, .faddr 0 (.t 3)⟩,
  ⟨(some 34), none, .load none (.t 33)⟩,
  ⟨(some 35), none, .bin .eql (.t 34) (.c (.int .i64 5))⟩,
  ⟨(some 36), none, .mov (.t 35)⟩,
  ⟨(some 37), (some (36, true)), .faddr 6 (.t 3)⟩,
  ⟨(some 38), (some (36, true)), .load none (.t 37)⟩,
  ⟨(some 39), (some (36, true)), .len 1 (.t 38)⟩,
  ⟨(some 40), (some (36, true)), .bin .eql (.t 39) (.c (.int .i64 2))⟩,
  ⟨(some 41), none, .pick (.t 36) (.t 40) (.c (.bool false))⟩,
  ⟨(some 32), none, .mov (.t 41)⟩])
 (.cond (.t 32) (.seq (.reg [⟨(some 42), none, .load none (.t 2)⟩,
  ⟨(some 43), none, .load (some 9) (.t 3)⟩,
  ⟨(some 44), none, .call 0 [] (.c (.fn 57 [])) [(.t 42), (.t 43)]⟩,
  ⟨none, none, .store 9 (.t 4) (.t 44)⟩])
 .ret)
 (.seq (.reg [⟨(some 46), none, .faddr 0 (.t 3)⟩,
  ⟨(some 47), none, .load none (.t 46)⟩,
  ⟨(some 48), none, .bin .eql (.t 47) (.c (.int .i64 6))⟩,
  ⟨(some 45), none, .mov (.t 48)⟩])
 (.cond (.t 45) (.seq (.reg [⟨(some 49), none, .build [(.int .i64 0), (.str []), (.int .i64 0), (.int .i64 0), (.str []), (.sl .clip []), (.sl .clip []), (.sl .clip []), (.sl .clip [])] [(0, 1, (.c (.int .i64 6)))]⟩,
  ⟨(some 7), none, .alloc [(.int .i64 0), (.str []), (.int .i64 0), (.int .i64 0), (.str []), (.sl .clip []), (.sl .clip []), (.sl .clip []), (.sl .clip [])] true⟩,
  ⟨none, none, .store 9 (.t 7) (.t 49)⟩])
 (.seq (.reg [⟨(some 50), none, .load none (.t 2)⟩,
  ⟨(some 51), none, .faddr 1 (.t 3)⟩,
  ⟨(some 52), none, .load none (.t 51)⟩,
  ⟨(some 53), none, .bslice [(.str [])] 1 [(0, (.t 52))]⟩,
  ⟨(some 54), none, .mkfn 59 [(.t 2), (.t 3), (.t 7)]⟩,
  ⟨(some 55), none, .call 0 [] (.c (.fn 58 [])) [(.t 50), (.t 53), (.t 54)]⟩,
  ⟨(some 56), none, .iaddr 1 (.t 55) (.c (.int .i64 0))⟩,
  ⟨(some 57), none, .load none (.t 56)⟩,
  ⟨(some 58), none, .faddr 1 (.t 7)⟩,
  ⟨none, none, .store 1 (.t 58) (.t 57)⟩])
 (.seq (.reg [⟨(some 59), none, .load (some 9) (.t 7)⟩,
  ⟨none, none, .store 9 (.t 4) (.t 59)⟩])
 .ret)))
 (.seq (.reg [⟨(some 61), none, .faddr 0 (.t 3)⟩,
  ⟨(some 62), none, .load none (.t 61)⟩,
  ⟨(some 63), none, .bin .eql (.t 62) (.c (.int .i64 9))⟩,
  ⟨(some 60), none, .mov (.t 63)⟩])
 (.cond (.t 60) (.seq (.reg [⟨(some 64), none, .load none (.t 2)⟩,
  ⟨(some 65), none, .load (some 9) (.t 3)⟩,
  ⟨(some 66), none, .call 0 [] (.c (.fn 61 [])) [(.t 64), (.t 65)]⟩,
  ⟨none, none, .store 9 (.t 4) (.t 66)⟩])
 .ret)
 .skip)))))))))
 (.seq (.reg [⟨(some 67), none, .faddr 0 (.t 3)⟩,
  ⟨(some 68), none, .loadL none (.t 67)⟩,
  ⟨(some 69), none, .faddr 1 (.t 3)⟩,
  ⟨(some 70), none, .loadL none (.t 69)⟩,
  ⟨(some 71), none, .faddr 2 (.t 3)⟩,
  ⟨(some 72), none, .loadL none (.t 71)⟩,
  ⟨(some 73), none, .load none (.t 2)⟩,
  ⟨(some 74), none, .faddr 6 (.t 3)⟩,
  ⟨(some 75), none, .load none (.t 74)⟩,
  ⟨(some 76), none, .call 0 [] (.c (.fn 60 [])) [(.t 73), (.t 75)]⟩,
  ⟨(some 77), none, .build [(.int .i64 0), (.str []), (.int .i64 0), (.int .i64 0), (.str []), (.sl .clip []), (.sl .clip []), (.sl .clip []), (.sl .clip [])] [(0, 1, (.t 68)), (1, 1, (.t 70)), (2, 1, (.t 72)), (6, 1, (.t 76))]⟩,
  ⟨(some 8), none, .alloc [(.int .i64 0), (.str []), (.int .i64 0), (.int .i64 0), (.str []), (.sl .clip []), (.sl .clip []), (.sl .clip []), (.sl .clip [])] false⟩,
  ⟨none, none, .store 9 (.t 8) (.t 77)⟩])
 (.seq (.seq (.reg [⟨(some 78), none, .faddr 7 (.t 3)⟩,
  ⟨(some 79), none, .load none (.t 78)⟩,
  ⟨(some 80), none, .len 1 (.t 79)⟩,
  ⟨(some 81), none, .mov (.c (.int .i64 0))⟩])
 (.block 1 (.loop [2, 79, 80, 81] [4, 8] (.seq (.reg [⟨(some 82), none, .bin .lss (.t 81) (.t 80)⟩])
 (.seq (.cond (.t 82) .skip
 (.exit 1))
 (.seq (.block 2 (.seq (.reg [⟨(some 83), none, .iaddr 11 (.t 79) (.t 81)⟩,
  ⟨(some 84), none, .load (some 11) (.t 83)⟩,
  ⟨(some 10), none, .alloc [(.str []), (.sl .clip []), (.int .i64 0), (.str []), (.int .i64 0), (.int .i64 0), (.str []), (.sl .clip []), (.sl .clip []), (.sl .clip []), (.sl .clip [])] true⟩,
  ⟨none, none, .store 11 (.t 10) (.t 84)⟩])
 (.seq (.reg [⟨(some 85), none, .faddr 0 (.t 10)⟩,
  ⟨(some 86), none, .load none (.t 85)⟩,
  ⟨(some 87), none, .build [(.str []), (.sl .clip []), (.int .i64 0), (.str []), (.int .i64 0), (.int .i64 0), (.str []), (.sl .clip []), (.sl .clip []), (.sl .clip []), (.sl .clip [])] [(0, 1, (.t 86))]⟩,
  ⟨(some 11), none, .alloc [(.str []), (.sl .clip []), (.int .i64 0), (.str []), (.int .i64 0), (.int .i64 0), (.str []), (.sl .clip []), (.sl .clip []), (.sl .clip []), (.sl .clip [])] true⟩,
  ⟨none, none, .store 11 (.t 11) (.t 87)⟩])
 (.seq (.reg [⟨(some 88), none, .load none (.t 2)⟩,
  ⟨(some 89), none, .faddr 1 (.t 10)⟩,
  ⟨(some 90), none, .load none (.t 89)⟩,
  ⟨(some 91), none, .mkfn 62 [(.t 2), (.t 10), (.t 11)]⟩,
  ⟨(some 92), none, .call 0 [] (.c (.fn 58 [])) [(.t 88), (.t 90), (.t 91)]⟩,
  ⟨(some 93), none, .faddr 1 (.t 11)⟩,
  ⟨none, none, .store 1 (.t 93) (.t 92)⟩])
 (.reg [⟨(some 94), none, .faddr 7 (.t 8)⟩,
  ⟨(some 95), none, .load none (.t 94)⟩,
  ⟨(some 96), none, .load (some 11) (.t 11)⟩,
  ⟨(some 97), none, .bslice [(.str []), (.sl .clip []), (.int .i64 0), (.str []), (.int .i64 0), (.int .i64 0), (.str []), (.sl .clip []), (.sl .clip []), (.sl .clip []), (.sl .clip [])] 1 [(0, (.t 96))]⟩,
  ⟨(some 98), none, .append 11 (.t 95) (.t 97)⟩,
  ⟨(some 99), none, .faddr 7 (.t 8)⟩,
  ⟨none, none, .store 1 (.t 99) (.t 98)⟩])))))
 (.reg [⟨(some 100), none, .bin .add (.t 81) (.c (.int .i64 1))⟩,
  ⟨(some 81), none, .mov (.t 100)⟩])))))))
 (.seq (.reg [⟨(some 101), none, .load (some 9) (.t 8)⟩,
  ⟨none, none, .store 9 (.t 4) (.t 101)⟩])
 .ret))))),
  [.cell 4 (some 9)], false, true, 102⟩
theorem co32 : compF Tryd.prog ⟨[7, 10, 11], [(16, [2, 79, 80, 81], [4, 8])], [], [], [2, 3], [], 32, [], [], []⟩ false true Tryd.f32 = some ac32 := by kernel_rfl

/-- slices.Clone[[]string,string] -/
def ac46 : AF := ⟨(.seq (.reg [⟨(some 2), none, .mov (.c (.sl .clip []))⟩])
 (.seq (.seq (.reg [⟨(some 3), none, .mov (.t 0)⟩,
  ⟨(some 4), none, .nilsl false (.t 3)⟩])
 (.cond (.t 4) (.seq (.reg [⟨(some 2), none, .mov (.c (.sl .clip []))⟩])
 .ret)
 .skip))
 (.seq (.reg [⟨(some 5), none, .bslice [(.str [])] 0 []⟩,
  ⟨(some 6), none, .mov (.t 0)⟩,
  ⟨(some 7), none, .append 1 (.t 5) (.t 6)⟩,
  ⟨(some 2), none, .mov (.t 7)⟩])
 .ret))),
  [.t 2], false, true, 8⟩
theorem co46 : compF Tryd.prog ⟨[], [], [], [], [], [], 46, [], [], []⟩ false true Tryd.f46 = some ac46 := by kernel_rfl

/-- paideia/norm.typed -/
def ac51 : AF := ⟨(.seq (.reg [⟨(some 1), none, .box (.t 0) 3 false⟩,
  ⟨(some 2), none, .mov (.c (.bool false))⟩])
 (.seq (.reg [⟨(some 3), none, .faddr 0 (.t 1)⟩,
  ⟨(some 4), none, .load none (.t 3)⟩,
  ⟨(some 5), none, .bin .neq (.t 4) (.c (.int .i64 0))⟩,
  ⟨(some 6), none, .mov (.t 5)⟩,
  ⟨(some 7), (some (6, false)), .faddr 1 (.t 1)⟩,
  ⟨(some 8), (some (6, false)), .load none (.t 7)⟩,
  ⟨(some 9), (some (6, false)), .bin .neq (.t 8) (.c (.str []))⟩,
  ⟨(some 10), none, .pick (.t 6) (.c (.bool true)) (.t 9)⟩,
  ⟨(some 11), none, .mov (.t 10)⟩,
  ⟨(some 12), (some (11, false)), .faddr 2 (.t 1)⟩,
  ⟨(some 13), (some (11, false)), .load none (.t 12)⟩,
  ⟨(some 14), (some (11, false)), .len 1 (.t 13)⟩,
  ⟨(some 15), (some (11, false)), .bin .gtr (.t 14) (.c (.int .i64 0))⟩,
  ⟨(some 16), none, .pick (.t 11) (.c (.bool true)) (.t 15)⟩,
  ⟨(some 2), none, .mov (.t 16)⟩])
 .ret)),
  [.t 2], false, true, 17⟩
theorem co51 : compF Tryd.prog ⟨[], [], [], [], [], [], 51, [], [], []⟩ false true Tryd.f51 = some ac51 := by kernel_rfl

/-- paideia/norm.atom -/
def ac52 : AF := ⟨(.seq (.reg [⟨(some 1), none, .box (.t 0) 9 false⟩,
  ⟨(some 2), none, .mov (.c (.bool false))⟩])
 (.seq (.reg [⟨(some 3), none, .faddr 0 (.t 1)⟩,
  ⟨(some 4), none, .load none (.t 3)⟩,
  ⟨(some 5), none, .bin .eql (.t 4) (.c (.int .i64 1))⟩,
  ⟨(some 6), none, .mov (.t 5)⟩,
  ⟨(some 7), (some (6, false)), .faddr 0 (.t 1)⟩,
  ⟨(some 8), (some (6, false)), .load none (.t 7)⟩,
  ⟨(some 9), (some (6, false)), .bin .eql (.t 8) (.c (.int .i64 3))⟩,
  ⟨(some 10), none, .pick (.t 6) (.c (.bool true)) (.t 9)⟩,
  ⟨(some 11), none, .mov (.t 10)⟩,
  ⟨(some 12), (some (11, false)), .faddr 0 (.t 1)⟩,
  ⟨(some 13), (some (11, false)), .load none (.t 12)⟩,
  ⟨(some 14), (some (11, false)), .bin .eql (.t 13) (.c (.int .i64 4))⟩,
  ⟨(some 15), none, .pick (.t 11) (.c (.bool true)) (.t 14)⟩,
  ⟨(some 2), none, .mov (.t 15)⟩])
 .ret)),
  [.t 2], false, true, 16⟩
theorem co52 : compF Tryd.prog ⟨[], [], [], [], [], [], 52, [], [], []⟩ false true Tryd.f52 = some ac52 := by kernel_rfl

/-- (*paideia/norm.flat).binds -/
def ac53 : AF := ⟨(.seq (.seq (.reg [⟨(some 4), none, .mov (.t 0)⟩,
  ⟨(some 5), none, .nilck (.t 4)⟩,
  ⟨(some 6), none, .faddr 0 (.t 5)⟩,
  ⟨(some 7), none, .load none (.t 6)⟩,
  ⟨(some 8), none, .mov (.t 1)⟩,
  ⟨(some 9), none, .lookup .str (.bool false) (.t 7) (.t 8) false⟩])
 (.cond (.t 9) (.reg [⟨(some 10), none, .mov (.t 0)⟩,
  ⟨(some 11), none, .nilck (.t 10)⟩,
  ⟨(some 12), none, .faddr 1 (.t 11)⟩,
  ⟨none, none, .store 1 (.t 12) (.c (.bool false))⟩])
 .skip))
 (.reg [⟨(some 13), none, .mov (.t 0)⟩,
  ⟨(some 14), none, .nilck (.t 13)⟩,
  ⟨(some 15), none, .faddr 0 (.t 14)⟩,
  ⟨(some 16), none, .load none (.t 15)⟩,
  ⟨(some 17), none, .mov (.t 1)⟩,
  ⟨none, none, .mapset .str (.t 16) (.t 17) (.c (.bool true))⟩])),
  [], false, true, 18⟩
theorem co53 : compF Tryd.prog ⟨[], [], [], [], [], [], 53, [], [], []⟩ false true Tryd.f53 = some ac53 := by kernel_rfl

/-- paideia/term.Bound -/
def ac54 : AF := ⟨(.seq (.reg [⟨(some 2), none, .mov (.c (.sl .clip []))⟩])
 (.seq (.reg [⟨(some 3), none, .mov (.c (.sl .clip []))⟩])
 (.seq (.seq (.reg [⟨(some 6), none, .mov (.t 0)⟩,
  ⟨(some 7), none, .len 1 (.t 6)⟩,
  ⟨(some 8), none, .mov (.c (.int .i64 0))⟩])
 (.block 0 (.loop [3, 6, 7, 8] [] (.seq (.reg [⟨(some 9), none, .bin .lss (.t 8) (.t 7)⟩])
 (.seq (.cond (.t 9) .skip
 (.exit 0))
 (.seq (.block 1 (.seq (.reg [⟨(some 10), none, .iaddr 1 (.t 6) (.t 8)⟩,
  ⟨(some 11), none, .load none (.t 10)⟩,
  ⟨(some 5), none, .mov (.t 11)⟩])
 (.seq (.reg [⟨(some 12), none, .mov (.t 5)⟩,
  ⟨(some 13), none, .bin .neq (.t 12) (.c (.str [95]))⟩])
 (.cond (.t 13) (.reg [⟨(some 14), none, .mov (.t 3)⟩,
  ⟨(some 15), none, .mov (.t 5)⟩,
  ⟨(some 16), none, .bslice [(.str [])] 1 [(0, (.t 15))]⟩,
  ⟨(some 17), none, .append 1 (.t 14) (.t 16)⟩,
  ⟨(some 3), none, .mov (.t 17)⟩])
 .skip))))
 (.reg [⟨(some 18), none, .bin .add (.t 8) (.c (.int .i64 1))⟩,
  ⟨(some 8), none, .mov (.t 18)⟩])))))))
 (.seq (.reg [⟨(some 19), none, .mov (.t 3)⟩,
  ⟨(some 2), none, .mov (.t 19)⟩])
 .ret)))),
  [.t 2], false, true, 20⟩
theorem co54 : compF Tryd.prog ⟨[], [(3, [3, 6, 7, 8], [])], [], [], [], [], 54, [], [], []⟩ false true Tryd.f54 = some ac54 := by kernel_rfl

/-- slices.IndexFunc[[]string,string] -/
def ac55 : AF := ⟨(.seq (.reg [⟨(some 4), none, .mov (.c (.int .i64 0))⟩])
 (.seq (.seq (.reg [⟨(some 6), none, .mov (.t 0)⟩,
  ⟨(some 7), none, .len 1 (.t 6)⟩,
  ⟨(some 8), none, .mov (.c (.int .i64 0))⟩])
 (.block 0 (.loop [0, 1, 7, 8] [] (.seq (.reg [⟨(some 9), none, .bin .lss (.t 8) (.t 7)⟩])
 (.seq (.cond (.t 9) .skip
 (.exit 0))
 (.seq (.block 1 (.seq (.reg [⟨(some 10), none, .mov (.t 8)⟩,
  ⟨(some 5), none, .mov (.t 10)⟩])
 (.seq (.reg [⟨(some 11), none, .mov (.t 1)⟩,
  ⟨(some 12), none, .mov (.t 0)⟩,
  ⟨(some 13), none, .mov (.t 5)⟩,
  ⟨(some 14), none, .iaddr 1 (.t 12) (.t 13)⟩,
  ⟨(some 15), none, .load none (.t 14)⟩,
  ⟨(some 16), none, .call 0 [] (.t 11) [(.t 15)]⟩])
 (.cond (.t 16) (.seq (.reg [⟨(some 17), none, .mov (.t 5)⟩,
  ⟨(some 4), none, .mov (.t 17)⟩])
 .ret)
 .skip))))
 (.reg [⟨(some 18), none, .bin .add (.t 8) (.c (.int .i64 1))⟩,
  ⟨(some 8), none, .mov (.t 18)⟩])))))))
 (.seq (.reg [⟨(some 4), none, .mov (.c (.int .i64 (-1)))⟩])
 .ret))),
  [.t 4], false, true, 19⟩
theorem co55 : compF Tryd.prog ⟨[], [(2, [0, 1, 7, 8], [])], [], [], [], [], 55, [], [], []⟩ false true Tryd.f55 = some ac55 := by kernel_rfl

/-- (*paideia/term.free).term -/
def ac56 : AF := ⟨(.seq (.reg [⟨(some 2), none, .fbox (.t 0) 1⟩,
  ⟨(some 3), none, .fbox (.t 1) 9⟩])
 (.seq (.reg [⟨(some 9), none, .faddr 0 (.t 3)⟩,
  ⟨(some 10), none, .load none (.t 9)⟩])
 (.block 0 (.seq (.reg [⟨(some 30), none, .bin .eql (.t 10) (.c (.int .i64 1))⟩,
  ⟨(some 29), none, .mov (.t 30)⟩])
 (.cond (.t 29) (.seq (.reg [⟨(some 31), none, .load none (.t 2)⟩,
  ⟨(some 32), none, .nilck (.t 31)⟩,
  ⟨(some 33), none, .faddr 0 (.t 32)⟩,
  ⟨(some 34), none, .load none (.t 33)⟩,
  ⟨(some 35), none, .faddr 1 (.t 3)⟩,
  ⟨(some 36), none, .load none (.t 35)⟩,
  ⟨(some 37), none, .lookup .str (.int .i64 0) (.t 34) (.t 36) false⟩,
  ⟨(some 38), none, .bin .eql (.t 37) (.c (.int .i64 0))⟩,
  ⟨(some 39), none, .mov (.t 38)⟩,
  ⟨(some 40), (some (39, true)), .load none (.t 2)⟩,
  ⟨(some 41), (some (39, true)), .nilck (.t 40)⟩,
  ⟨(some 42), (some (39, true)), .faddr 1 (.t 41)⟩,
  ⟨(some 43), (some (39, true)), .load none (.t 42)⟩,
  ⟨(some 44), (some (39, true)), .faddr 1 (.t 3)⟩,
  ⟨(some 45), (some (39, true)), .load none (.t 44)⟩,
  ⟨(some 46), (some (39, true)), .lookup .str (.bool false) (.t 43) (.t 45) false⟩,
  ⟨(some 47), (some (39, true)), .not (.t 46)⟩,
  ⟨(some 48), none, .pick (.t 39) (.t 47) (.c (.bool false))⟩])
 (.cond (.t 48) (.seq (.reg [⟨(some 49), none, .load none (.t 2)⟩,
  ⟨(some 50), none, .nilck (.t 49)⟩,
  ⟨(some 51), none, .faddr 1 (.t 50)⟩,
  ⟨(some 52), none, .load none (.t 51)⟩,
  ⟨(some 53), none, .faddr 1 (.t 3)⟩,
  ⟨(some 54), none, .load none (.t 53)⟩,
  ⟨none, none, .mapset .str (.t 52) (.t 54) (.c (.bool true))⟩])
 (.reg [⟨(some 55), none, .loadL none (.t 2)⟩,
  ⟨(some 56), none, .load none (.t 2)⟩,
  ⟨(some 57), none, .nilck (.t 56)⟩,
  ⟨(some 58), none, .faddr 2 (.t 57)⟩,
  ⟨(some 59), none, .load none (.t 58)⟩,
  ⟨(some 60), none, .faddr 1 (.t 3)⟩,
  ⟨(some 61), none, .load none (.t 60)⟩,
  ⟨(some 62), none, .bslice [(.str [])] 1 [(0, (.t 61))]⟩,
  ⟨(some 63), none, .append 1 (.t 59) (.t 62)⟩,
  ⟨(some 64), none, .nilck (.t 55)⟩,
  ⟨(some 65), none, .faddr 2 (.t 64)⟩,
  ⟨none, none, .store 1 (.t 65) (.t 63)⟩]))
 .skip))
 (.seq (.reg [⟨(some 67), none, .bin .eql (.t 10) (.c (.int .i64 6))⟩,
  ⟨(some 66), none, .mov (.t 67)⟩])
 (.cond (.t 66) (.reg [⟨(some 68), none, .load none (.t 2)⟩,
  ⟨(some 69), none, .faddr 1 (.t 3)⟩,
  ⟨(some 70), none, .load none (.t 69)⟩,
  ⟨(some 71), none, .bslice [(.str [])] 1 [(0, (.t 70))]⟩,
  ⟨(some 72), none, .mkfn 74 [(.t 2), (.t 3)]⟩,
  ⟨(some 73), none, .call 0 [] (.c (.fn 73 [])) [(.t 68), (.t 71), (.t 72)]⟩])
 (.seq (.reg [⟨(some 75), none, .bin .eql (.t 10) (.c (.int .i64 9))⟩,
  ⟨(some 74), none, .mov (.t 75)⟩])
 (.cond (.t 74) (.seq (.reg [⟨(some 4), none, .mov (.c (.sl .clip []))⟩])
 (.seq (.seq (.reg [⟨(some 76), none, .faddr 8 (.t 3)⟩,
  ⟨(some 77), none, .load none (.t 76)⟩,
  ⟨(some 78), none, .len 1 (.t 77)⟩,
  ⟨(some 79), none, .mov (.c (.int .i64 0))⟩])
 (.block 3 (.loop [2, 3, 4, 77, 78, 79] [] (.seq (.reg [⟨(some 80), none, .bin .lss (.t 79) (.t 78)⟩])
 (.seq (.cond (.t 80) .skip
 (.exit 3))
 (.seq (.block 4 (.seq (.reg [⟨(some 81), none, .iaddr 13 (.t 77) (.t 79)⟩,
  ⟨(some 82), none, .load (some 13) (.t 81)⟩,
  ⟨(some 6), none, .alloc [(.str []), (.int .i64 0), (.str []), (.sl .clip []), (.int .i64 0), (.str []), (.int .i64 0), (.int .i64 0), (.str []), (.sl .clip []), (.sl .clip []), (.sl .clip []), (.sl .clip [])] false⟩,
  ⟨none, none, .store 13 (.t 6) (.t 82)⟩])
 (.reg [⟨(some 83), none, .mov (.t 4)⟩,
  ⟨(some 84), none, .faddr 0 (.t 6)⟩,
  ⟨(some 85), none, .load none (.t 84)⟩,
  ⟨(some 86), none, .bslice [(.str [])] 1 [(0, (.t 85))]⟩,
  ⟨(some 87), none, .append 1 (.t 83) (.t 86)⟩,
  ⟨(some 4), none, .mov (.t 87)⟩])))
 (.reg [⟨(some 88), none, .bin .add (.t 79) (.c (.int .i64 1))⟩,
  ⟨(some 79), none, .mov (.t 88)⟩])))))))
 (.reg [⟨(some 89), none, .load none (.t 2)⟩,
  ⟨(some 90), none, .mov (.t 4)⟩,
  ⟨(some 91), none, .mkfn 76 [(.t 3), (.t 2)]⟩,
  ⟨(some 92), none, .call 0 [] (.c (.fn 73 [])) [(.t 89), (.t 90), (.t 91)]⟩])))
 (.seq (.reg [⟨(some 11), none, .load none (.t 2)⟩,
  ⟨(some 12), none, .faddr 6 (.t 3)⟩,
  ⟨(some 13), none, .load none (.t 12)⟩,
  ⟨(some 14), none, .call 0 [] (.c (.fn 75 [])) [(.t 11), (.t 13)]⟩])
 (.seq (.reg [⟨(some 15), none, .faddr 7 (.t 3)⟩,
  ⟨(some 16), none, .load none (.t 15)⟩,
  ⟨(some 17), none, .len 1 (.t 16)⟩,
  ⟨(some 18), none, .mov (.c (.int .i64 0))⟩])
 (.block 1 (.loop [2, 16, 17, 18] [] (.seq (.reg [⟨(some 19), none, .bin .lss (.t 18) (.t 17)⟩])
 (.seq (.cond (.t 19) .skip
 (.exit 1))
 (.seq (.block 2 (.seq (.reg [⟨(some 20), none, .iaddr 11 (.t 16) (.t 18)⟩,
  ⟨(some 21), none, .load (some 11) (.t 20)⟩,
  ⟨(some 8), none, .alloc [(.str []), (.sl .clip []), (.int .i64 0), (.str []), (.int .i64 0), (.int .i64 0), (.str []), (.sl .clip []), (.sl .clip []), (.sl .clip []), (.sl .clip [])] true⟩,
  ⟨none, none, .store 11 (.t 8) (.t 21)⟩])
 (.reg [⟨(some 22), none, .loadL none (.t 2)⟩,
  ⟨(some 23), none, .faddr 1 (.t 8)⟩,
  ⟨(some 24), none, .load none (.t 23)⟩,
  ⟨(some 25), none, .call 0 [] (.c (.fn 54 [])) [(.t 24)]⟩,
  ⟨(some 26), none, .mkfn 77 [(.t 2), (.t 8)]⟩,
  ⟨(some 27), none, .call 0 [] (.c (.fn 73 [])) [(.t 22), (.t 25), (.t 26)]⟩])))
 (.reg [⟨(some 28), none, .bin .add (.t 18) (.c (.int .i64 1))⟩,
  ⟨(some 18), none, .mov (.t 28)⟩]))))))))))))))))),
  [], false, false, 93⟩
theorem co56 : compF Tryd.prog ⟨[8], [(4, [2, 16, 17, 18], []), (17, [2, 3, 4, 77, 78, 79], [])], [], [], [2, 3], [], 56, [], [], []⟩ false false Tryd.f56 = some ac56 := by kernel_rfl

/-- (*paideia/norm.norm).app -/
def ac57 : AF := ⟨(.seq (.reg [⟨(some 3), none, .box (.t 1) 9 false⟩,
  ⟨(some 4), none, .alloc [(.int .i64 0), (.str []), (.int .i64 0), (.int .i64 0), (.str []), (.sl .clip []), (.sl .clip []), (.sl .clip []), (.sl .clip [])] false⟩])
 (.seq (.reg [⟨(some 8), none, .mov (.t 0)⟩,
  ⟨(some 9), none, .faddr 6 (.t 3)⟩,
  ⟨(some 10), none, .load none (.t 9)⟩,
  ⟨(some 11), none, .iaddr 9 (.t 10) (.c (.int .i64 0))⟩,
  ⟨(some 12), none, .load (some 9) (.t 11)⟩,
  ⟨(some 13), none, .call 0 [] (.c (.fn 32 [])) [(.t 8), (.t 12)]⟩,
  ⟨(some 14), none, .mov (.t 0)⟩,
  ⟨(some 15), none, .faddr 6 (.t 3)⟩,
  ⟨(some 16), none, .loadL none (.t 15)⟩,
  ⟨(some 17), none, .iaddr 9 (.t 16) (.c (.int .i64 1))⟩,
  ⟨(some 18), none, .loadL (some 9) (.t 17)⟩,
  ⟨(some 19), none, .call 0 [] (.c (.fn 32 [])) [(.t 14), (.t 18)]⟩,
  ⟨(some 5), none, .alloc [(.int .i64 0), (.str []), (.int .i64 0), (.int .i64 0), (.str []), (.sl .clip []), (.sl .clip []), (.sl .clip []), (.sl .clip [])] false⟩,
  ⟨(some 6), none, .alloc [(.int .i64 0), (.str []), (.int .i64 0), (.int .i64 0), (.str []), (.sl .clip []), (.sl .clip []), (.sl .clip []), (.sl .clip [])] false⟩,
  ⟨none, none, .store 9 (.t 5) (.t 13)⟩,
  ⟨none, none, .store 9 (.t 6) (.t 19)⟩])
 (.seq (.seq (.reg [⟨(some 20), none, .load (some 9) (.t 6)⟩,
  ⟨(some 21), none, .call 0 [] (.c (.fn 52 [])) [(.t 20)]⟩])
 (.cond (.t 21) (.seq (.reg [⟨(some 22), none, .load (some 9) (.t 5)⟩,
  ⟨(some 23), none, .load (some 9) (.t 6)⟩,
  ⟨(some 24), none, .bslice [(.int .i64 0), (.str []), (.int .i64 0), (.int .i64 0), (.str []), (.sl .clip []), (.sl .clip []), (.sl .clip []), (.sl .clip [])] 1 [(0, (.t 23))]⟩,
  ⟨(some 25), none, .call 0 [] (.c (.fn 18 [])) [(.t 22), (.t 24)]⟩,
  ⟨none, none, .store 9 (.t 4) (.t 25)⟩])
 .ret)
 .skip))
 (.seq (.reg [⟨(some 26), none, .mov (.t 0)⟩,
  ⟨(some 27), none, .call 0 [] (.c (.fn 78 [])) [(.t 26)]⟩,
  ⟨(some 7), none, .mov (.t 27)⟩])
 (.seq (.reg [⟨(some 28), none, .mov (.t 7)⟩,
  ⟨(some 29), none, .loadL (some 9) (.t 6)⟩,
  ⟨(some 30), none, .build [(.str []), (.int .i64 0), (.str []), (.sl .clip []), (.int .i64 0), (.str []), (.int .i64 0), (.int .i64 0), (.str []), (.sl .clip []), (.sl .clip []), (.sl .clip []), (.sl .clip [])] [(0, 1, (.t 28)), (4, 9, (.t 29))]⟩,
  ⟨(some 31), none, .bslice [(.str []), (.int .i64 0), (.str []), (.sl .clip []), (.int .i64 0), (.str []), (.int .i64 0), (.int .i64 0), (.str []), (.sl .clip []), (.sl .clip []), (.sl .clip []), (.sl .clip [])] 1 [(0, (.t 30))]⟩,
  ⟨(some 32), none, .loadL (some 9) (.t 5)⟩,
  ⟨(some 33), none, .mov (.t 7)⟩,
  ⟨(some 34), none, .call 0 [] (.c (.fn 14 [])) [(.t 33)]⟩,
  ⟨(some 35), none, .bslice [(.int .i64 0), (.str []), (.int .i64 0), (.int .i64 0), (.str []), (.sl .clip []), (.sl .clip []), (.sl .clip []), (.sl .clip [])] 1 [(0, (.t 34))]⟩,
  ⟨(some 36), none, .call 0 [] (.c (.fn 18 [])) [(.t 32), (.t 35)]⟩,
  ⟨(some 37), none, .bslice [(.int .i64 0), (.str []), (.int .i64 0), (.int .i64 0), (.str []), (.sl .clip []), (.sl .clip []), (.sl .clip []), (.sl .clip [])] 1 [(0, (.t 36))]⟩,
  ⟨(some 38), none, .build [(.int .i64 0), (.str []), (.int .i64 0), (.int .i64 0), (.str []), (.sl .clip []), (.sl .clip []), (.sl .clip []), (.sl .clip [])] [(0, 1, (.c (.int .i64 9))), (8, 1, (.t 31)), (6, 1, (.t 37))]⟩,
  ⟨none, none, .store 9 (.t 4) (.t 38)⟩])
 .ret))))),
  [.cell 4 (some 9)], false, true, 39⟩
theorem co57 : compF Tryd.prog ⟨[], [], [], [], [], [], 57, [], [], []⟩ false true Tryd.f57 = some ac57 := by kernel_rfl

/-- (*paideia/norm.norm).with -/
def ac58 : AF := ⟨(.seq (.reg [⟨(some 6), none, .mov (.c (.sl .clip []))⟩])
 (.seq (.reg [⟨(some 13), none, .mov (.t 1)⟩,
  ⟨(some 14), none, .len 1 (.t 13)⟩,
  ⟨(some 15), none, .mkarr [(.str [])] (.t 14) (.t 14)⟩,
  ⟨(some 7), none, .mov (.t 15)⟩])
 (.seq (.reg [⟨(some 16), none, .mov (.t 1)⟩,
  ⟨(some 17), none, .len 1 (.t 16)⟩,
  ⟨(some 18), none, .mkarr [(.bool false)] (.t 17) (.t 17)⟩,
  ⟨(some 8), none, .mov (.t 18)⟩])
 (.seq (.reg [⟨(some 19), none, .mov (.t 1)⟩,
  ⟨(some 20), none, .len 1 (.t 19)⟩,
  ⟨(some 21), none, .mkarr [(.str [])] (.t 20) (.t 20)⟩,
  ⟨(some 9), none, .mov (.t 21)⟩])
 (.seq (.seq (.reg [⟨(some 22), none, .mov (.t 1)⟩,
  ⟨(some 23), none, .len 1 (.t 22)⟩,
  ⟨(some 24), none, .mov (.c (.int .i64 0))⟩])
 (.block 0 (.loop [0, 1, 2, 7, 8, 9, 22, 23, 24] [] (.seq (.reg [⟨(some 25), none, .bin .lss (.t 24) (.t 23)⟩])
 (.seq (.cond (.t 25) .skip
 (.exit 0))
 (.seq (.block 1 (.seq (.reg [⟨(some 26), none, .mov (.t 24)⟩,
  ⟨(some 27), none, .iaddr 1 (.t 22) (.t 24)⟩,
  ⟨(some 28), none, .load none (.t 27)⟩,
  ⟨(some 10), none, .mov (.t 26)⟩,
  ⟨(some 11), none, .mov (.t 28)⟩])
 (.seq (.reg [⟨(some 30), none, .mov (.t 7)⟩,
  ⟨(some 31), none, .mov (.t 10)⟩,
  ⟨(some 32), none, .mov (.t 8)⟩,
  ⟨(some 33), none, .mov (.t 10)⟩,
  ⟨(some 34), none, .mov (.t 0)⟩,
  ⟨(some 35), none, .nilck (.t 34)⟩,
  ⟨(some 36), none, .faddr 2 (.t 35)⟩,
  ⟨(some 37), none, .load none (.t 36)⟩,
  ⟨(some 38), none, .mov (.t 11)⟩,
  ⟨(some 39), none, .lookup .str (.str []) (.t 37) (.t 38) true⟩,
  ⟨(some 29), none, .mov (.t 39)⟩,
  ⟨(some 40), none, .extract (.t 29) 0⟩,
  ⟨(some 41), none, .extract (.t 29) 1⟩,
  ⟨(some 42), none, .iaddr 1 (.t 30) (.t 31)⟩,
  ⟨none, none, .store 1 (.t 42) (.t 40)⟩,
  ⟨(some 43), none, .iaddr 1 (.t 32) (.t 33)⟩,
  ⟨none, none, .store 1 (.t 43) (.t 41)⟩])
 (.seq (.reg [⟨(some 44), none, .mov (.t 9)⟩,
  ⟨(some 45), none, .mov (.t 10)⟩,
  ⟨(some 46), none, .mov (.t 11)⟩,
  ⟨(some 47), none, .iaddr 1 (.t 44) (.t 45)⟩,
  ⟨none, none, .store 1 (.t 47) (.t 46)⟩])
 (.seq (.reg [⟨(some 48), none, .mov (.t 11)⟩,
  ⟨(some 49), none, .bin .neq (.t 48) (.c (.str [95]))⟩])
 (.cond (.t 49) (.seq (.reg [⟨(some 50), none, .mov (.t 9)⟩,
  ⟨(some 51), none, .mov (.t 10)⟩,
  ⟨(some 52), none, .mov (.t 0)⟩,
  ⟨(some 53), none, .call 0 [] (.c (.fn 78 [])) [(.t 52)]⟩,
  ⟨(some 54), none, .iaddr 1 (.t 50) (.t 51)⟩,
  ⟨none, none, .store 1 (.t 54) (.t 53)⟩])
 (.reg [⟨(some 55), none, .mov (.t 0)⟩,
  ⟨(some 56), none, .nilck (.t 55)⟩,
  ⟨(some 57), none, .faddr 2 (.t 56)⟩,
  ⟨(some 58), none, .load none (.t 57)⟩,
  ⟨(some 59), none, .mov (.t 11)⟩,
  ⟨(some 60), none, .mov (.t 9)⟩,
  ⟨(some 61), none, .mov (.t 10)⟩,
  ⟨(some 62), none, .iaddr 1 (.t 60) (.t 61)⟩,
  ⟨(some 63), none, .load none (.t 62)⟩,
  ⟨none, none, .mapset .str (.t 58) (.t 59) (.t 63)⟩]))
 .skip))))))
 (.reg [⟨(some 64), none, .bin .add (.t 24) (.c (.int .i64 1))⟩,
  ⟨(some 24), none, .mov (.t 64)⟩])))))))
 (.seq (.reg [⟨(some 65), none, .mov (.t 2)⟩,
  ⟨(some 66), none, .call 0 [] (.t 65) []⟩])
 (.seq (.seq (.reg [⟨(some 67), none, .mov (.t 1)⟩,
  ⟨(some 68), none, .len 1 (.t 67)⟩,
  ⟨(some 69), none, .bin .sub (.t 68) (.c (.int .i64 1))⟩,
  ⟨(some 12), none, .mov (.t 69)⟩])
 (.block 2 (.loop [0, 1, 7, 8, 9, 12] [] (.seq (.seq (.reg [⟨(some 70), none, .mov (.t 12)⟩,
  ⟨(some 71), none, .bin .geq (.t 70) (.c (.int .i64 0))⟩])
 (.cond (.t 71) .skip
 (.exit 2)))
 (.seq (.block 3 (.seq (.reg [⟨(some 74), none, .mov (.t 8)⟩,
  ⟨(some 75), none, .mov (.t 12)⟩,
  ⟨(some 76), none, .iaddr 1 (.t 74) (.t 75)⟩,
  ⟨(some 77), none, .load none (.t 76)⟩])
 (.cond (.t 77) (.reg [⟨(some 78), none, .mov (.t 0)⟩,
  ⟨(some 79), none, .nilck (.t 78)⟩,
  ⟨(some 80), none, .faddr 2 (.t 79)⟩,
  ⟨(some 81), none, .load none (.t 80)⟩,
  ⟨(some 82), none, .mov (.t 1)⟩,
  ⟨(some 83), none, .mov (.t 12)⟩,
  ⟨(some 84), none, .iaddr 1 (.t 82) (.t 83)⟩,
  ⟨(some 85), none, .load none (.t 84)⟩,
  ⟨(some 86), none, .mov (.t 7)⟩,
  ⟨(some 87), none, .mov (.t 12)⟩,
  ⟨(some 88), none, .iaddr 1 (.t 86) (.t 87)⟩,
  ⟨(some 89), none, .load none (.t 88)⟩,
  ⟨none, none, .mapset .str (.t 81) (.t 85) (.t 89)⟩])
 (.reg [⟨(some 90), none, .mov (.t 0)⟩,
  ⟨(some 91), none, .nilck (.t 90)⟩,
  ⟨(some 92), none, .faddr 2 (.t 91)⟩,
  ⟨(some 93), none, .load none (.t 92)⟩,
  ⟨(some 94), none, .mov (.t 1)⟩,
  ⟨(some 95), none, .mov (.t 12)⟩,
  ⟨(some 96), none, .iaddr 1 (.t 94) (.t 95)⟩,
  ⟨(some 97), none, .load none (.t 96)⟩,
  ⟨none, none, .delete .str (.t 93) (.t 97)⟩]))))
 (.reg [⟨(some 72), none, .mov (.t 12)⟩,
  ⟨(some 73), none, .bin .sub (.t 72) (.c (.int .i64 1))⟩,
  ⟨(some 12), none, .mov (.t 73)⟩]))))))
 (.seq (.reg [⟨(some 98), none, .mov (.t 9)⟩,
  ⟨(some 6), none, .mov (.t 98)⟩])
 .ret)))))))),
  [.t 6], false, false, 99⟩
theorem co58 : compF Tryd.prog ⟨[], [(5, [0, 1, 2, 7, 8, 9, 22, 23, 24], []), (15, [0, 1, 7, 8, 9, 12], [])], [], [], [], [15, 18, 21], 58, [], [], []⟩ false false Tryd.f58 = some ac58 := by kernel_rfl

/-- (*paideia/norm.norm).term$1 -/
def ac59 : AF := ⟨(.reg [⟨(some 3), none, .load none (.t 0)⟩,
  ⟨(some 4), none, .faddr 6 (.t 1)⟩,
  ⟨(some 5), none, .load none (.t 4)⟩,
  ⟨(some 6), none, .call 0 [] (.c (.fn 60 [])) [(.t 3), (.t 5)]⟩,
  ⟨(some 7), none, .faddr 6 (.t 2)⟩,
  ⟨none, none, .store 1 (.t 7) (.t 6)⟩]),
  [], false, true, 8⟩
theorem co59 : compF Tryd.prog ⟨[], [], [], [], [], [], 59, [], [], []⟩ false true Tryd.f59 = some ac59 := by kernel_rfl

/-- (*paideia/norm.norm).all -/
def ac60 : AF := ⟨(.seq (.reg [⟨(some 4), none, .mov (.c (.sl .clip []))⟩])
 (.seq (.reg [⟨(some 5), none, .mov (.c (.sl .clip []))⟩])
 (.seq (.seq (.reg [⟨(some 8), none, .mov (.t 1)⟩,
  ⟨(some 9), none, .len 1 (.t 8)⟩,
  ⟨(some 10), none, .mov (.c (.int .i64 0))⟩])
 (.block 0 (.loop [0, 5, 8, 9, 10] [] (.seq (.reg [⟨(some 11), none, .bin .lss (.t 10) (.t 9)⟩])
 (.seq (.cond (.t 11) .skip
 (.exit 0))
 (.seq (.block 1 (.seq (.reg [⟨(some 12), none, .iaddr 9 (.t 8) (.t 10)⟩,
  ⟨(some 13), none, .load (some 9) (.t 12)⟩,
  ⟨(some 7), none, .alloc [(.int .i64 0), (.str []), (.int .i64 0), (.int .i64 0), (.str []), (.sl .clip []), (.sl .clip []), (.sl .clip []), (.sl .clip [])] false⟩,
  ⟨none, none, .store 9 (.t 7) (.t 13)⟩])
 (.reg [⟨(some 14), none, .mov (.t 5)⟩,
  ⟨(some 15), none, .mov (.t 0)⟩,
  ⟨(some 16), none, .load (some 9) (.t 7)⟩,
  ⟨(some 17), none, .call 0 [] (.c (.fn 32 [])) [(.t 15), (.t 16)]⟩,
  ⟨(some 18), none, .bslice [(.int .i64 0), (.str []), (.int .i64 0), (.int .i64 0), (.str []), (.sl .clip []), (.sl .clip []), (.sl .clip []), (.sl .clip [])] 1 [(0, (.t 17))]⟩,
  ⟨(some 19), none, .append 9 (.t 14) (.t 18)⟩,
  ⟨(some 5), none, .mov (.t 19)⟩])))
 (.reg [⟨(some 20), none, .bin .add (.t 10) (.c (.int .i64 1))⟩,
  ⟨(some 10), none, .mov (.t 20)⟩])))))))
 (.seq (.reg [⟨(some 21), none, .mov (.t 5)⟩,
  ⟨(some 4), none, .mov (.t 21)⟩])
 .ret)))),
  [.t 4], false, true, 22⟩
theorem co60 : compF Tryd.prog ⟨[], [(3, [0, 5, 8, 9, 10], [])], [], [], [], [], 60, [], [], []⟩ false true Tryd.f60 = some ac60 := by kernel_rfl

/-- (*paideia/norm.norm).let -/
def ac61 : AF := ⟨(.seq (.reg [⟨(some 2), none, .fbox (.t 0) 1⟩,
  ⟨(some 3), none, .fbox (.t 1) 9⟩,
  ⟨(some 4), none, .alloc [(.int .i64 0), (.str []), (.int .i64 0), (.int .i64 0), (.str []), (.sl .clip []), (.sl .clip []), (.sl .clip []), (.sl .clip [])] false⟩])
 (.seq (.reg [⟨(some 11), none, .build [(.int .i64 0), (.str []), (.int .i64 0), (.int .i64 0), (.str []), (.sl .clip []), (.sl .clip []), (.sl .clip []), (.sl .clip [])] [(0, 1, (.c (.int .i64 9)))]⟩,
  ⟨(some 5), none, .alloc [(.int .i64 0), (.str []), (.int .i64 0), (.int .i64 0), (.str []), (.sl .clip []), (.sl .clip []), (.sl .clip []), (.sl .clip [])] true⟩,
  ⟨none, none, .store 9 (.t 5) (.t 11)⟩])
 (.seq (.reg [⟨(some 6), none, .mov (.c (.sl .clip []))⟩])
 (.seq (.seq (.reg [⟨(some 12), none, .faddr 8 (.t 3)⟩,
  ⟨(some 13), none, .load none (.t 12)⟩,
  ⟨(some 14), none, .len 1 (.t 13)⟩,
  ⟨(some 15), none, .mov (.c (.int .i64 0))⟩])
 (.block 0 (.loop [2, 3, 5, 6, 13, 14, 15] [4] (.seq (.reg [⟨(some 16), none, .bin .lss (.t 15) (.t 14)⟩])
 (.seq (.cond (.t 16) .skip
 (.exit 0))
 (.seq (.block 1 (.seq (.reg [⟨(some 17), none, .iaddr 13 (.t 13) (.t 15)⟩,
  ⟨(some 18), none, .load (some 13) (.t 17)⟩,
  ⟨(some 8), none, .alloc [(.str []), (.int .i64 0), (.str []), (.sl .clip []), (.int .i64 0), (.str []), (.int .i64 0), (.int .i64 0), (.str []), (.sl .clip []), (.sl .clip []), (.sl .clip []), (.sl .clip [])] false⟩,
  ⟨none, none, .store 13 (.t 8) (.t 18)⟩])
 (.reg [⟨(some 19), none, .mov (.t 6)⟩,
  ⟨(some 20), none, .faddr 0 (.t 8)⟩,
  ⟨(some 21), none, .load none (.t 20)⟩,
  ⟨(some 22), none, .bslice [(.str [])] 1 [(0, (.t 21))]⟩,
  ⟨(some 23), none, .append 1 (.t 19) (.t 22)⟩,
  ⟨(some 6), none, .mov (.t 23)⟩])))
 (.reg [⟨(some 24), none, .bin .add (.t 15) (.c (.int .i64 1))⟩,
  ⟨(some 15), none, .mov (.t 24)⟩])))))))
 (.seq (.reg [⟨(some 25), none, .load none (.t 2)⟩,
  ⟨(some 26), none, .mov (.t 6)⟩,
  ⟨(some 27), none, .mkfn 79 [(.t 3), (.t 5), (.t 2)]⟩,
  ⟨(some 28), none, .call 0 [] (.c (.fn 58 [])) [(.t 25), (.t 26), (.t 27)]⟩,
  ⟨(some 9), none, .mov (.t 28)⟩])
 (.seq (.seq (.reg [⟨(some 29), none, .faddr 8 (.t 5)⟩,
  ⟨(some 30), none, .load none (.t 29)⟩,
  ⟨(some 31), none, .len 1 (.t 30)⟩,
  ⟨(some 32), none, .mov (.c (.int .i64 0))⟩])
 (.block 2 (.loop [5, 9, 31, 32] [4] (.seq (.reg [⟨(some 33), none, .bin .lss (.t 32) (.t 31)⟩])
 (.seq (.cond (.t 33) .skip
 (.exit 2))
 (.seq (.block 3 (.seq (.reg [⟨(some 34), none, .mov (.t 32)⟩,
  ⟨(some 10), none, .mov (.t 34)⟩])
 (.reg [⟨(some 35), none, .faddr 8 (.t 5)⟩,
  ⟨(some 36), none, .load none (.t 35)⟩,
  ⟨(some 37), none, .mov (.t 10)⟩,
  ⟨(some 38), none, .mov (.t 9)⟩,
  ⟨(some 39), none, .mov (.t 10)⟩,
  ⟨(some 40), none, .iaddr 1 (.t 38) (.t 39)⟩,
  ⟨(some 41), none, .load none (.t 40)⟩,
  ⟨(some 42), none, .iaddr 13 (.t 36) (.t 37)⟩,
  ⟨(some 43), none, .faddr 0 (.t 42)⟩,
  ⟨none, none, .store 1 (.t 43) (.t 41)⟩])))
 (.reg [⟨(some 44), none, .bin .add (.t 32) (.c (.int .i64 1))⟩,
  ⟨(some 32), none, .mov (.t 44)⟩])))))))
 (.seq (.reg [⟨(some 45), none, .load (some 9) (.t 5)⟩,
  ⟨none, none, .store 9 (.t 4) (.t 45)⟩])
 .ret))))))),
  [.cell 4 (some 9)], false, true, 46⟩
theorem co61 : compF Tryd.prog ⟨[5], [(4, [2, 3, 5, 6, 13, 14, 15], [4]), (10, [5, 9, 31, 32], [4])], [], [], [2, 3], [], 61, [], [], []⟩ false true Tryd.f61 = some ac61 := by kernel_rfl

/-- (*paideia/norm.norm).term$2 -/
def ac62 : AF := ⟨(.reg [⟨(some 3), none, .load none (.t 0)⟩,
  ⟨(some 4), none, .faddr 2 (.t 1)⟩,
  ⟨(some 5), none, .load (some 9) (.t 4)⟩,
  ⟨(some 6), none, .call 0 [] (.c (.fn 32 [])) [(.t 3), (.t 5)]⟩,
  ⟨(some 7), none, .faddr 2 (.t 2)⟩,
  ⟨none, none, .store 9 (.t 7) (.t 6)⟩]),
  [], false, true, 8⟩
theorem co62 : compF Tryd.prog ⟨[], [], [], [], [], [], 62, [], [], []⟩ false true Tryd.f62 = some ac62 := by kernel_rfl

/-- (*paideia/term.free).with -/
def ac73 : AF := ⟨(.seq (.seq (.reg [⟨(some 10), none, .mov (.t 1)⟩,
  ⟨(some 11), none, .len 1 (.t 10)⟩,
  ⟨(some 12), none, .mov (.c (.int .i64 0))⟩])
 (.block 0 (.loop [0, 1, 2, 10, 11, 12] [] (.seq (.reg [⟨(some 13), none, .bin .lss (.t 12) (.t 11)⟩])
 (.seq (.cond (.t 13) .skip
 (.exit 0))
 (.seq (.block 1 (.seq (.reg [⟨(some 14), none, .iaddr 1 (.t 10) (.t 12)⟩,
  ⟨(some 15), none, .load none (.t 14)⟩,
  ⟨(some 7), none, .mov (.t 15)⟩])
 (.reg [⟨(some 16), none, .mov (.t 0)⟩,
  ⟨(some 17), none, .nilck (.t 16)⟩,
  ⟨(some 18), none, .faddr 0 (.t 17)⟩,
  ⟨(some 19), none, .load none (.t 18)⟩,
  ⟨(some 20), none, .mov (.t 7)⟩,
  ⟨(some 21), none, .lookup .str (.int .i64 0) (.t 19) (.t 20) false⟩,
  ⟨(some 22), none, .bin .add (.t 21) (.c (.int .i64 1))⟩,
  ⟨none, none, .mapset .str (.t 19) (.t 20) (.t 22)⟩])))
 (.reg [⟨(some 23), none, .bin .add (.t 12) (.c (.int .i64 1))⟩,
  ⟨(some 12), none, .mov (.t 23)⟩])))))))
 (.seq (.reg [⟨(some 24), none, .mov (.t 2)⟩,
  ⟨(some 25), none, .call 0 [] (.t 24) []⟩])
 (.seq (.reg [⟨(some 26), none, .mov (.t 1)⟩,
  ⟨(some 27), none, .len 1 (.t 26)⟩,
  ⟨(some 28), none, .mov (.c (.int .i64 0))⟩])
 (.block 2 (.loop [0, 26, 27, 28] [] (.seq (.reg [⟨(some 29), none, .bin .lss (.t 28) (.t 27)⟩])
 (.seq (.cond (.t 29) .skip
 (.exit 2))
 (.seq (.block 3 (.seq (.reg [⟨(some 30), none, .iaddr 1 (.t 26) (.t 28)⟩,
  ⟨(some 31), none, .load none (.t 30)⟩,
  ⟨(some 9), none, .mov (.t 31)⟩])
 (.reg [⟨(some 32), none, .mov (.t 0)⟩,
  ⟨(some 33), none, .nilck (.t 32)⟩,
  ⟨(some 34), none, .faddr 0 (.t 33)⟩,
  ⟨(some 35), none, .load none (.t 34)⟩,
  ⟨(some 36), none, .mov (.t 9)⟩,
  ⟨(some 37), none, .lookup .str (.int .i64 0) (.t 35) (.t 36) false⟩,
  ⟨(some 38), none, .bin .sub (.t 37) (.c (.int .i64 1))⟩,
  ⟨none, none, .mapset .str (.t 35) (.t 36) (.t 38)⟩])))
 (.reg [⟨(some 39), none, .bin .add (.t 28) (.c (.int .i64 1))⟩,
  ⟨(some 28), none, .mov (.t 39)⟩]))))))))),
  [], false, false, 40⟩
theorem co73 : compF Tryd.prog ⟨[], [(1, [0, 1, 2, 10, 11, 12], []), (7, [0, 26, 27, 28], [])], [], [], [], [], 73, [], [], []⟩ false false Tryd.f73 = some ac73 := by kernel_rfl

/-- (*paideia/term.free).term$1 -/
def ac74 : AF := ⟨(.reg [⟨(some 2), none, .load none (.t 0)⟩,
  ⟨(some 3), none, .faddr 6 (.t 1)⟩,
  ⟨(some 4), none, .load none (.t 3)⟩,
  ⟨(some 5), none, .call 0 [] (.c (.fn 75 [])) [(.t 2), (.t 4)]⟩]),
  [], false, false, 6⟩
theorem co74 : compF Tryd.prog ⟨[], [], [], [], [], [], 74, [], [], []⟩ false false Tryd.f74 = some ac74 := by kernel_rfl

/-- (*paideia/term.free).all -/
def ac75 : AF := ⟨(.seq (.reg [⟨(some 6), none, .mov (.t 1)⟩,
  ⟨(some 7), none, .len 1 (.t 6)⟩,
  ⟨(some 8), none, .mov (.c (.int .i64 0))⟩])
 (.block 0 (.loop [0, 6, 7, 8] [] (.seq (.reg [⟨(some 9), none, .bin .lss (.t 8) (.t 7)⟩])
 (.seq (.cond (.t 9) .skip
 (.exit 0))
 (.seq (.block 1 (.seq (.reg [⟨(some 10), none, .iaddr 9 (.t 6) (.t 8)⟩,
  ⟨(some 11), none, .load (some 9) (.t 10)⟩,
  ⟨(some 5), none, .alloc [(.int .i64 0), (.str []), (.int .i64 0), (.int .i64 0), (.str []), (.sl .clip []), (.sl .clip []), (.sl .clip []), (.sl .clip [])] false⟩,
  ⟨none, none, .store 9 (.t 5) (.t 11)⟩])
 (.reg [⟨(some 12), none, .mov (.t 0)⟩,
  ⟨(some 13), none, .load (some 9) (.t 5)⟩,
  ⟨(some 14), none, .call 0 [] (.c (.fn 56 [])) [(.t 12), (.t 13)]⟩])))
 (.reg [⟨(some 15), none, .bin .add (.t 8) (.c (.int .i64 1))⟩,
  ⟨(some 8), none, .mov (.t 15)⟩]))))))),
  [], false, false, 16⟩
theorem co75 : compF Tryd.prog ⟨[], [(1, [0, 6, 7, 8], [])], [], [], [], [], 75, [], [], []⟩ false false Tryd.f75 = some ac75 := by kernel_rfl

/-- (*paideia/term.free).term$2 -/
def ac76 : AF := ⟨(.seq (.seq (.reg [⟨(some 4), none, .faddr 8 (.t 0)⟩,
  ⟨(some 5), none, .load none (.t 4)⟩,
  ⟨(some 6), none, .len 1 (.t 5)⟩,
  ⟨(some 7), none, .mov (.c (.int .i64 0))⟩])
 (.block 0 (.loop [0, 1, 5, 6, 7] [] (.seq (.reg [⟨(some 8), none, .bin .lss (.t 7) (.t 6)⟩])
 (.seq (.cond (.t 8) .skip
 (.exit 0))
 (.seq (.block 1 (.seq (.reg [⟨(some 9), none, .iaddr 13 (.t 5) (.t 7)⟩,
  ⟨(some 10), none, .load (some 13) (.t 9)⟩,
  ⟨(some 3), none, .alloc [(.str []), (.int .i64 0), (.str []), (.sl .clip []), (.int .i64 0), (.str []), (.int .i64 0), (.int .i64 0), (.str []), (.sl .clip []), (.sl .clip []), (.sl .clip []), (.sl .clip [])] false⟩,
  ⟨none, none, .store 13 (.t 3) (.t 10)⟩])
 (.reg [⟨(some 11), none, .load none (.t 1)⟩,
  ⟨(some 12), none, .faddr 4 (.t 3)⟩,
  ⟨(some 13), none, .load (some 9) (.t 12)⟩,
  ⟨(some 14), none, .call 0 [] (.c (.fn 56 [])) [(.t 11), (.t 13)]⟩])))
 (.reg [⟨(some 15), none, .bin .add (.t 7) (.c (.int .i64 1))⟩,
  ⟨(some 7), none, .mov (.t 15)⟩])))))))
 (.reg [⟨(some 16), none, .load none (.t 1)⟩,
  ⟨(some 17), none, .faddr 6 (.t 0)⟩,
  ⟨(some 18), none, .load none (.t 17)⟩,
  ⟨(some 19), none, .call 0 [] (.c (.fn 75 [])) [(.t 16), (.t 18)]⟩])),
  [], false, false, 20⟩
theorem co76 : compF Tryd.prog ⟨[], [(1, [0, 1, 5, 6, 7], [])], [], [], [], [], 76, [], [], []⟩ false false Tryd.f76 = some ac76 := by kernel_rfl

/-- (*paideia/term.free).term$3 -/
def ac77 : AF := ⟨(.reg [⟨(some 2), none, .load none (.t 0)⟩,
  ⟨(some 3), none, .faddr 2 (.t 1)⟩,
  ⟨(some 4), none, .load (some 9) (.t 3)⟩,
  ⟨(some 5), none, .call 0 [] (.c (.fn 56 [])) [(.t 2), (.t 4)]⟩]),
  [], false, false, 6⟩
theorem co77 : compF Tryd.prog ⟨[], [], [], [], [], [], 77, [], [], []⟩ false false Tryd.f77 = some ac77 := by kernel_rfl

/-- (*paideia/norm.norm).fresh -/
def ac78 : AF := ⟨(.seq (.reg [⟨(some 2), none, .mov (.c (.str []))⟩])
 (.block 0 (.loop [0] [] (.block 1 (.seq (.reg [⟨(some 4), none, .mov (.t 0)⟩,
  ⟨(some 5), none, .nilck (.t 4)⟩,
  ⟨(some 6), none, .faddr 1 (.t 5)⟩,
  ⟨(some 7), none, .load none (.t 6)⟩,
  ⟨(some 8), none, .bin .add (.t 7) (.c (.int .i64 1))⟩,
  ⟨(some 9), none, .nilck (.t 4)⟩,
  ⟨(some 10), none, .faddr 1 (.t 9)⟩,
  ⟨none, none, .store 1 (.t 10) (.t 8)⟩])
 (.seq (.reg [⟨(some 11), none, .mov (.t 0)⟩,
  ⟨(some 12), none, .nilck (.t 11)⟩,
  ⟨(some 13), none, .faddr 1 (.t 12)⟩,
  ⟨(some 14), none, .load none (.t 13)⟩,
  ⟨(some 15), none, .call 0 [] (.c (.fn 88 [])) [(.t 14)]⟩,
  ⟨(some 16), none, .bin .add (.c (.str [118])) (.t 15)⟩,
  ⟨(some 3), none, .mov (.t 16)⟩])
 (.seq (.reg [⟨(some 17), none, .mov (.t 0)⟩,
  ⟨(some 18), none, .nilck (.t 17)⟩,
  ⟨(some 19), none, .faddr 0 (.t 18)⟩,
  ⟨(some 20), none, .load none (.t 19)⟩,
  ⟨(some 21), none, .mov (.t 3)⟩,
  ⟨(some 22), none, .lookup .str (.bool false) (.t 20) (.t 21) false⟩,
  ⟨(some 23), none, .not (.t 22)⟩])
 (.cond (.t 23) (.seq (.reg [⟨(some 24), none, .mov (.t 3)⟩,
  ⟨(some 2), none, .mov (.t 24)⟩])
 .ret)
 .skip)))))))),
  [.t 2], false, true, 25⟩
theorem co78 : compF Tryd.prog ⟨[], [(1, [0], [])], [], [], [], [], 78, [], [], []⟩ false true Tryd.f78 = some ac78 := by kernel_rfl

/-- (*paideia/norm.norm).let$1 -/
def ac79 : AF := ⟨(.seq (.seq (.reg [⟨(some 5), none, .faddr 8 (.t 0)⟩,
  ⟨(some 6), none, .load none (.t 5)⟩,
  ⟨(some 7), none, .len 1 (.t 6)⟩,
  ⟨(some 8), none, .mov (.c (.int .i64 0))⟩])
 (.block 0 (.loop [0, 1, 2, 6, 7, 8] [] (.seq (.reg [⟨(some 9), none, .bin .lss (.t 8) (.t 7)⟩])
 (.seq (.cond (.t 9) .skip
 (.exit 0))
 (.seq (.block 1 (.seq (.reg [⟨(some 10), none, .iaddr 13 (.t 6) (.t 8)⟩,
  ⟨(some 11), none, .load (some 13) (.t 10)⟩,
  ⟨(some 4), none, .alloc [(.str []), (.int .i64 0), (.str []), (.sl .clip []), (.int .i64 0), (.str []), (.int .i64 0), (.int .i64 0), (.str []), (.sl .clip []), (.sl .clip []), (.sl .clip []), (.sl .clip [])] false⟩,
  ⟨none, none, .store 13 (.t 4) (.t 11)⟩])
 (.reg [⟨(some 12), none, .faddr 8 (.t 1)⟩,
  ⟨(some 13), none, .loadX false none (.t 12) [] [(.t 1)]⟩,
  ⟨(some 14), none, .load none (.t 2)⟩,
  ⟨(some 15), none, .faddr 4 (.t 4)⟩,
  ⟨(some 16), none, .load (some 9) (.t 15)⟩,
  ⟨(some 17), none, .callK 0 [] (.c (.fn 32 [])) [(.t 14), (.t 16)] [(.t 1)]⟩,
  ⟨(some 18), none, .build [(.str []), (.int .i64 0), (.str []), (.sl .clip []), (.int .i64 0), (.str []), (.int .i64 0), (.int .i64 0), (.str []), (.sl .clip []), (.sl .clip []), (.sl .clip []), (.sl .clip [])] [(4, 9, (.t 17))]⟩,
  ⟨(some 19), none, .len 1 (.t 13)⟩,
  ⟨(some 20), none, .bslice [(.str []), (.int .i64 0), (.str []), (.sl .clip []), (.int .i64 0), (.str []), (.int .i64 0), (.int .i64 0), (.str []), (.sl .clip []), (.sl .clip []), (.sl .clip []), (.sl .clip [])] 1 [(0, (.c (.agg [(.str []), (.int .i64 0), (.str []), (.sl .clip []), (.int .i64 0), (.str []), (.int .i64 0), (.int .i64 0), (.str []), (.sl .clip []), (.sl .clip []), (.sl .clip []), (.sl .clip [])])))]⟩,
  ⟨(some 21), none, .appm 13 [] (.t 13) (.t 20)⟩,
  ⟨(some 22), none, .iaddr 13 (.t 21) (.t 19)⟩,
  ⟨none, none, .storeX false 13 (.t 22) (.t 18) [(.t 1)] []⟩,
  ⟨(some 23), none, .faddr 8 (.t 1)⟩,
  ⟨none, none, .storeX false 1 (.t 23) (.t 21) [] [(.t 1)]⟩])))
 (.reg [⟨(some 24), none, .bin .add (.t 8) (.c (.int .i64 1))⟩,
  ⟨(some 8), none, .mov (.t 24)⟩])))))))
 (.reg [⟨(some 25), none, .load none (.t 2)⟩,
  ⟨(some 26), none, .faddr 6 (.t 0)⟩,
  ⟨(some 27), none, .load none (.t 26)⟩,
  ⟨(some 28), none, .call 0 [] (.c (.fn 60 [])) [(.t 25), (.t 27)]⟩,
  ⟨(some 29), none, .faddr 6 (.t 1)⟩,
  ⟨none, none, .store 1 (.t 29) (.t 28)⟩])),
  [], false, false, 30⟩
theorem co79 : compF Tryd.prog ⟨[], [(1, [0, 1, 2, 6, 7, 8], [])], [], [], [21], [21], 79, [], [], [1]⟩ false false Tryd.f79 = some ac79 := by kernel_rfl

/-- strconv.Itoa -/
def ac88 : AF := ⟨(.seq (.reg [⟨(some 2), none, .mov (.c (.str []))⟩])
 (.seq (.reg [⟨(some 3), none, .mov (.t 0)⟩,
  ⟨(some 4), none, .call 0 [] (.c (.fn 98 [])) [(.t 3)]⟩,
  ⟨(some 2), none, .mov (.t 4)⟩])
 .ret)),
  [.t 2], false, true, 5⟩
theorem co88 : compF Tryd.prog ⟨[], [], [], [], [], [], 88, [], [], []⟩ false true Tryd.f88 = some ac88 := by kernel_rfl

/-- internal/strconv.Itoa -/
def ac98 : AF := ⟨(.seq (.reg [⟨(some 2), none, .mov (.c (.str []))⟩])
 (.seq (.reg [⟨(some 3), none, .mov (.t 0)⟩,
  ⟨(some 4), none, .call 0 [] (.c (.fn 64 [])) [(.t 3), (.c (.int .i64 10))]⟩,
  ⟨(some 2), none, .mov (.t 4)⟩])
 .ret)),
  [.t 2], false, true, 5⟩
theorem co98 : compF Tryd.prog ⟨[], [], [], [], [], [], 98, [], [], []⟩ false true Tryd.f98 = some ac98 := by kernel_rfl


theorem prim64 : PrimOkG Tryd.prog [] 64 itoaSP := itoaS_ok Tryd.func64 (by kernel_rfl) (by kernel_rfl) Tryd.internal_strconv_FormatInt_10_small

def ap1 : AP := fun f vr => match f, vr with
  | 73, 0 => some (.code ac73)
  | 74, 0 => some (.code ac74)
  | 75, 0 => some (.code ac75)
  | 76, 0 => some (.code ac76)
  | 77, 0 => some (.code ac77)
  | 78, 0 => some (.code ac78)
  | 79, 0 => some (.code ac79)
  | 88, 0 => some (.code ac88)
  | 98, 0 => some (.code ac98)
  | 64, 0 => some (.prim itoaSP)
  | _, _ => none

theorem table1 : TableOk Tryd.prog ap1 [] := by
  intro f vr fd h
  unfold ap1 at h
  split at h
  · cases h; exact ⟨_, _, Tryd.func73, co73, by decide, rfl⟩
  · cases h; exact ⟨_, _, Tryd.func74, co74, by decide, rfl⟩
  · cases h; exact ⟨_, _, Tryd.func75, co75, by decide, rfl⟩
  · cases h; exact ⟨_, _, Tryd.func76, co76, by decide, rfl⟩
  · cases h; exact ⟨_, _, Tryd.func77, co77, by decide, rfl⟩
  · cases h; exact ⟨_, _, Tryd.func78, co78, by decide, rfl⟩
  · cases h; exact ⟨_, _, Tryd.func79, co79, by decide, rfl⟩
  · cases h; exact ⟨_, _, Tryd.func88, co88, by decide, rfl⟩
  · cases h; exact ⟨_, _, Tryd.func98, co98, by decide, rfl⟩
  · cases h; exact prim64
  · cases h

def ap0 : AP := fun f vr => match f, vr with
  | 4, 0 => some (.code ac4)
  | 10, 0 => some (.code ac10)
  | 11, 0 => some (.code ac11)
  | 12, 0 => some (.code ac12)
  | 14, 0 => some (.code ac14)
  | 18, 0 => some (.code ac18)
  | 27, 0 => some (.code ac27)
  | 28, 0 => some (.code ac28)
  | 29, 0 => some (.code ac29)
  | 30, 0 => some (.code ac30)
  | 31, 0 => some (.code ac31)
  | 32, 0 => some (.codeF ac32)
  | 46, 0 => some (.code ac46)
  | 51, 0 => some (.code ac51)
  | 52, 0 => some (.code ac52)
  | 53, 0 => some (.code ac53)
  | 54, 0 => some (.code ac54)
  | 55, 0 => some (.code ac55)
  | 56, 0 => some (.code ac56)
  | 57, 0 => some (.code ac57)
  | 58, 0 => some (.code ac58)
  | 59, 0 => some (.code ac59)
  | 60, 0 => some (.code ac60)
  | 61, 0 => some (.codeF ac61)
  | 62, 0 => some (.code ac62)
  | f, vr => ap1 f vr

theorem table0 : TableOk Tryd.prog ap0 [] := by
  intro f vr fd h
  unfold ap0 at h
  split at h
  · cases h; exact ⟨_, _, Tryd.func4, co4, by decide, rfl⟩
  · cases h; exact ⟨_, _, Tryd.func10, co10, by decide, rfl⟩
  · cases h; exact ⟨_, _, Tryd.func11, co11, by decide, rfl⟩
  · cases h; exact ⟨_, _, Tryd.func12, co12, by decide, rfl⟩
  · cases h; exact ⟨_, _, Tryd.func14, co14, by decide, rfl⟩
  · cases h; exact ⟨_, _, Tryd.func18, co18, by decide, rfl⟩
  · cases h; exact ⟨_, _, Tryd.func27, co27, by decide, rfl⟩
  · cases h; exact ⟨_, _, Tryd.func28, co28, by decide, rfl⟩
  · cases h; exact ⟨_, _, Tryd.func29, co29, by decide, rfl⟩
  · cases h; exact ⟨_, _, Tryd.func30, co30, by decide, rfl⟩
  · cases h; exact ⟨_, _, Tryd.func31, co31, by decide, rfl⟩
  · cases h; exact ⟨_, _, Tryd.func32, co32, by decide, rfl⟩
  · cases h; exact ⟨_, _, Tryd.func46, co46, by decide, rfl⟩
  · cases h; exact ⟨_, _, Tryd.func51, co51, by decide, rfl⟩
  · cases h; exact ⟨_, _, Tryd.func52, co52, by decide, rfl⟩
  · cases h; exact ⟨_, _, Tryd.func53, co53, by decide, rfl⟩
  · cases h; exact ⟨_, _, Tryd.func54, co54, by decide, rfl⟩
  · cases h; exact ⟨_, _, Tryd.func55, co55, by decide, rfl⟩
  · cases h; exact ⟨_, _, Tryd.func56, co56, by decide, rfl⟩
  · cases h; exact ⟨_, _, Tryd.func57, co57, by decide, rfl⟩
  · cases h; exact ⟨_, _, Tryd.func58, co58, by decide, rfl⟩
  · cases h; exact ⟨_, _, Tryd.func59, co59, by decide, rfl⟩
  · cases h; exact ⟨_, _, Tryd.func60, co60, by decide, rfl⟩
  · cases h; exact ⟨_, _, Tryd.func61, co61, by decide, rfl⟩
  · cases h; exact ⟨_, _, Tryd.func62, co62, by decide, rfl⟩
  · exact table1 _ _ _ h

def ap : AP := ap0
theorem tableOk : TableOk Tryd.prog ap [] := table0

end Go.Ft
