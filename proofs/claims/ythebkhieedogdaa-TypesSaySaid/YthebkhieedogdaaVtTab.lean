/- The seat's functions on the abstract machine. -/
import Derived.Test.YthebkhieedogdaaAmX
import Derived.Test.YthebkhieedogdaaAmZ
import Derived.Test.YthebkhieedogdaaAmL
import Derived.Test.YthebkhieedogdaaAmQ
import Derived.Test.YthebkhieedogdaaProg
namespace Go.Vt
open Go.Am Go.Proofs

set_option maxRecDepth 100000
/-- paideia/paideialaw4.TypesSay: round 0 -/
def ab3_0 : AB := ⟨[45], (.reg [⟨(some 13), none, .alloc [(.int .i64 0), (.str []), (.sl .clip [])] false⟩,
  ⟨none, none, .store 3 (.t 13) (.t 45)⟩]),
 (.block 1 (.reg [⟨(some 46), none, .load none (.t 12)⟩,
  ⟨(some 47), none, .load (some 3) (.t 13)⟩,
  ⟨(some 48), none, .len 1 (.t 46)⟩,
  ⟨(some 49), none, .bslice [(.int .i64 0), (.str []), (.sl .clip [])] 1 [(0, (.c (.agg [(.int .i64 0), (.str []), (.sl .clip [])])))]⟩,
  ⟨(some 50), none, .appm 3 [(.int .i64 0), (.str []), (.sl .clip [])] (.t 46) (.t 49)⟩,
  ⟨(some 51), none, .iaddr 3 (.t 50) (.t 48)⟩,
  ⟨none, none, .storeX false 3 (.t 51) (.t 47) [(.t 12)] []⟩,
  ⟨none, none, .storeX false 1 (.t 12) (.t 50) [] []⟩]))⟩
theorem cb3_0 : ((Try.f3.body.bind fun c => ((rfs c)[192 % 64]?).map fun t => (t.1, t.2.1, t.2.2, Try.f3.ntmps)).bind (compB Try.prog ⟨[], [], [], [], [], [50], 3, [], [], []⟩)) = some ab3_0 := by kernel_rfl

/-- paideia/paideialaw4.TypesSay -/
def ac3 : AF := ⟨(.seq (.reg [⟨(some 6), none, .mov (.c (.bool false))⟩])
 (.seq (.reg [⟨(some 14), none, .call 0 [] (.c (.fn 5 [])) []⟩,
  ⟨(some 7), none, .mov (.t 14)⟩])
 (.seq (.seq (.reg [⟨(some 15), none, .mov (.t 7)⟩,
  ⟨(some 16), none, .not (.t 15)⟩])
 (.cond (.t 16) (.seq (.reg [⟨(some 6), none, .mov (.c (.bool false))⟩])
 .ret)
 .skip))
 (.seq (.seq (.reg [⟨(some 17), none, .mov (.t 0)⟩,
  ⟨(some 18), none, .len 1 (.t 17)⟩,
  ⟨(some 19), none, .bin .gtr (.t 18) (.c (.int .i64 100))⟩,
  ⟨(some 20), none, .mov (.t 19)⟩,
  ⟨(some 21), (some (20, false)), .mov (.t 1)⟩,
  ⟨(some 22), (some (20, false)), .len 1 (.t 21)⟩,
  ⟨(some 23), (some (20, false)), .bin .gtr (.t 22) (.c (.int .i64 100))⟩,
  ⟨(some 24), none, .pick (.t 20) (.c (.bool true)) (.t 23)⟩,
  ⟨(some 25), none, .mov (.t 24)⟩,
  ⟨(some 26), (some (25, false)), .mov (.t 2)⟩,
  ⟨(some 27), (some (25, false)), .len 0 (.t 26)⟩,
  ⟨(some 28), (some (25, false)), .bin .gtr (.t 27) (.c (.int .i64 40))⟩,
  ⟨(some 29), none, .pick (.t 25) (.c (.bool true)) (.t 28)⟩])
 (.cond (.t 29) (.seq (.reg [⟨(some 30), none, .mov (.t 7)⟩,
  ⟨(some 6), none, .mov (.t 30)⟩])
 .ret)
 .skip))
 (.seq (.reg [⟨(some 31), none, .mov (.t 0)⟩,
  ⟨(some 32), none, .build [(.sl .clip []), (.int .i64 0)] [(0, 1, (.t 31))]⟩,
  ⟨(some 33), none, .box (.t 32) 2 true⟩,
  ⟨(some 8), none, .mov (.t 33)⟩])
 (.seq (.reg [⟨(some 34), none, .mov (.t 8)⟩,
  ⟨(some 35), none, .call 0 [] (.c (.fn 6 [])) [(.t 34), (.c (.int .i64 4))]⟩,
  ⟨(some 9), none, .alloc [(.int .i64 0), (.str []), (.sl .clip [])] false⟩,
  ⟨none, none, .store 3 (.t 9) (.t 35)⟩])
 (.seq (.reg [⟨(some 36), none, .mov (.t 1)⟩,
  ⟨(some 37), none, .build [(.sl .clip []), (.int .i64 0)] [(0, 1, (.t 36))]⟩,
  ⟨(some 38), none, .box (.t 37) 2 true⟩,
  ⟨(some 39), none, .call 0 [] (.c (.fn 6 [])) [(.t 38), (.c (.int .i64 4))]⟩,
  ⟨(some 10), none, .alloc [(.int .i64 0), (.str []), (.sl .clip [])] false⟩,
  ⟨none, none, .store 3 (.t 10) (.t 39)⟩])
 (.seq (.reg [⟨(some 40), none, .load (some 3) (.t 9)⟩,
  ⟨(some 41), none, .bslice [(.int .i64 0), (.str []), (.sl .clip [])] 1 [(0, (.t 40))]⟩,
  ⟨(some 42), none, .build [(.int .i64 0), (.str []), (.sl .clip [])] [(0, 1, (.c (.int .i64 4))), (1, 1, (.c (.str [97]))), (2, 1, (.t 41))]⟩,
  ⟨(some 11), none, .alloc [(.int .i64 0), (.str []), (.sl .clip [])] false⟩,
  ⟨none, none, .store 3 (.t 11) (.t 42)⟩])
 (.seq (.reg [⟨(some 12), none, .alloc [(.sl .clip [])] true⟩])
 (.seq (.seq (.reg [⟨(some 43), none, .load (some 3) (.t 9)⟩,
  ⟨(some 44), none, .call 0 [] (.c (.fn 7 [])) [(.t 43)]⟩])
 (.block 0 (.rfunc (.t 44) 192 [12] [27])))
 (.seq (.reg [⟨(some 52), none, .mov (.t 7)⟩,
  ⟨(some 53), none, .mov (.t 52)⟩,
  ⟨(some 54), (some (53, true)), .load (some 3) (.t 9)⟩,
  ⟨(some 55), (some (53, true)), .load (some 3) (.t 10)⟩,
  ⟨(some 56), (some (53, true)), .bslice [(.int .i64 0), (.str []), (.sl .clip [])] 2 [(0, (.t 54)), (1, (.t 55))]⟩,
  ⟨(some 57), (some (53, true)), .call 0 [] (.c (.fn 9 [])) [(.t 56)]⟩,
  ⟨(some 58), (some (53, true)), .loadL (some 3) (.t 9)⟩,
  ⟨(some 59), (some (53, true)), .loadL (some 3) (.t 10)⟩,
  ⟨(some 60), (some (53, true)), .bslice [(.int .i64 0), (.str []), (.sl .clip [])] 2 [(0, (.t 58)), (1, (.t 59))]⟩,
  ⟨(some 61), (some (53, true)), .call 0 [] (.c (.fn 10 [])) [(.t 60)]⟩,
  ⟨(some 62), (some (53, true)), .call 0 [] (.c (.fn 8 [])) [(.t 57), (.t 61)]⟩,
  ⟨(some 63), none, .pick (.t 53) (.t 62) (.c (.bool false))⟩,
  ⟨(some 64), none, .mov (.t 63)⟩,
  ⟨(some 65), (some (64, true)), .load (some 3) (.t 11)⟩,
  ⟨(some 66), (some (64, true)), .bslice [(.int .i64 0), (.str []), (.sl .clip [])] 1 [(0, (.t 65))]⟩,
  ⟨(some 67), (some (64, true)), .call 0 [] (.c (.fn 9 [])) [(.t 66)]⟩,
  ⟨(some 68), (some (64, true)), .loadL (some 3) (.t 11)⟩,
  ⟨(some 69), (some (64, true)), .bslice [(.int .i64 0), (.str []), (.sl .clip [])] 1 [(0, (.t 68))]⟩,
  ⟨(some 70), (some (64, true)), .call 0 [] (.c (.fn 10 [])) [(.t 69)]⟩,
  ⟨(some 71), (some (64, true)), .call 0 [] (.c (.fn 8 [])) [(.t 67), (.t 70)]⟩,
  ⟨(some 72), none, .pick (.t 64) (.t 71) (.c (.bool false))⟩,
  ⟨(some 73), none, .mov (.t 72)⟩,
  ⟨(some 74), (some (73, true)), .load (some 3) (.t 9)⟩,
  ⟨(some 75), (some (73, true)), .mov (.t 2)⟩,
  ⟨(some 76), (some (73, true)), .call 0 [] (.c (.fn 11 [])) [(.t 74), (.t 75)]⟩,
  ⟨(some 77), (some (73, true)), .loadL (some 3) (.t 9)⟩,
  ⟨(some 78), (some (73, true)), .bslice [(.int .i64 0), (.str []), (.sl .clip [])] 1 [(0, (.t 77))]⟩,
  ⟨(some 79), (some (73, true)), .call 0 [] (.c (.fn 10 [])) [(.t 78)]⟩,
  ⟨(some 80), (some (73, true)), .mov (.t 2)⟩,
  ⟨(some 81), (some (73, true)), .call 0 [] (.c (.fn 12 [])) [(.t 79), (.t 80)]⟩,
  ⟨(some 82), (some (73, true)), .eqb false (.t 76) (.t 81)⟩,
  ⟨(some 83), none, .pick (.t 73) (.t 82) (.c (.bool false))⟩,
  ⟨(some 84), none, .mov (.t 83)⟩,
  ⟨(some 85), (some (84, true)), .load (some 3) (.t 9)⟩,
  ⟨(some 86), (some (84, true)), .call 0 [] (.c (.fn 13 [])) [(.t 85)]⟩,
  ⟨(some 87), (some (84, true)), .loadL (some 3) (.t 9)⟩,
  ⟨(some 88), (some (84, true)), .call 0 [] (.c (.fn 14 [])) [(.t 87)]⟩,
  ⟨(some 89), (some (84, true)), .bin .eql (.t 86) (.t 88)⟩,
  ⟨(some 90), none, .pick (.t 84) (.t 89) (.c (.bool false))⟩,
  ⟨(some 91), none, .mov (.t 90)⟩,
  ⟨(some 92), (some (91, true)), .load none (.t 12)⟩,
  ⟨(some 93), (some (91, true)), .load (some 3) (.t 9)⟩,
  ⟨(some 94), (some (91, true)), .callK 0 [] (.c (.fn 16 [])) [(.t 93)] [(.t 12)]⟩,
  ⟨(some 95), (some (91, true)), .call 0 [] (.c (.fn 15 [])) [(.t 92), (.t 94)]⟩,
  ⟨(some 96), none, .pick (.t 91) (.t 95) (.c (.bool false))⟩,
  ⟨(some 97), none, .mov (.t 96)⟩,
  ⟨(some 98), (some (97, true)), .load (some 3) (.t 9)⟩,
  ⟨(some 99), (some (97, true)), .load (some 3) (.t 10)⟩,
  ⟨(some 100), (some (97, true)), .call 0 [] (.c (.fn 17 [])) [(.t 98), (.t 99)]⟩,
  ⟨(some 101), (some (97, true)), .loadL (some 3) (.t 9)⟩,
  ⟨(some 102), (some (97, true)), .loadL (some 3) (.t 10)⟩,
  ⟨(some 103), (some (97, true)), .call 0 [] (.c (.fn 18 [])) [(.t 101), (.t 102)]⟩,
  ⟨(some 104), (some (97, true)), .bin .eql (.t 100) (.t 103)⟩,
  ⟨(some 105), none, .pick (.t 97) (.t 104) (.c (.bool false))⟩,
  ⟨(some 106), none, .mov (.t 105)⟩,
  ⟨(some 107), (some (106, true)), .load (some 3) (.t 9)⟩,
  ⟨(some 108), (some (106, true)), .load (some 3) (.t 10)⟩,
  ⟨(some 109), (some (106, true)), .call 0 [] (.c (.fn 19 [])) [(.t 107), (.t 108)]⟩,
  ⟨(some 110), (some (106, true)), .loadL (some 3) (.t 9)⟩,
  ⟨(some 111), (some (106, true)), .loadL (some 3) (.t 10)⟩,
  ⟨(some 112), (some (106, true)), .call 0 [] (.c (.fn 20 [])) [(.t 110), (.t 111)]⟩,
  ⟨(some 113), (some (106, true)), .eqb false (.t 109) (.t 112)⟩,
  ⟨(some 114), none, .pick (.t 106) (.t 113) (.c (.bool false))⟩,
  ⟨(some 115), none, .mov (.t 114)⟩,
  ⟨(some 116), (some (115, true)), .load (some 3) (.t 9)⟩,
  ⟨(some 117), (some (115, true)), .load (some 3) (.t 9)⟩,
  ⟨(some 118), (some (115, true)), .call 0 [] (.c (.fn 19 [])) [(.t 116), (.t 117)]⟩,
  ⟨(some 119), none, .pick (.t 115) (.t 118) (.c (.bool false))⟩,
  ⟨(some 6), none, .mov (.t 119)⟩])
 .ret))))))))))),
  [.t 6], false, true, 120⟩
theorem co3 : compF Try.prog ⟨[33, 38, 12], [], [], [], [], [50], 3, [(0, [12])], [27], []⟩ false true Try.f3 = some ac3 := by kernel_rfl

/-- paideia/paideialaw4.TypesParts: round 0 -/
def ab4_0 : AB := ⟨[24], (.reg [⟨(some 7), none, .alloc [(.int .i64 0), (.str []), (.sl .clip [])] false⟩,
  ⟨none, none, .store 3 (.t 7) (.t 24)⟩]),
 (.block 1 (.seq (.seq (.reg [⟨(some 25), none, .load none (.t 5)⟩,
  ⟨(some 26), none, .bin .eql (.t 25) (.c (.int .i64 0))⟩,
  ⟨(some 27), none, .mov (.t 26)⟩,
  ⟨(some 28), (some (27, true)), .load (some 3) (.t 7)⟩,
  ⟨(some 29), (some (27, true)), .load (some 3) (.t 4)⟩,
  ⟨(some 30), (some (27, true)), .call 0 [] (.c (.fn 19 [])) [(.t 28), (.t 29)]⟩,
  ⟨(some 31), (some (27, true)), .not (.t 30)⟩,
  ⟨(some 32), none, .pick (.t 27) (.t 31) (.c (.bool false))⟩])
 (.cond (.t 32) (.seq (.reg [⟨none, none, .store 1 (.t 2) (.c (.bool false))⟩])
 .ret)
 .skip))
 (.seq (.seq (.reg [⟨(some 33), none, .faddr 0 (.t 7)⟩,
  ⟨(some 34), none, .load none (.t 33)⟩,
  ⟨(some 35), none, .bin .eql (.t 34) (.c (.int .i64 1))⟩,
  ⟨(some 36), none, .mov (.t 35)⟩,
  ⟨(some 37), (some (36, true)), .load none (.t 6)⟩,
  ⟨(some 38), (some (36, true)), .faddr 1 (.t 7)⟩,
  ⟨(some 39), (some (36, true)), .load none (.t 38)⟩,
  ⟨(some 40), (some (36, true)), .call 0 [] (.c (.fn 12 [])) [(.t 37), (.t 39)]⟩,
  ⟨(some 41), (some (36, true)), .not (.t 40)⟩,
  ⟨(some 42), none, .pick (.t 36) (.t 41) (.c (.bool false))⟩])
 (.cond (.t 42) (.reg [⟨(some 43), none, .load none (.t 6)⟩,
  ⟨(some 44), none, .faddr 1 (.t 7)⟩,
  ⟨(some 45), none, .load none (.t 44)⟩,
  ⟨(some 46), none, .bslice [(.str [])] 1 [(0, (.t 45))]⟩,
  ⟨(some 47), none, .append 1 (.t 43) (.t 46)⟩,
  ⟨none, none, .store 1 (.t 6) (.t 47)⟩])
 .skip))
 (.reg [⟨(some 48), none, .load none (.t 5)⟩,
  ⟨(some 49), none, .bin .add (.t 48) (.c (.int .i64 1))⟩,
  ⟨none, none, .store 1 (.t 5) (.t 49)⟩]))))⟩
theorem cb4_0 : ((Try.f4.body.bind fun c => ((rfs c)[256 % 64]?).map fun t => (t.1, t.2.1, t.2.2, Try.f4.ntmps)).bind (compB Try.prog ⟨[], [], [], [], [], [], 4, [], [], []⟩)) = some ab4_0 := by kernel_rfl

/-- paideia/paideialaw4.TypesParts: round 1 -/
def ab4_1 : AB := ⟨[68], .skip,
 (.block 5 (.seq (.reg [⟨(some 69), none, .load none (.t 10)⟩,
  ⟨(some 70), none, .bin .add (.t 69) (.c (.int .i64 1))⟩,
  ⟨none, none, .store 1 (.t 10) (.t 70)⟩])
 (.exit 4)))⟩
theorem cb4_1 : ((Try.f4.body.bind fun c => ((rfs c)[257 % 64]?).map fun t => (t.1, t.2.1, t.2.2, Try.f4.ntmps)).bind (compB Try.prog ⟨[], [], [], [], [], [], 4, [], [], []⟩)) = some ab4_1 := by kernel_rfl

/-- paideia/paideialaw4.TypesParts -/
def ac4 : AF := ⟨(.seq (.reg [⟨(some 2), none, .alloc [(.bool false)] true⟩])
 (.seq (.reg [⟨(some 11), none, .call 0 [] (.c (.fn 5 [])) []⟩,
  ⟨(some 3), none, .mov (.t 11)⟩])
 (.seq (.seq (.reg [⟨(some 12), none, .mov (.t 3)⟩,
  ⟨(some 13), none, .not (.t 12)⟩])
 (.cond (.t 13) (.seq (.reg [⟨none, none, .store 1 (.t 2) (.c (.bool false))⟩])
 .ret)
 .skip))
 (.seq (.seq (.reg [⟨(some 14), none, .mov (.t 0)⟩,
  ⟨(some 15), none, .len 1 (.t 14)⟩,
  ⟨(some 16), none, .bin .gtr (.t 15) (.c (.int .i64 100))⟩])
 (.cond (.t 16) (.seq (.reg [⟨(some 17), none, .mov (.t 3)⟩,
  ⟨none, none, .store 1 (.t 2) (.t 17)⟩])
 .ret)
 .skip))
 (.seq (.reg [⟨(some 18), none, .mov (.t 0)⟩,
  ⟨(some 19), none, .build [(.sl .clip []), (.int .i64 0)] [(0, 1, (.t 18))]⟩,
  ⟨(some 20), none, .box (.t 19) 2 true⟩,
  ⟨(some 21), none, .call 0 [] (.c (.fn 6 [])) [(.t 20), (.c (.int .i64 4))]⟩,
  ⟨(some 4), none, .alloc [(.int .i64 0), (.str []), (.sl .clip [])] true⟩,
  ⟨none, none, .store 3 (.t 4) (.t 21)⟩])
 (.seq (.reg [⟨(some 5), none, .alloc [(.int .i64 0)] true⟩,
  ⟨none, none, .store 1 (.t 5) (.c (.int .i64 0))⟩])
 (.seq (.reg [⟨(some 6), none, .alloc [(.sl .clip [])] true⟩])
 (.seq (.seq (.reg [⟨(some 22), none, .load (some 3) (.t 4)⟩,
  ⟨(some 23), none, .call 0 [] (.c (.fn 7 [])) [(.t 22)]⟩])
 (.block 0 (.rfunc (.t 23) 256 [5, 4, 2, 6] [27])))
 (.seq (.reg [⟨(some 50), none, .load (some 3) (.t 4)⟩,
  ⟨(some 51), none, .bslice [(.int .i64 0), (.str []), (.sl .clip [])] 1 [(0, (.t 50))]⟩,
  ⟨(some 52), none, .call 0 [] (.c (.fn 9 [])) [(.t 51)]⟩,
  ⟨(some 8), none, .mov (.t 52)⟩])
 (.seq (.seq (.reg [⟨(some 9), none, .mov (.c (.int .i64 0))⟩])
 (.block 2 (.loop [2, 3, 4, 5, 6, 8, 9] [] (.seq (.seq (.reg [⟨(some 53), none, .mov (.t 9)⟩,
  ⟨(some 54), none, .mov (.t 8)⟩,
  ⟨(some 55), none, .len 1 (.t 54)⟩,
  ⟨(some 56), none, .bin .lss (.t 53) (.t 55)⟩])
 (.cond (.t 56) .skip
 (.exit 2)))
 (.seq (.block 3 (.seq (.reg [⟨(some 59), none, .load (some 3) (.t 4)⟩,
  ⟨(some 60), none, .mov (.t 8)⟩,
  ⟨(some 61), none, .mov (.t 9)⟩,
  ⟨(some 62), none, .iaddr 1 (.t 60) (.t 61)⟩,
  ⟨(some 63), none, .load none (.t 62)⟩,
  ⟨(some 64), none, .call 0 [] (.c (.fn 11 [])) [(.t 59), (.t 63)]⟩,
  ⟨(some 65), none, .not (.t 64)⟩])
 (.cond (.t 65) (.seq (.reg [⟨none, none, .store 1 (.t 2) (.c (.bool false))⟩])
 .ret)
 .skip)))
 (.reg [⟨(some 57), none, .mov (.t 9)⟩,
  ⟨(some 58), none, .bin .add (.t 57) (.c (.int .i64 1))⟩,
  ⟨(some 9), none, .mov (.t 58)⟩]))))))
 (.seq (.reg [⟨(some 10), none, .alloc [(.int .i64 0)] true⟩,
  ⟨none, none, .store 1 (.t 10) (.c (.int .i64 0))⟩])
 (.seq (.seq (.reg [⟨(some 66), none, .load (some 3) (.t 4)⟩,
  ⟨(some 67), none, .call 0 [] (.c (.fn 7 [])) [(.t 66)]⟩])
 (.block 4 (.rfunc (.t 67) 257 [10] [27])))
 (.seq (.reg [⟨(some 71), none, .mov (.t 3)⟩,
  ⟨(some 72), none, .mov (.t 71)⟩,
  ⟨(some 73), (some (72, true)), .load none (.t 5)⟩,
  ⟨(some 74), (some (72, true)), .load (some 3) (.t 4)⟩,
  ⟨(some 75), (some (72, true)), .callK 0 [] (.c (.fn 13 [])) [(.t 74)] [(.t 5)]⟩,
  ⟨(some 76), (some (72, true)), .bin .eql (.t 73) (.t 75)⟩,
  ⟨(some 77), none, .pick (.t 72) (.t 76) (.c (.bool false))⟩,
  ⟨(some 78), none, .mov (.t 77)⟩,
  ⟨(some 79), (some (78, true)), .mov (.t 8)⟩,
  ⟨(some 80), (some (78, true)), .load none (.t 6)⟩,
  ⟨(some 81), (some (78, true)), .call 0 [] (.c (.fn 8 [])) [(.t 79), (.t 80)]⟩,
  ⟨(some 82), none, .pick (.t 78) (.t 81) (.c (.bool false))⟩,
  ⟨(some 83), none, .mov (.t 82)⟩,
  ⟨(some 84), (some (83, true)), .load (some 3) (.t 4)⟩,
  ⟨(some 85), (some (83, true)), .call 0 [] (.c (.fn 11 [])) [(.t 84), (.c (.str [122, 122]))]⟩,
  ⟨(some 86), (some (83, true)), .not (.t 85)⟩,
  ⟨(some 87), none, .pick (.t 83) (.t 86) (.c (.bool false))⟩,
  ⟨(some 88), none, .mov (.t 87)⟩,
  ⟨(some 89), (some (88, true)), .load none (.t 10)⟩,
  ⟨(some 90), (some (88, true)), .bin .eql (.t 89) (.c (.int .i64 1))⟩,
  ⟨(some 91), none, .pick (.t 88) (.t 90) (.c (.bool false))⟩,
  ⟨none, none, .store 1 (.t 2) (.t 91)⟩])
 .ret))))))))))))),
  [.cell 2 none], false, true, 92⟩
theorem co4 : compF Try.prog ⟨[2, 20, 4, 5, 6, 10], [(18, [2, 3, 4, 5, 6, 8, 9], [])], [], [], [], [], 4, [(0, [5, 4, 2, 6]), (1, [10])], [27], []⟩ false true Try.f4 = some ac4 := by kernel_rfl

/-- paideia/paideialaw4.first -/
def ac5 : AF := ⟨(.seq (.reg [⟨(some 0), none, .mov (.c (.bool false))⟩])
 (.seq (.reg [⟨(some 3), none, .call 0 [] (.c (.fn 21 [])) [(.c (.str [97]))]⟩,
  ⟨(some 1), none, .alloc [(.int .i64 0), (.str []), (.sl .clip [])] false⟩,
  ⟨none, none, .store 3 (.t 1) (.t 3)⟩])
 (.seq (.reg [⟨(some 4), none, .load (some 3) (.t 1)⟩,
  ⟨(some 5), none, .load (some 3) (.t 1)⟩,
  ⟨(some 6), none, .bslice [(.int .i64 0), (.str []), (.sl .clip [])] 2 [(0, (.t 4)), (1, (.t 5))]⟩,
  ⟨(some 7), none, .call 0 [] (.c (.fn 22 [])) [(.t 6)]⟩,
  ⟨(some 8), none, .bslice [(.int .i64 0), (.str []), (.sl .clip [])] 1 [(0, (.t 7))]⟩,
  ⟨(some 9), none, .call 0 [] (.c (.fn 9 [])) [(.t 8)]⟩,
  ⟨(some 2), none, .mov (.t 9)⟩])
 (.seq (.reg [⟨(some 10), none, .mov (.t 2)⟩,
  ⟨(some 11), none, .len 1 (.t 10)⟩,
  ⟨(some 12), none, .bin .eql (.t 11) (.c (.int .i64 1))⟩,
  ⟨(some 13), none, .mov (.t 12)⟩,
  ⟨(some 14), (some (13, true)), .mov (.t 2)⟩,
  ⟨(some 15), (some (13, true)), .iaddr 1 (.t 14) (.c (.int .i64 0))⟩,
  ⟨(some 16), (some (13, true)), .load none (.t 15)⟩,
  ⟨(some 17), (some (13, true)), .bin .eql (.t 16) (.c (.str [97]))⟩,
  ⟨(some 18), none, .pick (.t 13) (.t 17) (.c (.bool false))⟩,
  ⟨(some 0), none, .mov (.t 18)⟩])
 .ret)))),
  [.t 0], false, true, 19⟩
theorem co5 : compF Try.prog ⟨[], [], [], [], [], [], 5, [], [], []⟩ false true Try.f5 = some ac5 := by kernel_rfl

/-- paideia/paideiamake.Type -/
def ac6 : AF := ⟨(.seq (.reg [⟨(some 4), none, .alloc [(.int .i64 0), (.str []), (.sl .clip [])] false⟩])
 (.seq (.reg [⟨(some 8), none, .mov (.t 0)⟩,
  ⟨(some 9), none, .call 0 [] (.c (.fn 23 [])) [(.t 8), (.c (.int .i64 9))]⟩,
  ⟨(some 5), none, .mov (.t 9)⟩])
 (.seq (.seq (.reg [⟨(some 10), none, .mov (.t 1)⟩,
  ⟨(some 11), none, .bin .lss (.t 10) (.c (.int .i64 1))⟩])
 (.cond (.t 11) (.reg [⟨(some 12), none, .mov (.t 5)⟩,
  ⟨(some 13), none, .bin .rem (.t 12) (.c (.int .i64 5))⟩,
  ⟨(some 5), none, .mov (.t 13)⟩])
 .skip))
 (.seq (.seq (.reg [⟨(some 14), none, .mov (.t 5)⟩])
 (.block 0 (.seq (.seq (.reg [⟨(some 16), none, .bin .eql (.t 14) (.c (.int .i64 0))⟩,
  ⟨(some 15), none, .mov (.t 16)⟩])
 (.cond (.t 15) .skip
 (.seq (.reg [⟨(some 17), none, .bin .eql (.t 14) (.c (.int .i64 1))⟩,
  ⟨(some 15), none, .mov (.t 17)⟩])
 (.cond (.t 15) .skip
 (.reg [⟨(some 18), none, .bin .eql (.t 14) (.c (.int .i64 2))⟩,
  ⟨(some 15), none, .mov (.t 18)⟩])))))
 (.cond (.t 15) (.seq (.reg [⟨(some 19), none, .bslice [(.str [])] 3 [(0, (.c (.str [97]))), (1, (.c (.str [98]))), (2, (.c (.str [99])))]⟩,
  ⟨(some 20), none, .mov (.t 5)⟩,
  ⟨(some 21), none, .iaddr 1 (.t 19) (.t 20)⟩,
  ⟨(some 22), none, .load none (.t 21)⟩,
  ⟨(some 23), none, .call 0 [] (.c (.fn 24 [])) [(.t 22)]⟩,
  ⟨none, none, .store 3 (.t 4) (.t 23)⟩])
 .ret)
 (.seq (.reg [⟨(some 25), none, .bin .eql (.t 14) (.c (.int .i64 3))⟩,
  ⟨(some 24), none, .mov (.t 25)⟩])
 (.cond (.t 24) (.seq (.reg [⟨(some 26), none, .call 0 [] (.c (.fn 25 [])) [(.c (.str [73, 110, 116])), (.c (.sl .clip []))]⟩,
  ⟨none, none, .store 3 (.t 4) (.t 26)⟩])
 .ret)
 (.seq (.reg [⟨(some 28), none, .bin .eql (.t 14) (.c (.int .i64 4))⟩,
  ⟨(some 27), none, .mov (.t 28)⟩])
 (.cond (.t 27) (.seq (.reg [⟨(some 29), none, .call 0 [] (.c (.fn 25 [])) [(.c (.str [66, 111, 111, 108])), (.c (.sl .clip []))]⟩,
  ⟨none, none, .store 3 (.t 4) (.t 29)⟩])
 .ret)
 (.seq (.reg [⟨(some 31), none, .bin .eql (.t 14) (.c (.int .i64 5))⟩,
  ⟨(some 30), none, .mov (.t 31)⟩])
 (.cond (.t 30) (.seq (.reg [⟨(some 32), none, .mov (.t 0)⟩,
  ⟨(some 33), none, .mov (.t 1)⟩,
  ⟨(some 34), none, .bin .sub (.t 33) (.c (.int .i64 1))⟩,
  ⟨(some 35), none, .call 0 [] (.c (.fn 6 [])) [(.t 32), (.t 34)]⟩,
  ⟨(some 36), none, .bslice [(.int .i64 0), (.str []), (.sl .clip [])] 1 [(0, (.t 35))]⟩,
  ⟨(some 37), none, .call 0 [] (.c (.fn 25 [])) [(.c (.str [76, 105, 115, 116])), (.t 36)]⟩,
  ⟨none, none, .store 3 (.t 4) (.t 37)⟩])
 .ret)
 (.seq (.reg [⟨(some 39), none, .bin .eql (.t 14) (.c (.int .i64 6))⟩,
  ⟨(some 38), none, .mov (.t 39)⟩])
 (.cond (.t 38) (.seq (.reg [⟨(some 40), none, .mov (.t 0)⟩,
  ⟨(some 41), none, .mov (.t 1)⟩,
  ⟨(some 42), none, .bin .sub (.t 41) (.c (.int .i64 1))⟩,
  ⟨(some 43), none, .call 0 [] (.c (.fn 6 [])) [(.t 40), (.t 42)]⟩,
  ⟨(some 6), none, .alloc [(.int .i64 0), (.str []), (.sl .clip [])] false⟩,
  ⟨none, none, .store 3 (.t 6) (.t 43)⟩])
 (.seq (.reg [⟨(some 44), none, .loadL (some 3) (.t 6)⟩,
  ⟨(some 45), none, .mov (.t 0)⟩,
  ⟨(some 46), none, .mov (.t 1)⟩,
  ⟨(some 47), none, .bin .sub (.t 46) (.c (.int .i64 1))⟩,
  ⟨(some 48), none, .call 0 [] (.c (.fn 6 [])) [(.t 45), (.t 47)]⟩,
  ⟨(some 49), none, .bslice [(.int .i64 0), (.str []), (.sl .clip [])] 2 [(0, (.t 44)), (1, (.t 48))]⟩,
  ⟨(some 50), none, .call 0 [] (.c (.fn 25 [])) [(.c (.str [80, 97, 105, 114])), (.t 49)]⟩,
  ⟨none, none, .store 3 (.t 4) (.t 50)⟩])
 .ret))
 .skip))))))))))))
 (.seq (.reg [⟨(some 51), none, .mov (.t 0)⟩,
  ⟨(some 52), none, .mov (.t 1)⟩,
  ⟨(some 53), none, .bin .sub (.t 52) (.c (.int .i64 1))⟩,
  ⟨(some 54), none, .call 0 [] (.c (.fn 6 [])) [(.t 51), (.t 53)]⟩,
  ⟨(some 7), none, .alloc [(.int .i64 0), (.str []), (.sl .clip [])] false⟩,
  ⟨none, none, .store 3 (.t 7) (.t 54)⟩])
 (.seq (.reg [⟨(some 55), none, .loadL (some 3) (.t 7)⟩,
  ⟨(some 56), none, .mov (.t 0)⟩,
  ⟨(some 57), none, .mov (.t 1)⟩,
  ⟨(some 58), none, .bin .sub (.t 57) (.c (.int .i64 1))⟩,
  ⟨(some 59), none, .call 0 [] (.c (.fn 6 [])) [(.t 56), (.t 58)]⟩,
  ⟨(some 60), none, .call 0 [] (.c (.fn 26 [])) [(.t 55), (.t 59)]⟩,
  ⟨none, none, .store 3 (.t 4) (.t 60)⟩])
 .ret)))))),
  [.cell 4 (some 3)], false, true, 61⟩
theorem co6 : compF Try.prog ⟨[], [], [], [], [], [], 6, [], [], []⟩ false true Try.f6 = some ac6 := by kernel_rfl

/-- paideia/types.All -/
def ac7 : AF := ⟨(.seq (.reg [⟨(some 1), none, .box (.t 0) 3 true⟩,
  ⟨(some 2), none, .mov (.c .nilfn)⟩])
 (.seq (.reg [⟨(some 3), none, .mkfn 27 [(.t 1)]⟩,
  ⟨(some 2), none, .mov (.t 3)⟩])
 .ret)),
  [.t 2], false, false, 4⟩
theorem co7 : compF Try.prog ⟨[1], [], [], [], [], [], 7, [], [], []⟩ false false Try.f7 = some ac7 := by kernel_rfl

/-- paideia/paideiaref.SameTexts -/
def ac8 : AF := ⟨(.seq (.reg [⟨(some 4), none, .mov (.c (.bool false))⟩])
 (.seq (.seq (.reg [⟨(some 7), none, .mov (.t 0)⟩,
  ⟨(some 8), none, .len 1 (.t 7)⟩,
  ⟨(some 9), none, .mov (.t 1)⟩,
  ⟨(some 10), none, .len 1 (.t 9)⟩,
  ⟨(some 11), none, .bin .neq (.t 8) (.t 10)⟩])
 (.cond (.t 11) (.seq (.reg [⟨(some 4), none, .mov (.c (.bool false))⟩])
 .ret)
 .skip))
 (.seq (.seq (.reg [⟨(some 5), none, .mov (.c (.int .i64 0))⟩])
 (.block 0 (.loop [0, 1, 5] [] (.seq (.seq (.reg [⟨(some 12), none, .mov (.t 5)⟩,
  ⟨(some 13), none, .mov (.t 0)⟩,
  ⟨(some 14), none, .len 1 (.t 13)⟩,
  ⟨(some 15), none, .bin .lss (.t 12) (.t 14)⟩])
 (.cond (.t 15) .skip
 (.exit 0)))
 (.seq (.block 1 (.seq (.reg [⟨(some 18), none, .mov (.t 0)⟩,
  ⟨(some 19), none, .mov (.t 5)⟩,
  ⟨(some 20), none, .iaddr 1 (.t 18) (.t 19)⟩,
  ⟨(some 21), none, .load none (.t 20)⟩,
  ⟨(some 22), none, .mov (.t 1)⟩,
  ⟨(some 23), none, .mov (.t 5)⟩,
  ⟨(some 24), none, .iaddr 1 (.t 22) (.t 23)⟩,
  ⟨(some 25), none, .load none (.t 24)⟩,
  ⟨(some 26), none, .bin .eql (.t 21) (.t 25)⟩,
  ⟨(some 6), none, .mov (.t 26)⟩])
 (.seq (.reg [⟨(some 27), none, .mov (.t 6)⟩,
  ⟨(some 28), none, .not (.t 27)⟩])
 (.cond (.t 28) (.seq (.reg [⟨(some 4), none, .mov (.c (.bool false))⟩])
 .ret)
 .skip))))
 (.reg [⟨(some 16), none, .mov (.t 5)⟩,
  ⟨(some 17), none, .bin .add (.t 16) (.c (.int .i64 1))⟩,
  ⟨(some 5), none, .mov (.t 17)⟩]))))))
 (.seq (.reg [⟨(some 4), none, .mov (.c (.bool true))⟩])
 .ret)))),
  [.t 4], false, true, 29⟩
theorem co8 : compF Try.prog ⟨[], [(4, [0, 1, 5], [])], [], [], [], [], 8, [], [], []⟩ false true Try.f8 = some ac8 := by kernel_rfl

/-- paideia/types.Vars -/
def ac9 : AF := ⟨(.seq (.reg [⟨(some 2), none, .mov (.c (.sl .clip []))⟩])
 (.seq (.reg [⟨(some 3), none, .mov (.c (.sl .clip []))⟩])
 (.seq (.seq (.reg [⟨(some 6), none, .mov (.t 0)⟩,
  ⟨(some 7), none, .len 1 (.t 6)⟩,
  ⟨(some 8), none, .mov (.c (.int .i64 0))⟩])
 (.block 0 (.loop [3, 6, 7, 8] [] (.seq (.reg [⟨(some 9), none, .bin .lss (.t 8) (.t 7)⟩])
 (.seq (.cond (.t 9) .skip
 (.exit 0))
 (.seq (.block 1 (.seq (.reg [⟨(some 10), none, .iaddr 3 (.t 6) (.t 8)⟩,
  ⟨(some 11), none, .load (some 3) (.t 10)⟩,
  ⟨(some 5), none, .alloc [(.int .i64 0), (.str []), (.sl .clip [])] false⟩,
  ⟨none, none, .store 3 (.t 5) (.t 11)⟩])
 (.reg [⟨(some 12), none, .load (some 3) (.t 5)⟩,
  ⟨(some 13), none, .mov (.t 3)⟩,
  ⟨(some 14), none, .call 0 [2] (.c (.fn 29 [])) [(.t 12), (.c (.sl .clip [])), (.t 13)]⟩,
  ⟨(some 3), none, .mov (.t 14)⟩])))
 (.reg [⟨(some 15), none, .bin .add (.t 8) (.c (.int .i64 1))⟩,
  ⟨(some 8), none, .mov (.t 15)⟩])))))))
 (.seq (.reg [⟨(some 16), none, .mov (.t 3)⟩,
  ⟨(some 2), none, .mov (.t 16)⟩])
 .ret)))),
  [.t 2], false, true, 17⟩
theorem co9 : compF Try.prog ⟨[], [(3, [3, 6, 7, 8], [])], [(29, 0, [2])], [], [], [], 9, [], [], []⟩ false true Try.f9 = some ac9 := by kernel_rfl

/-- paideia/paideiaref4.Vars -/
def ac10 : AF := ⟨(.seq (.reg [⟨(some 2), none, .mov (.c (.sl .clip []))⟩])
 (.seq (.reg [⟨(some 3), none, .mov (.c (.sl .clip []))⟩])
 (.seq (.seq (.reg [⟨(some 4), none, .mov (.c (.int .i64 0))⟩])
 (.block 0 (.loop [0, 3, 4] [] (.seq (.seq (.reg [⟨(some 5), none, .mov (.t 4)⟩,
  ⟨(some 6), none, .mov (.t 0)⟩,
  ⟨(some 7), none, .len 1 (.t 6)⟩,
  ⟨(some 8), none, .bin .lss (.t 5) (.t 7)⟩])
 (.cond (.t 8) .skip
 (.exit 0)))
 (.seq (.block 1 (.reg [⟨(some 11), none, .mov (.t 3)⟩,
  ⟨(some 12), none, .mov (.t 0)⟩,
  ⟨(some 13), none, .mov (.t 4)⟩,
  ⟨(some 14), none, .iaddr 3 (.t 12) (.t 13)⟩,
  ⟨(some 15), none, .load (some 3) (.t 14)⟩,
  ⟨(some 16), none, .call 0 [] (.c (.fn 30 [])) [(.t 11), (.c (.sl .clip [])), (.t 15)]⟩,
  ⟨(some 3), none, .mov (.t 16)⟩]))
 (.reg [⟨(some 9), none, .mov (.t 4)⟩,
  ⟨(some 10), none, .bin .add (.t 9) (.c (.int .i64 1))⟩,
  ⟨(some 4), none, .mov (.t 10)⟩]))))))
 (.seq (.reg [⟨(some 17), none, .mov (.t 3)⟩,
  ⟨(some 2), none, .mov (.t 17)⟩])
 .ret)))),
  [.t 2], false, true, 18⟩
theorem co10 : compF Try.prog ⟨[], [(3, [0, 3, 4], [])], [], [], [], [], 10, [], [], []⟩ false true Try.f10 = some ac10 := by kernel_rfl

/-- paideia/types.Has -/
def ac11 : AF := ⟨(.seq (.reg [⟨(some 2), none, .box (.t 0) 3 false⟩,
  ⟨(some 3), none, .box (.t 1) 1 true⟩,
  ⟨(some 4), none, .mov (.c (.bool false))⟩])
 (.seq (.seq (.reg [⟨(some 5), none, .faddr 0 (.t 2)⟩,
  ⟨(some 6), none, .load none (.t 5)⟩,
  ⟨(some 7), none, .bin .eql (.t 6) (.c (.int .i64 1))⟩,
  ⟨(some 8), none, .mov (.t 7)⟩,
  ⟨(some 9), (some (8, true)), .faddr 1 (.t 2)⟩,
  ⟨(some 10), (some (8, true)), .load none (.t 9)⟩,
  ⟨(some 11), (some (8, true)), .load none (.t 3)⟩,
  ⟨(some 12), (some (8, true)), .bin .eql (.t 10) (.t 11)⟩,
  ⟨(some 13), none, .pick (.t 8) (.t 12) (.c (.bool false))⟩])
 (.cond (.t 13) (.seq (.reg [⟨(some 4), none, .mov (.c (.bool true))⟩])
 .ret)
 .skip))
 (.seq (.seq (.reg [⟨(some 14), none, .faddr 0 (.t 2)⟩,
  ⟨(some 15), none, .load none (.t 14)⟩,
  ⟨(some 16), none, .bin .eql (.t 15) (.c (.int .i64 4))⟩,
  ⟨(some 17), none, .mov (.t 16)⟩,
  ⟨(some 18), (some (17, true)), .faddr 1 (.t 2)⟩,
  ⟨(some 19), (some (17, true)), .load none (.t 18)⟩,
  ⟨(some 20), (some (17, true)), .load none (.t 3)⟩,
  ⟨(some 21), (some (17, true)), .bin .eql (.t 19) (.t 20)⟩,
  ⟨(some 22), none, .pick (.t 17) (.t 21) (.c (.bool false))⟩])
 (.cond (.t 22) (.seq (.reg [⟨(some 4), none, .mov (.c (.bool false))⟩])
 .ret)
 .skip))
 (.seq (.reg [⟨(some 23), none, .faddr 2 (.t 2)⟩,
  ⟨(some 24), none, .load none (.t 23)⟩,
  ⟨(some 25), none, .mkfn 32 [(.t 3)]⟩,
  ⟨(some 26), none, .call 0 [] (.c (.fn 31 [])) [(.t 24), (.t 25)]⟩,
  ⟨(some 4), none, .mov (.t 26)⟩])
 .ret)))),
  [.t 4], false, true, 27⟩
theorem co11 : compF Try.prog ⟨[3], [], [], [], [], [], 11, [], [], []⟩ false true Try.f11 = some ac11 := by kernel_rfl

/-- paideia/paideiaref.Has -/
def ac12 : AF := ⟨(.seq (.reg [⟨(some 4), none, .mov (.c (.bool false))⟩])
 (.seq (.reg [⟨(some 5), none, .mov (.t 0)⟩,
  ⟨(some 6), none, .mov (.t 1)⟩,
  ⟨(some 7), none, .call 0 [] (.c (.fn 33 [])) [(.t 5), (.t 6)]⟩,
  ⟨(some 8), none, .bin .geq (.t 7) (.c (.int .i64 0))⟩,
  ⟨(some 4), none, .mov (.t 8)⟩])
 .ret)),
  [.t 4], false, true, 9⟩
theorem co12 : compF Try.prog ⟨[], [], [], [], [], [], 12, [], [], []⟩ false true Try.f12 = some ac12 := by kernel_rfl

/-- paideia/types.Size -/
def ac13 : AF := ⟨(.seq (.reg [⟨(some 1), none, .box (.t 0) 3 false⟩,
  ⟨(some 2), none, .mov (.c (.int .i64 0))⟩])
 (.seq (.reg [⟨(some 3), none, .mov (.c (.int .i64 1))⟩])
 (.seq (.seq (.reg [⟨(some 6), none, .faddr 2 (.t 1)⟩,
  ⟨(some 7), none, .load none (.t 6)⟩,
  ⟨(some 8), none, .len 1 (.t 7)⟩,
  ⟨(some 9), none, .mov (.c (.int .i64 0))⟩])
 (.block 0 (.loop [3, 7, 8, 9] [] (.seq (.reg [⟨(some 10), none, .bin .lss (.t 9) (.t 8)⟩])
 (.seq (.cond (.t 10) .skip
 (.exit 0))
 (.seq (.block 1 (.seq (.reg [⟨(some 11), none, .iaddr 3 (.t 7) (.t 9)⟩,
  ⟨(some 12), none, .load (some 3) (.t 11)⟩,
  ⟨(some 5), none, .alloc [(.int .i64 0), (.str []), (.sl .clip [])] false⟩,
  ⟨none, none, .store 3 (.t 5) (.t 12)⟩])
 (.reg [⟨(some 13), none, .mov (.t 3)⟩,
  ⟨(some 14), none, .load (some 3) (.t 5)⟩,
  ⟨(some 15), none, .call 0 [] (.c (.fn 13 [])) [(.t 14)]⟩,
  ⟨(some 16), none, .bin .add (.t 13) (.t 15)⟩,
  ⟨(some 3), none, .mov (.t 16)⟩])))
 (.reg [⟨(some 17), none, .bin .add (.t 9) (.c (.int .i64 1))⟩,
  ⟨(some 9), none, .mov (.t 17)⟩])))))))
 (.seq (.reg [⟨(some 18), none, .mov (.t 3)⟩,
  ⟨(some 2), none, .mov (.t 18)⟩])
 .ret)))),
  [.t 2], false, true, 19⟩
theorem co13 : compF Try.prog ⟨[], [(3, [3, 7, 8, 9], [])], [], [], [], [], 13, [], [], []⟩ false true Try.f13 = some ac13 := by kernel_rfl

/-- paideia/paideiaref4.Size -/
def ac14 : AF := ⟨(.seq (.reg [⟨(some 1), none, .box (.t 0) 3 false⟩,
  ⟨(some 2), none, .mov (.c (.int .i64 0))⟩])
 (.seq (.reg [⟨(some 3), none, .mov (.c (.int .i64 1))⟩])
 (.seq (.seq (.reg [⟨(some 4), none, .mov (.c (.int .i64 0))⟩])
 (.block 0 (.loop [3, 4] [1] (.seq (.seq (.reg [⟨(some 5), none, .mov (.t 4)⟩,
  ⟨(some 6), none, .faddr 2 (.t 1)⟩,
  ⟨(some 7), none, .load none (.t 6)⟩,
  ⟨(some 8), none, .len 1 (.t 7)⟩,
  ⟨(some 9), none, .bin .lss (.t 5) (.t 8)⟩])
 (.cond (.t 9) .skip
 (.exit 0)))
 (.seq (.block 1 (.reg [⟨(some 12), none, .mov (.t 3)⟩,
  ⟨(some 13), none, .faddr 2 (.t 1)⟩,
  ⟨(some 14), none, .load none (.t 13)⟩,
  ⟨(some 15), none, .mov (.t 4)⟩,
  ⟨(some 16), none, .iaddr 3 (.t 14) (.t 15)⟩,
  ⟨(some 17), none, .load (some 3) (.t 16)⟩,
  ⟨(some 18), none, .call 0 [] (.c (.fn 14 [])) [(.t 17)]⟩,
  ⟨(some 19), none, .bin .add (.t 12) (.t 18)⟩,
  ⟨(some 3), none, .mov (.t 19)⟩]))
 (.reg [⟨(some 10), none, .mov (.t 4)⟩,
  ⟨(some 11), none, .bin .add (.t 10) (.c (.int .i64 1))⟩,
  ⟨(some 4), none, .mov (.t 11)⟩]))))))
 (.seq (.reg [⟨(some 20), none, .mov (.t 3)⟩,
  ⟨(some 2), none, .mov (.t 20)⟩])
 .ret)))),
  [.t 2], false, true, 21⟩
theorem co14 : compF Try.prog ⟨[], [(3, [3, 4], [1])], [], [], [], [], 14, [], [], []⟩ false true Try.f14 = some ac14 := by kernel_rfl

/-- paideia/paideiaref.SameTypes -/
def ac15 : AF := ⟨(.seq (.reg [⟨(some 4), none, .mov (.c (.bool false))⟩])
 (.seq (.seq (.reg [⟨(some 7), none, .mov (.t 0)⟩,
  ⟨(some 8), none, .len 1 (.t 7)⟩,
  ⟨(some 9), none, .mov (.t 1)⟩,
  ⟨(some 10), none, .len 1 (.t 9)⟩,
  ⟨(some 11), none, .bin .neq (.t 8) (.t 10)⟩])
 (.cond (.t 11) (.seq (.reg [⟨(some 4), none, .mov (.c (.bool false))⟩])
 .ret)
 .skip))
 (.seq (.seq (.reg [⟨(some 5), none, .mov (.c (.int .i64 0))⟩])
 (.block 0 (.loop [0, 1, 5] [] (.seq (.seq (.reg [⟨(some 12), none, .mov (.t 5)⟩,
  ⟨(some 13), none, .mov (.t 0)⟩,
  ⟨(some 14), none, .len 1 (.t 13)⟩,
  ⟨(some 15), none, .bin .lss (.t 12) (.t 14)⟩])
 (.cond (.t 15) .skip
 (.exit 0)))
 (.seq (.block 1 (.seq (.reg [⟨(some 18), none, .mov (.t 0)⟩,
  ⟨(some 19), none, .mov (.t 5)⟩,
  ⟨(some 20), none, .iaddr 3 (.t 18) (.t 19)⟩,
  ⟨(some 21), none, .load (some 3) (.t 20)⟩,
  ⟨(some 22), none, .mov (.t 1)⟩,
  ⟨(some 23), none, .mov (.t 5)⟩,
  ⟨(some 24), none, .iaddr 3 (.t 22) (.t 23)⟩,
  ⟨(some 25), none, .load (some 3) (.t 24)⟩,
  ⟨(some 26), none, .call 0 [] (.c (.fn 20 [])) [(.t 21), (.t 25)]⟩,
  ⟨(some 6), none, .mov (.t 26)⟩])
 (.seq (.reg [⟨(some 27), none, .mov (.t 6)⟩,
  ⟨(some 28), none, .not (.t 27)⟩])
 (.cond (.t 28) (.seq (.reg [⟨(some 4), none, .mov (.c (.bool false))⟩])
 .ret)
 .skip))))
 (.reg [⟨(some 16), none, .mov (.t 5)⟩,
  ⟨(some 17), none, .bin .add (.t 16) (.c (.int .i64 1))⟩,
  ⟨(some 5), none, .mov (.t 17)⟩]))))))
 (.seq (.reg [⟨(some 4), none, .mov (.c (.bool true))⟩])
 .ret)))),
  [.t 4], false, true, 29⟩
theorem co15 : compF Try.prog ⟨[], [(4, [0, 1, 5], [])], [], [], [], [], 15, [], [], []⟩ false true Try.f15 = some ac15 := by kernel_rfl

/-- paideia/paideiaref4.All -/
def ac16 : AF := ⟨(.seq (.reg [⟨(some 1), none, .box (.t 0) 3 false⟩,
  ⟨(some 2), none, .mov (.c (.sl .clip []))⟩])
 (.seq (.reg [⟨(some 5), none, .load (some 3) (.t 1)⟩,
  ⟨(some 6), none, .bslice [(.int .i64 0), (.str []), (.sl .clip [])] 1 [(0, (.t 5))]⟩,
  ⟨(some 3), none, .mov (.t 6)⟩])
 (.seq (.seq (.reg [⟨(some 4), none, .mov (.c (.int .i64 0))⟩])
 (.block 0 (.loop [3, 4] [1] (.seq (.seq (.reg [⟨(some 7), none, .mov (.t 4)⟩,
  ⟨(some 8), none, .faddr 2 (.t 1)⟩,
  ⟨(some 9), none, .load none (.t 8)⟩,
  ⟨(some 10), none, .len 1 (.t 9)⟩,
  ⟨(some 11), none, .bin .lss (.t 7) (.t 10)⟩])
 (.cond (.t 11) .skip
 (.exit 0)))
 (.seq (.block 1 (.reg [⟨(some 14), none, .mov (.t 3)⟩,
  ⟨(some 15), none, .faddr 2 (.t 1)⟩,
  ⟨(some 16), none, .load none (.t 15)⟩,
  ⟨(some 17), none, .mov (.t 4)⟩,
  ⟨(some 18), none, .iaddr 3 (.t 16) (.t 17)⟩,
  ⟨(some 19), none, .load (some 3) (.t 18)⟩,
  ⟨(some 20), none, .call 0 [] (.c (.fn 16 [])) [(.t 19)]⟩,
  ⟨(some 21), none, .append 3 (.t 14) (.t 20)⟩,
  ⟨(some 3), none, .mov (.t 21)⟩]))
 (.reg [⟨(some 12), none, .mov (.t 4)⟩,
  ⟨(some 13), none, .bin .add (.t 12) (.c (.int .i64 1))⟩,
  ⟨(some 4), none, .mov (.t 13)⟩]))))))
 (.seq (.reg [⟨(some 22), none, .mov (.t 3)⟩,
  ⟨(some 2), none, .mov (.t 22)⟩])
 .ret)))),
  [.t 2], false, true, 23⟩
theorem co16 : compF Try.prog ⟨[], [(3, [3, 4], [1])], [], [], [], [], 16, [], [], []⟩ false true Try.f16 = some ac16 := by kernel_rfl

/-- paideia/types.Compare -/
def ac17 : AF := ⟨(.seq (.reg [⟨(some 2), none, .box (.t 0) 3 false⟩,
  ⟨(some 3), none, .box (.t 1) 3 false⟩,
  ⟨(some 4), none, .mov (.c (.int .i64 0))⟩])
 (.seq (.reg [⟨(some 5), none, .faddr 0 (.t 2)⟩,
  ⟨(some 6), none, .load none (.t 5)⟩,
  ⟨(some 7), none, .faddr 0 (.t 3)⟩,
  ⟨(some 8), none, .load none (.t 7)⟩,
  ⟨(some 9), none, .call 0 [] (.c (.fn 35 [])) [(.t 6), (.t 8)]⟩,
  ⟨(some 10), none, .faddr 1 (.t 2)⟩,
  ⟨(some 11), none, .loadL none (.t 10)⟩,
  ⟨(some 12), none, .faddr 1 (.t 3)⟩,
  ⟨(some 13), none, .loadL none (.t 12)⟩,
  ⟨(some 14), none, .call 0 [] (.c (.fn 36 [])) [(.t 11), (.t 13)]⟩,
  ⟨(some 15), none, .faddr 2 (.t 2)⟩,
  ⟨(some 16), none, .loadL none (.t 15)⟩,
  ⟨(some 17), none, .len 1 (.t 16)⟩,
  ⟨(some 18), none, .faddr 2 (.t 3)⟩,
  ⟨(some 19), none, .loadL none (.t 18)⟩,
  ⟨(some 20), none, .len 1 (.t 19)⟩,
  ⟨(some 21), none, .call 0 [] (.c (.fn 35 [])) [(.t 17), (.t 20)]⟩,
  ⟨(some 22), none, .faddr 2 (.t 2)⟩,
  ⟨(some 23), none, .loadL none (.t 22)⟩,
  ⟨(some 24), none, .faddr 2 (.t 3)⟩,
  ⟨(some 25), none, .loadL none (.t 24)⟩,
  ⟨(some 26), none, .call 0 [] (.c (.fn 37 [])) [(.t 23), (.t 25), (.c (.fn 17 []))]⟩,
  ⟨(some 27), none, .bslice [(.int .i64 0)] 4 [(0, (.t 9)), (1, (.t 14)), (2, (.t 21)), (3, (.t 26))]⟩,
  ⟨(some 28), none, .call 0 [] (.c (.fn 34 [])) [(.t 27)]⟩,
  ⟨(some 4), none, .mov (.t 28)⟩])
 .ret)),
  [.t 4], false, true, 29⟩
theorem co17 : compF Try.prog ⟨[], [], [], [], [], [], 17, [], [], []⟩ false true Try.f17 = some ac17 := by kernel_rfl

/-- paideia/paideiaref4.Compare -/
def ac18 : AF := ⟨(.seq (.reg [⟨(some 2), none, .box (.t 0) 3 false⟩,
  ⟨(some 3), none, .box (.t 1) 3 false⟩,
  ⟨(some 4), none, .mov (.c (.int .i64 0))⟩])
 (.seq (.reg [⟨(some 7), none, .faddr 0 (.t 2)⟩,
  ⟨(some 8), none, .load none (.t 7)⟩,
  ⟨(some 9), none, .faddr 0 (.t 3)⟩,
  ⟨(some 10), none, .load none (.t 9)⟩,
  ⟨(some 11), none, .call 0 [] (.c (.fn 38 [])) [(.t 8), (.t 10)]⟩,
  ⟨(some 5), none, .mov (.t 11)⟩])
 (.seq (.seq (.reg [⟨(some 12), none, .mov (.t 5)⟩,
  ⟨(some 13), none, .bin .eql (.t 12) (.c (.int .i64 0))⟩,
  ⟨(some 14), none, .mov (.t 13)⟩,
  ⟨(some 15), (some (14, true)), .faddr 1 (.t 2)⟩,
  ⟨(some 16), (some (14, true)), .load none (.t 15)⟩,
  ⟨(some 17), (some (14, true)), .faddr 1 (.t 3)⟩,
  ⟨(some 18), (some (14, true)), .load none (.t 17)⟩,
  ⟨(some 19), (some (14, true)), .bin .neq (.t 16) (.t 18)⟩,
  ⟨(some 20), none, .pick (.t 14) (.t 19) (.c (.bool false))⟩])
 (.cond (.t 20) (.seq (.reg [⟨(some 5), none, .mov (.c (.int .i64 1))⟩])
 (.seq (.reg [⟨(some 21), none, .faddr 1 (.t 2)⟩,
  ⟨(some 22), none, .load none (.t 21)⟩,
  ⟨(some 23), none, .faddr 1 (.t 3)⟩,
  ⟨(some 24), none, .load none (.t 23)⟩,
  ⟨(some 25), none, .bin .lss (.t 22) (.t 24)⟩])
 (.cond (.t 25) (.reg [⟨(some 5), none, .mov (.c (.int .i64 (-1)))⟩])
 .skip)))
 .skip))
 (.seq (.seq (.reg [⟨(some 26), none, .mov (.t 5)⟩,
  ⟨(some 27), none, .bin .eql (.t 26) (.c (.int .i64 0))⟩])
 (.cond (.t 27) (.reg [⟨(some 28), none, .faddr 2 (.t 2)⟩,
  ⟨(some 29), none, .load none (.t 28)⟩,
  ⟨(some 30), none, .len 1 (.t 29)⟩,
  ⟨(some 31), none, .faddr 2 (.t 3)⟩,
  ⟨(some 32), none, .load none (.t 31)⟩,
  ⟨(some 33), none, .len 1 (.t 32)⟩,
  ⟨(some 34), none, .call 0 [] (.c (.fn 38 [])) [(.t 30), (.t 33)]⟩,
  ⟨(some 5), none, .mov (.t 34)⟩])
 .skip))
 (.seq (.seq (.reg [⟨(some 6), none, .mov (.c (.int .i64 0))⟩])
 (.block 0 (.loop [5, 6] [2, 3] (.seq (.seq (.reg [⟨(some 35), none, .mov (.t 6)⟩,
  ⟨(some 36), none, .faddr 2 (.t 2)⟩,
  ⟨(some 37), none, .load none (.t 36)⟩,
  ⟨(some 38), none, .len 1 (.t 37)⟩,
  ⟨(some 39), none, .bin .lss (.t 35) (.t 38)⟩,
  ⟨(some 40), none, .mov (.t 39)⟩,
  ⟨(some 41), (some (40, true)), .mov (.t 5)⟩,
  ⟨(some 42), (some (40, true)), .bin .eql (.t 41) (.c (.int .i64 0))⟩,
  ⟨(some 43), none, .pick (.t 40) (.t 42) (.c (.bool false))⟩])
 (.cond (.t 43) .skip
 (.exit 0)))
 (.seq (.block 1 (.reg [⟨(some 46), none, .faddr 2 (.t 2)⟩,
  ⟨(some 47), none, .load none (.t 46)⟩,
  ⟨(some 48), none, .mov (.t 6)⟩,
  ⟨(some 49), none, .iaddr 3 (.t 47) (.t 48)⟩,
  ⟨(some 50), none, .load (some 3) (.t 49)⟩,
  ⟨(some 51), none, .faddr 2 (.t 3)⟩,
  ⟨(some 52), none, .load none (.t 51)⟩,
  ⟨(some 53), none, .mov (.t 6)⟩,
  ⟨(some 54), none, .iaddr 3 (.t 52) (.t 53)⟩,
  ⟨(some 55), none, .load (some 3) (.t 54)⟩,
  ⟨(some 56), none, .call 0 [] (.c (.fn 18 [])) [(.t 50), (.t 55)]⟩,
  ⟨(some 5), none, .mov (.t 56)⟩]))
 (.reg [⟨(some 44), none, .mov (.t 6)⟩,
  ⟨(some 45), none, .bin .add (.t 44) (.c (.int .i64 1))⟩,
  ⟨(some 6), none, .mov (.t 45)⟩]))))))
 (.seq (.reg [⟨(some 57), none, .mov (.t 5)⟩,
  ⟨(some 4), none, .mov (.t 57)⟩])
 .ret)))))),
  [.t 4], false, true, 58⟩
theorem co18 : compF Try.prog ⟨[], [(9, [5, 6], [2, 3])], [], [], [], [], 18, [], [], []⟩ false true Try.f18 = some ac18 := by kernel_rfl

/-- paideia/types.Same -/
def ac19 : AF := ⟨(.seq (.reg [⟨(some 2), none, .box (.t 0) 3 false⟩,
  ⟨(some 3), none, .box (.t 1) 3 false⟩,
  ⟨(some 4), none, .mov (.c (.bool false))⟩])
 (.seq (.reg [⟨(some 5), none, .load (some 3) (.t 2)⟩,
  ⟨(some 6), none, .load (some 3) (.t 3)⟩,
  ⟨(some 7), none, .call 0 [] (.c (.fn 17 [])) [(.t 5), (.t 6)]⟩,
  ⟨(some 8), none, .bin .eql (.t 7) (.c (.int .i64 0))⟩,
  ⟨(some 4), none, .mov (.t 8)⟩])
 .ret)),
  [.t 4], false, true, 9⟩
theorem co19 : compF Try.prog ⟨[], [], [], [], [], [], 19, [], [], []⟩ false true Try.f19 = some ac19 := by kernel_rfl

/-- paideia/paideiaref.SameType -/
def ac20 : AF := ⟨(.seq (.reg [⟨(some 2), none, .box (.t 0) 3 false⟩,
  ⟨(some 3), none, .box (.t 1) 3 false⟩,
  ⟨(some 4), none, .mov (.c (.bool false))⟩])
 (.seq (.reg [⟨(some 5), none, .faddr 0 (.t 2)⟩,
  ⟨(some 6), none, .load none (.t 5)⟩,
  ⟨(some 7), none, .faddr 0 (.t 3)⟩,
  ⟨(some 8), none, .load none (.t 7)⟩,
  ⟨(some 9), none, .bin .eql (.t 6) (.t 8)⟩,
  ⟨(some 10), none, .mov (.t 9)⟩,
  ⟨(some 11), (some (10, true)), .faddr 1 (.t 2)⟩,
  ⟨(some 12), (some (10, true)), .load none (.t 11)⟩,
  ⟨(some 13), (some (10, true)), .faddr 1 (.t 3)⟩,
  ⟨(some 14), (some (10, true)), .load none (.t 13)⟩,
  ⟨(some 15), (some (10, true)), .bin .eql (.t 12) (.t 14)⟩,
  ⟨(some 16), none, .pick (.t 10) (.t 15) (.c (.bool false))⟩,
  ⟨(some 17), none, .mov (.t 16)⟩,
  ⟨(some 18), (some (17, true)), .faddr 2 (.t 2)⟩,
  ⟨(some 19), (some (17, true)), .load none (.t 18)⟩,
  ⟨(some 20), (some (17, true)), .faddr 2 (.t 3)⟩,
  ⟨(some 21), (some (17, true)), .load none (.t 20)⟩,
  ⟨(some 22), (some (17, true)), .call 0 [] (.c (.fn 15 [])) [(.t 19), (.t 21)]⟩,
  ⟨(some 23), none, .pick (.t 17) (.t 22) (.c (.bool false))⟩,
  ⟨(some 4), none, .mov (.t 23)⟩])
 .ret)),
  [.t 4], false, true, 24⟩
theorem co20 : compF Try.prog ⟨[], [], [], [], [], [], 20, [], [], []⟩ false true Try.f20 = some ac20 := by kernel_rfl

/-- paideia/types.Var -/
def ac21 : AF := ⟨(.seq (.reg [⟨(some 2), none, .alloc [(.int .i64 0), (.str []), (.sl .clip [])] false⟩])
 (.seq (.reg [⟨(some 3), none, .mov (.t 0)⟩,
  ⟨(some 4), none, .build [(.int .i64 0), (.str []), (.sl .clip [])] [(0, 1, (.c (.int .i64 1))), (1, 1, (.t 3))]⟩,
  ⟨none, none, .store 3 (.t 2) (.t 4)⟩])
 .ret)),
  [.cell 2 (some 3)], false, true, 5⟩
theorem co21 : compF Try.prog ⟨[], [], [], [], [], [], 21, [], [], []⟩ false true Try.f21 = some ac21 := by kernel_rfl

/-- paideia/types.Fun -/
def ac22 : AF := ⟨(.seq (.reg [⟨(some 2), none, .alloc [(.int .i64 0), (.str []), (.sl .clip [])] false⟩])
 (.seq (.seq (.reg [⟨(some 5), none, .mov (.t 0)⟩,
  ⟨(some 6), none, .len 1 (.t 5)⟩,
  ⟨(some 7), none, .bin .eql (.t 6) (.c (.int .i64 0))⟩])
 (.cond (.t 7) (.seq (.reg [⟨(some 8), none, .call 0 [] (.c (.fn 39 [])) [(.c (.str [85, 110, 105, 116])), (.c (.sl .clip []))]⟩,
  ⟨none, none, .store 3 (.t 2) (.t 8)⟩])
 .ret)
 .skip))
 (.seq (.reg [⟨(some 9), none, .mov (.t 0)⟩,
  ⟨(some 10), none, .mov (.t 0)⟩,
  ⟨(some 11), none, .len 1 (.t 10)⟩,
  ⟨(some 12), none, .bin .sub (.t 11) (.c (.int .i64 1))⟩,
  ⟨(some 13), none, .iaddr 3 (.t 9) (.t 12)⟩,
  ⟨(some 14), none, .load (some 3) (.t 13)⟩,
  ⟨(some 3), none, .alloc [(.int .i64 0), (.str []), (.sl .clip [])] false⟩,
  ⟨none, none, .store 3 (.t 3) (.t 14)⟩])
 (.seq (.seq (.reg [⟨(some 15), none, .mov (.t 0)⟩,
  ⟨(some 16), none, .len 1 (.t 15)⟩,
  ⟨(some 17), none, .bin .sub (.t 16) (.c (.int .i64 2))⟩,
  ⟨(some 4), none, .mov (.t 17)⟩])
 (.block 0 (.loop [0, 4] [2, 3] (.seq (.seq (.reg [⟨(some 18), none, .mov (.t 4)⟩,
  ⟨(some 19), none, .bin .geq (.t 18) (.c (.int .i64 0))⟩])
 (.cond (.t 19) .skip
 (.exit 0)))
 (.seq (.block 1 (.reg [⟨(some 22), none, .mov (.t 0)⟩,
  ⟨(some 23), none, .mov (.t 4)⟩,
  ⟨(some 24), none, .iaddr 3 (.t 22) (.t 23)⟩,
  ⟨(some 25), none, .load (some 3) (.t 24)⟩,
  ⟨(some 26), none, .load (some 3) (.t 3)⟩,
  ⟨(some 27), none, .bslice [(.int .i64 0), (.str []), (.sl .clip [])] 2 [(0, (.t 25)), (1, (.t 26))]⟩,
  ⟨(some 28), none, .build [(.int .i64 0), (.str []), (.sl .clip [])] [(0, 1, (.c (.int .i64 3))), (2, 1, (.t 27))]⟩,
  ⟨none, none, .store 3 (.t 3) (.t 28)⟩]))
 (.reg [⟨(some 20), none, .mov (.t 4)⟩,
  ⟨(some 21), none, .bin .sub (.t 20) (.c (.int .i64 1))⟩,
  ⟨(some 4), none, .mov (.t 21)⟩]))))))
 (.seq (.reg [⟨(some 29), none, .load (some 3) (.t 3)⟩,
  ⟨none, none, .store 3 (.t 2) (.t 29)⟩])
 .ret))))),
  [.cell 2 (some 3)], false, true, 30⟩
theorem co22 : compF Try.prog ⟨[], [(5, [0, 4], [2, 3])], [], [], [], [], 22, [], [], []⟩ false true Try.f22 = some ac22 := by kernel_rfl

/-- (*paideia/paideiamake.Seq).Next -/
def ac23 : AF := ⟨(.seq (.reg [⟨(some 4), none, .mov (.c (.int .i64 0))⟩])
 (.seq (.reg [⟨(some 5), none, .mov (.c (.int .i64 0))⟩])
 (.seq (.seq (.reg [⟨(some 6), none, .mov (.t 0)⟩,
  ⟨(some 7), none, .nilck (.t 6)⟩,
  ⟨(some 8), none, .faddr 1 (.t 7)⟩,
  ⟨(some 9), none, .load none (.t 8)⟩,
  ⟨(some 10), none, .mov (.t 0)⟩,
  ⟨(some 11), none, .nilck (.t 10)⟩,
  ⟨(some 12), none, .faddr 0 (.t 11)⟩,
  ⟨(some 13), none, .load none (.t 12)⟩,
  ⟨(some 14), none, .len 1 (.t 13)⟩,
  ⟨(some 15), none, .bin .lss (.t 9) (.t 14)⟩])
 (.cond (.t 15) (.reg [⟨(some 16), none, .mov (.t 0)⟩,
  ⟨(some 17), none, .nilck (.t 16)⟩,
  ⟨(some 18), none, .faddr 0 (.t 17)⟩,
  ⟨(some 19), none, .load none (.t 18)⟩,
  ⟨(some 20), none, .mov (.t 0)⟩,
  ⟨(some 21), none, .nilck (.t 20)⟩,
  ⟨(some 22), none, .faddr 1 (.t 21)⟩,
  ⟨(some 23), none, .load none (.t 22)⟩,
  ⟨(some 24), none, .iaddr 1 (.t 19) (.t 23)⟩,
  ⟨(some 25), none, .load none (.t 24)⟩,
  ⟨(some 5), none, .mov (.t 25)⟩])
 .skip))
 (.seq (.reg [⟨(some 26), none, .mov (.t 0)⟩,
  ⟨(some 27), none, .mov (.t 0)⟩,
  ⟨(some 28), none, .nilck (.t 27)⟩,
  ⟨(some 29), none, .faddr 1 (.t 28)⟩,
  ⟨(some 30), none, .load none (.t 29)⟩,
  ⟨(some 31), none, .bin .add (.t 30) (.c (.int .i64 1))⟩,
  ⟨(some 32), none, .nilck (.t 26)⟩,
  ⟨(some 33), none, .faddr 1 (.t 32)⟩,
  ⟨none, none, .store 1 (.t 33) (.t 31)⟩])
 (.seq (.reg [⟨(some 34), none, .mov (.t 5)⟩,
  ⟨(some 35), none, .mov (.t 1)⟩,
  ⟨(some 36), none, .call 0 [] (.c (.fn 40 [])) [(.t 34), (.t 35)]⟩,
  ⟨(some 4), none, .mov (.t 36)⟩])
 .ret))))),
  [.t 4], false, true, 37⟩
theorem co23 : compF Try.prog ⟨[], [], [], [], [], [], 23, [], [], []⟩ false true Try.f23 = some ac23 := by kernel_rfl

/-- paideia/paideiaref4.Var -/
def ac24 : AF := ⟨(.seq (.reg [⟨(some 2), none, .alloc [(.int .i64 0), (.str []), (.sl .clip [])] false⟩])
 (.seq (.reg [⟨(some 3), none, .mov (.t 0)⟩,
  ⟨(some 4), none, .build [(.int .i64 0), (.str []), (.sl .clip [])] [(0, 1, (.c (.int .i64 1))), (1, 1, (.t 3))]⟩,
  ⟨none, none, .store 3 (.t 2) (.t 4)⟩])
 .ret)),
  [.cell 2 (some 3)], false, true, 5⟩
theorem co24 : compF Try.prog ⟨[], [], [], [], [], [], 24, [], [], []⟩ false true Try.f24 = some ac24 := by kernel_rfl

/-- paideia/paideiaref4.Con -/
def ac25 : AF := ⟨(.seq (.reg [⟨(some 4), none, .alloc [(.int .i64 0), (.str []), (.sl .clip [])] false⟩])
 (.seq (.reg [⟨(some 5), none, .mov (.t 0)⟩,
  ⟨(some 6), none, .mov (.t 1)⟩,
  ⟨(some 7), none, .build [(.int .i64 0), (.str []), (.sl .clip [])] [(0, 1, (.c (.int .i64 2))), (1, 1, (.t 5)), (2, 1, (.t 6))]⟩,
  ⟨none, none, .store 3 (.t 4) (.t 7)⟩])
 .ret)),
  [.cell 4 (some 3)], false, true, 8⟩
theorem co25 : compF Try.prog ⟨[], [], [], [], [], [], 25, [], [], []⟩ false true Try.f25 = some ac25 := by kernel_rfl

/-- paideia/paideiaref4.Fun2 -/
def ac26 : AF := ⟨(.seq (.reg [⟨(some 2), none, .box (.t 0) 3 false⟩,
  ⟨(some 3), none, .box (.t 1) 3 false⟩,
  ⟨(some 4), none, .alloc [(.int .i64 0), (.str []), (.sl .clip [])] false⟩])
 (.seq (.reg [⟨(some 5), none, .load (some 3) (.t 2)⟩,
  ⟨(some 6), none, .load (some 3) (.t 3)⟩,
  ⟨(some 7), none, .bslice [(.int .i64 0), (.str []), (.sl .clip [])] 2 [(0, (.t 5)), (1, (.t 6))]⟩,
  ⟨(some 8), none, .build [(.int .i64 0), (.str []), (.sl .clip [])] [(0, 1, (.c (.int .i64 3))), (2, 1, (.t 7))]⟩,
  ⟨none, none, .store 3 (.t 4) (.t 8)⟩])
 .ret)),
  [.cell 4 (some 3)], false, true, 9⟩
theorem co26 : compF Try.prog ⟨[], [], [], [], [], [], 26, [], [], []⟩ false true Try.f26 = some ac26 := by kernel_rfl

/-- paideia/types.All$1 -/
def ac27 : AF := ⟨(.reg [⟨(some 3), none, .load (some 3) (.t 1)⟩,
  ⟨(some 4), none, .mov (.t 0)⟩,
  ⟨(some 5), none, .call 0 [] (.c (.fn 28 [])) [(.t 3), (.t 4)]⟩]),
  [], false, false, 6⟩
theorem co27 : compF Try.prog ⟨[], [], [], [], [], [], 27, [], [], []⟩ false false Try.f27 = some ac27 := by kernel_rfl

/-- paideia/types.walk -/
def ac28 : AF := ⟨(.seq (.reg [⟨(some 2), none, .box (.t 0) 3 false⟩,
  ⟨(some 4), none, .mov (.c (.bool false))⟩])
 (.seq (.seq (.reg [⟨(some 7), none, .mov (.t 1)⟩,
  ⟨(some 8), none, .load (some 3) (.t 2)⟩,
  ⟨(some 9), none, .call 0 [] (.c (.fn 41 [])) [(.t 8)]⟩,
  ⟨(some 10), none, .call 0 [] (.t 7) [(.t 9)]⟩,
  ⟨(some 11), none, .not (.t 10)⟩])
 (.cond (.t 11) (.seq (.reg [⟨(some 4), none, .mov (.c (.bool false))⟩])
 .ret)
 .skip))
 (.seq (.seq (.reg [⟨(some 12), none, .faddr 2 (.t 2)⟩,
  ⟨(some 13), none, .load none (.t 12)⟩,
  ⟨(some 14), none, .len 1 (.t 13)⟩,
  ⟨(some 15), none, .mov (.c (.int .i64 0))⟩])
 (.block 0 (.loop [1, 13, 14, 15] [] (.seq (.reg [⟨(some 16), none, .bin .lss (.t 15) (.t 14)⟩])
 (.seq (.cond (.t 16) .skip
 (.exit 0))
 (.seq (.block 1 (.seq (.reg [⟨(some 17), none, .iaddr 3 (.t 13) (.t 15)⟩,
  ⟨(some 18), none, .load (some 3) (.t 17)⟩,
  ⟨(some 6), none, .alloc [(.int .i64 0), (.str []), (.sl .clip [])] false⟩,
  ⟨none, none, .store 3 (.t 6) (.t 18)⟩])
 (.seq (.reg [⟨(some 19), none, .load (some 3) (.t 6)⟩,
  ⟨(some 20), none, .mov (.t 1)⟩,
  ⟨(some 21), none, .call 0 [] (.c (.fn 28 [])) [(.t 19), (.t 20)]⟩,
  ⟨(some 22), none, .not (.t 21)⟩])
 (.cond (.t 22) (.seq (.reg [⟨(some 4), none, .mov (.c (.bool false))⟩])
 .ret)
 .skip))))
 (.reg [⟨(some 23), none, .bin .add (.t 15) (.c (.int .i64 1))⟩,
  ⟨(some 15), none, .mov (.t 23)⟩])))))))
 (.seq (.reg [⟨(some 4), none, .mov (.c (.bool true))⟩])
 .ret)))),
  [.t 4], false, false, 24⟩
theorem co28 : compF Try.prog ⟨[], [(4, [1, 13, 14, 15], [])], [], [], [], [], 28, [], [], []⟩ false false Try.f28 = some ac28 := by kernel_rfl

/-- paideia/types.free -/
def ac29 : AF := ⟨(.seq (.reg [⟨(some 3), none, .box (.t 0) 3 false⟩,
  ⟨(some 6), none, .mov (.c (.sl .clip []))⟩])
 (.seq (.seq (.reg [⟨(some 9), none, .faddr 0 (.t 3)⟩,
  ⟨(some 10), none, .load none (.t 9)⟩])
 (.block 0 (.seq (.reg [⟨(some 12), none, .bin .eql (.t 10) (.c (.int .i64 1))⟩,
  ⟨(some 11), none, .mov (.t 12)⟩])
 (.cond (.t 11) (.seq (.reg [⟨(some 13), none, .mov (.t 1)⟩,
  ⟨(some 14), none, .faddr 1 (.t 3)⟩,
  ⟨(some 15), none, .load none (.t 14)⟩,
  ⟨(some 16), none, .call 0 [] (.c (.fn 42 [])) [(.t 13), (.t 15)]⟩,
  ⟨(some 17), none, .not (.t 16)⟩,
  ⟨(some 18), none, .mov (.t 17)⟩,
  ⟨(some 19), (some (18, true)), .mov (.t 2)⟩,
  ⟨(some 20), (some (18, true)), .faddr 1 (.t 3)⟩,
  ⟨(some 21), (some (18, true)), .load none (.t 20)⟩,
  ⟨(some 22), (some (18, true)), .call 0 [] (.c (.fn 42 [])) [(.t 19), (.t 21)]⟩,
  ⟨(some 23), (some (18, true)), .not (.t 22)⟩,
  ⟨(some 24), none, .pick (.t 18) (.t 23) (.c (.bool false))⟩])
 (.cond (.t 24) (.reg [⟨(some 25), none, .mov (.t 2)⟩,
  ⟨(some 26), none, .faddr 1 (.t 3)⟩,
  ⟨(some 27), none, .load none (.t 26)⟩,
  ⟨(some 28), none, .bslice [(.str [])] 1 [(0, (.t 27))]⟩,
  ⟨(some 29), none, .append 1 (.t 25) (.t 28)⟩,
  ⟨(some 2), none, .mov (.t 29)⟩])
 .skip))
 (.seq (.reg [⟨(some 31), none, .bin .eql (.t 10) (.c (.int .i64 4))⟩,
  ⟨(some 30), none, .mov (.t 31)⟩])
 (.cond (.t 30) (.reg [⟨(some 32), none, .mov (.t 1)⟩,
  ⟨(some 33), none, .call 0 [] (.c (.fn 43 [])) [(.t 32)]⟩,
  ⟨(some 34), none, .faddr 1 (.t 3)⟩,
  ⟨(some 35), none, .loadL none (.t 34)⟩,
  ⟨(some 36), none, .bslice [(.str [])] 1 [(0, (.t 35))]⟩,
  ⟨(some 37), none, .append 1 (.t 33) (.t 36)⟩,
  ⟨(some 1), none, .mov (.t 37)⟩])
 .skip))))))
 (.seq (.seq (.reg [⟨(some 38), none, .faddr 2 (.t 3)⟩,
  ⟨(some 39), none, .load none (.t 38)⟩,
  ⟨(some 40), none, .len 1 (.t 39)⟩,
  ⟨(some 41), none, .mov (.c (.int .i64 0))⟩])
 (.block 1 (.loop [1, 2, 39, 40, 41] [] (.seq (.reg [⟨(some 42), none, .bin .lss (.t 41) (.t 40)⟩])
 (.seq (.cond (.t 42) .skip
 (.exit 1))
 (.seq (.block 2 (.seq (.reg [⟨(some 43), none, .iaddr 3 (.t 39) (.t 41)⟩,
  ⟨(some 44), none, .load (some 3) (.t 43)⟩,
  ⟨(some 8), none, .alloc [(.int .i64 0), (.str []), (.sl .clip [])] false⟩,
  ⟨none, none, .store 3 (.t 8) (.t 44)⟩])
 (.reg [⟨(some 45), none, .load (some 3) (.t 8)⟩,
  ⟨(some 46), none, .mov (.t 1)⟩,
  ⟨(some 47), none, .mov (.t 2)⟩,
  ⟨(some 48), none, .call 0 [2] (.c (.fn 29 [])) [(.t 45), (.t 46), (.t 47)]⟩,
  ⟨(some 2), none, .mov (.t 48)⟩])))
 (.reg [⟨(some 49), none, .bin .add (.t 41) (.c (.int .i64 1))⟩,
  ⟨(some 41), none, .mov (.t 49)⟩])))))))
 (.seq (.reg [⟨(some 50), none, .mov (.t 2)⟩,
  ⟨(some 6), none, .mov (.t 50)⟩])
 .ret)))),
  [.t 6], true, false, 51⟩
theorem co29 : compF Try.prog ⟨[], [(8, [1, 2, 39, 40, 41], [])], [(29, 0, [2])], [], [], [], 29, [], [], []⟩ true false Try.f29 = some ac29 := by kernel_rfl

/-- paideia/paideiaref4.vars -/
def ac30 : AF := ⟨(.seq (.reg [⟨(some 5), none, .box (.t 2) 3 false⟩,
  ⟨(some 6), none, .mov (.c (.sl .clip []))⟩])
 (.seq (.seq (.reg [⟨(some 8), none, .faddr 0 (.t 5)⟩,
  ⟨(some 9), none, .load none (.t 8)⟩])
 (.block 0 (.seq (.reg [⟨(some 11), none, .bin .eql (.t 9) (.c (.int .i64 1))⟩,
  ⟨(some 10), none, .mov (.t 11)⟩])
 (.cond (.t 10) (.seq (.seq (.reg [⟨(some 12), none, .mov (.t 0)⟩,
  ⟨(some 13), none, .faddr 1 (.t 5)⟩,
  ⟨(some 14), none, .load none (.t 13)⟩,
  ⟨(some 15), none, .call 0 [] (.c (.fn 12 [])) [(.t 12), (.t 14)]⟩,
  ⟨(some 16), none, .not (.t 15)⟩,
  ⟨(some 17), none, .mov (.t 16)⟩,
  ⟨(some 18), (some (17, true)), .mov (.t 1)⟩,
  ⟨(some 19), (some (17, true)), .faddr 1 (.t 5)⟩,
  ⟨(some 20), (some (17, true)), .load none (.t 19)⟩,
  ⟨(some 21), (some (17, true)), .call 0 [] (.c (.fn 12 [])) [(.t 18), (.t 20)]⟩,
  ⟨(some 22), (some (17, true)), .not (.t 21)⟩,
  ⟨(some 23), none, .pick (.t 17) (.t 22) (.c (.bool false))⟩])
 (.cond (.t 23) (.reg [⟨(some 24), none, .mov (.t 0)⟩,
  ⟨(some 25), none, .call 0 [] (.c (.fn 44 [])) [(.t 24)]⟩,
  ⟨(some 26), none, .faddr 1 (.t 5)⟩,
  ⟨(some 27), none, .loadL none (.t 26)⟩,
  ⟨(some 28), none, .bslice [(.str [])] 1 [(0, (.t 27))]⟩,
  ⟨(some 29), none, .append 1 (.t 25) (.t 28)⟩,
  ⟨(some 0), none, .mov (.t 29)⟩])
 .skip))
 (.seq (.reg [⟨(some 30), none, .mov (.t 0)⟩,
  ⟨(some 6), none, .mov (.t 30)⟩])
 .ret))
 (.seq (.reg [⟨(some 32), none, .bin .eql (.t 9) (.c (.int .i64 4))⟩,
  ⟨(some 31), none, .mov (.t 32)⟩])
 (.cond (.t 31) (.reg [⟨(some 33), none, .mov (.t 1)⟩,
  ⟨(some 34), none, .call 0 [] (.c (.fn 44 [])) [(.t 33)]⟩,
  ⟨(some 35), none, .faddr 1 (.t 5)⟩,
  ⟨(some 36), none, .loadL none (.t 35)⟩,
  ⟨(some 37), none, .bslice [(.str [])] 1 [(0, (.t 36))]⟩,
  ⟨(some 38), none, .append 1 (.t 34) (.t 37)⟩,
  ⟨(some 1), none, .mov (.t 38)⟩])
 .skip))))))
 (.seq (.seq (.reg [⟨(some 7), none, .mov (.c (.int .i64 0))⟩])
 (.block 1 (.loop [0, 1, 7] [5] (.seq (.seq (.reg [⟨(some 39), none, .mov (.t 7)⟩,
  ⟨(some 40), none, .faddr 2 (.t 5)⟩,
  ⟨(some 41), none, .load none (.t 40)⟩,
  ⟨(some 42), none, .len 1 (.t 41)⟩,
  ⟨(some 43), none, .bin .lss (.t 39) (.t 42)⟩])
 (.cond (.t 43) .skip
 (.exit 1)))
 (.seq (.block 2 (.reg [⟨(some 46), none, .mov (.t 0)⟩,
  ⟨(some 47), none, .mov (.t 1)⟩,
  ⟨(some 48), none, .faddr 2 (.t 5)⟩,
  ⟨(some 49), none, .load none (.t 48)⟩,
  ⟨(some 50), none, .mov (.t 7)⟩,
  ⟨(some 51), none, .iaddr 3 (.t 49) (.t 50)⟩,
  ⟨(some 52), none, .load (some 3) (.t 51)⟩,
  ⟨(some 53), none, .call 0 [] (.c (.fn 30 [])) [(.t 46), (.t 47), (.t 52)]⟩,
  ⟨(some 0), none, .mov (.t 53)⟩]))
 (.reg [⟨(some 44), none, .mov (.t 7)⟩,
  ⟨(some 45), none, .bin .add (.t 44) (.c (.int .i64 1))⟩,
  ⟨(some 7), none, .mov (.t 45)⟩]))))))
 (.seq (.reg [⟨(some 54), none, .mov (.t 0)⟩,
  ⟨(some 6), none, .mov (.t 54)⟩])
 .ret)))),
  [.t 6], false, true, 55⟩
theorem co30 : compF Try.prog ⟨[], [(9, [0, 1, 7], [5])], [], [], [], [], 30, [], [], []⟩ false true Try.f30 = some ac30 := by kernel_rfl

/-- slices.ContainsFunc[[]paideia/api.Type,paideia/api.Type] -/
def ac31 : AF := ⟨(.seq (.reg [⟨(some 4), none, .mov (.c (.bool false))⟩])
 (.seq (.reg [⟨(some 5), none, .mov (.t 0)⟩,
  ⟨(some 6), none, .mov (.t 1)⟩,
  ⟨(some 7), none, .call 0 [] (.c (.fn 45 [])) [(.t 5), (.t 6)]⟩,
  ⟨(some 8), none, .bin .geq (.t 7) (.c (.int .i64 0))⟩,
  ⟨(some 4), none, .mov (.t 8)⟩])
 .ret)),
  [.t 4], false, true, 9⟩
theorem co31 : compF Try.prog ⟨[], [], [], [], [], [], 31, [], [], []⟩ false true Try.f31 = some ac31 := by kernel_rfl

/-- paideia/types.Has$1 -/
def ac32 : AF := ⟨(.seq (.reg [⟨(some 2), none, .box (.t 0) 3 false⟩,
  ⟨(some 3), none, .mov (.c (.bool false))⟩])
 (.seq (.reg [⟨(some 4), none, .load (some 3) (.t 2)⟩,
  ⟨(some 5), none, .load none (.t 1)⟩,
  ⟨(some 6), none, .call 0 [] (.c (.fn 11 [])) [(.t 4), (.t 5)]⟩,
  ⟨(some 3), none, .mov (.t 6)⟩])
 .ret)),
  [.t 3], false, true, 7⟩
theorem co32 : compF Try.prog ⟨[], [], [], [], [], [], 32, [], [], []⟩ false true Try.f32 = some ac32 := by kernel_rfl

/-- paideia/paideiaref.Place -/
def ac33 : AF := ⟨(.seq (.reg [⟨(some 4), none, .mov (.c (.int .i64 0))⟩])
 (.seq (.seq (.reg [⟨(some 5), none, .mov (.c (.int .i64 0))⟩])
 (.block 0 (.loop [0, 1, 5] [] (.seq (.seq (.reg [⟨(some 6), none, .mov (.t 5)⟩,
  ⟨(some 7), none, .mov (.t 0)⟩,
  ⟨(some 8), none, .len 1 (.t 7)⟩,
  ⟨(some 9), none, .bin .lss (.t 6) (.t 8)⟩])
 (.cond (.t 9) .skip
 (.exit 0)))
 (.seq (.block 1 (.seq (.reg [⟨(some 12), none, .mov (.t 0)⟩,
  ⟨(some 13), none, .mov (.t 5)⟩,
  ⟨(some 14), none, .iaddr 1 (.t 12) (.t 13)⟩,
  ⟨(some 15), none, .load none (.t 14)⟩,
  ⟨(some 16), none, .mov (.t 1)⟩,
  ⟨(some 17), none, .bin .eql (.t 15) (.t 16)⟩])
 (.cond (.t 17) (.seq (.reg [⟨(some 18), none, .mov (.t 5)⟩,
  ⟨(some 4), none, .mov (.t 18)⟩])
 .ret)
 .skip)))
 (.reg [⟨(some 10), none, .mov (.t 5)⟩,
  ⟨(some 11), none, .bin .add (.t 10) (.c (.int .i64 1))⟩,
  ⟨(some 5), none, .mov (.t 11)⟩]))))))
 (.seq (.reg [⟨(some 4), none, .mov (.c (.int .i64 (-1)))⟩])
 .ret))),
  [.t 4], false, true, 19⟩
theorem co33 : compF Try.prog ⟨[], [(2, [0, 1, 5], [])], [], [], [], [], 33, [], [], []⟩ false true Try.f33 = some ac33 := by kernel_rfl

/-- cmp.Or[int] -/
def ac34 : AF := ⟨(.seq (.reg [⟨(some 2), none, .mov (.c (.int .i64 0))⟩])
 (.seq (.reg [⟨(some 3), none, .mov (.c (.int .i64 0))⟩])
 (.seq (.seq (.reg [⟨(some 6), none, .mov (.t 0)⟩,
  ⟨(some 7), none, .len 1 (.t 6)⟩,
  ⟨(some 8), none, .mov (.c (.int .i64 0))⟩])
 (.block 0 (.loop [3, 6, 7, 8] [] (.seq (.reg [⟨(some 9), none, .bin .lss (.t 8) (.t 7)⟩])
 (.seq (.cond (.t 9) .skip
 (.exit 0))
 (.seq (.block 1 (.seq (.reg [⟨(some 10), none, .iaddr 1 (.t 6) (.t 8)⟩,
  ⟨(some 11), none, .load none (.t 10)⟩,
  ⟨(some 5), none, .mov (.t 11)⟩])
 (.seq (.reg [⟨(some 12), none, .mov (.t 5)⟩,
  ⟨(some 13), none, .mov (.t 3)⟩,
  ⟨(some 14), none, .bin .neq (.t 12) (.t 13)⟩])
 (.cond (.t 14) (.seq (.reg [⟨(some 15), none, .mov (.t 5)⟩,
  ⟨(some 2), none, .mov (.t 15)⟩])
 .ret)
 .skip))))
 (.reg [⟨(some 16), none, .bin .add (.t 8) (.c (.int .i64 1))⟩,
  ⟨(some 8), none, .mov (.t 16)⟩])))))))
 (.seq (.reg [⟨(some 17), none, .mov (.t 3)⟩,
  ⟨(some 2), none, .mov (.t 17)⟩])
 .ret)))),
  [.t 2], false, true, 18⟩
theorem co34 : compF Try.prog ⟨[], [(3, [3, 6, 7, 8], [])], [], [], [], [], 34, [], [], []⟩ false true Try.f34 = some ac34 := by kernel_rfl

/-- cmp.Compare[int] -/
def ac35 : AF := ⟨(.seq (.reg [⟨(some 4), none, .mov (.c (.int .i64 0))⟩])
 (.seq (.reg [⟨(some 7), none, .mov (.t 0)⟩,
  ⟨(some 8), none, .call 0 [] (.c (.fn 46 [])) [(.t 7)]⟩,
  ⟨(some 5), none, .mov (.t 8)⟩])
 (.seq (.reg [⟨(some 9), none, .mov (.t 1)⟩,
  ⟨(some 10), none, .call 0 [] (.c (.fn 46 [])) [(.t 9)]⟩,
  ⟨(some 6), none, .mov (.t 10)⟩])
 (.seq (.seq (.reg [⟨(some 11), none, .mov (.t 5)⟩])
 (.cond (.t 11) (.seq (.seq (.reg [⟨(some 12), none, .mov (.t 6)⟩])
 (.cond (.t 12) (.seq (.reg [⟨(some 4), none, .mov (.c (.int .i64 0))⟩])
 .ret)
 .skip))
 (.seq (.reg [⟨(some 4), none, .mov (.c (.int .i64 (-1)))⟩])
 .ret))
 .skip))
 (.seq (.seq (.reg [⟨(some 13), none, .mov (.t 6)⟩])
 (.cond (.t 13) (.seq (.reg [⟨(some 4), none, .mov (.c (.int .i64 1))⟩])
 .ret)
 .skip))
 (.seq (.seq (.reg [⟨(some 14), none, .mov (.t 0)⟩,
  ⟨(some 15), none, .mov (.t 1)⟩,
  ⟨(some 16), none, .bin .lss (.t 14) (.t 15)⟩])
 (.cond (.t 16) (.seq (.reg [⟨(some 4), none, .mov (.c (.int .i64 (-1)))⟩])
 .ret)
 .skip))
 (.seq (.seq (.reg [⟨(some 17), none, .mov (.t 0)⟩,
  ⟨(some 18), none, .mov (.t 1)⟩,
  ⟨(some 19), none, .bin .gtr (.t 17) (.t 18)⟩])
 (.cond (.t 19) (.seq (.reg [⟨(some 4), none, .mov (.c (.int .i64 1))⟩])
 .ret)
 .skip))
 (.seq (.reg [⟨(some 4), none, .mov (.c (.int .i64 0))⟩])
 .ret)))))))),
  [.t 4], false, true, 20⟩
theorem co35 : compF Try.prog ⟨[], [], [], [], [], [], 35, [], [], []⟩ false true Try.f35 = some ac35 := by kernel_rfl

/-- strings.Compare -/
def ac36 : AF := ⟨(.seq (.reg [⟨(some 4), none, .mov (.c (.int .i64 0))⟩])
 (.seq (.reg [⟨(some 5), none, .mov (.t 0)⟩,
  ⟨(some 6), none, .mov (.t 1)⟩,
  ⟨(some 7), none, .call 0 [] (.c (.fn 47 [])) [(.t 5), (.t 6)]⟩,
  ⟨(some 4), none, .mov (.t 7)⟩])
 .ret)),
  [.t 4], false, true, 8⟩
theorem co36 : compF Try.prog ⟨[], [], [], [], [], [], 36, [], [], []⟩ false true Try.f36 = some ac36 := by kernel_rfl

/-- slices.CompareFunc[[]paideia/api.Type,[]paideia/api.Type,paideia/api.Type,paideia/api.Type] -/
def ac37 : AF := ⟨(.seq (.reg [⟨(some 6), none, .mov (.c (.int .i64 0))⟩])
 (.seq (.seq (.reg [⟨(some 11), none, .mov (.t 0)⟩,
  ⟨(some 12), none, .len 1 (.t 11)⟩,
  ⟨(some 13), none, .mov (.c (.int .i64 0))⟩])
 (.block 0 (.loop [0, 1, 2, 11, 12, 13] [] (.seq (.reg [⟨(some 14), none, .bin .lss (.t 13) (.t 12)⟩])
 (.seq (.cond (.t 14) .skip
 (.exit 0))
 (.seq (.block 1 (.seq (.reg [⟨(some 15), none, .mov (.t 13)⟩,
  ⟨(some 16), none, .iaddr 3 (.t 11) (.t 13)⟩,
  ⟨(some 17), none, .load (some 3) (.t 16)⟩,
  ⟨(some 8), none, .alloc [(.int .i64 0), (.str []), (.sl .clip [])] false⟩,
  ⟨(some 7), none, .mov (.t 15)⟩,
  ⟨none, none, .store 3 (.t 8) (.t 17)⟩])
 (.seq (.seq (.reg [⟨(some 18), none, .mov (.t 7)⟩,
  ⟨(some 19), none, .mov (.t 1)⟩,
  ⟨(some 20), none, .len 1 (.t 19)⟩,
  ⟨(some 21), none, .bin .geq (.t 18) (.t 20)⟩])
 (.cond (.t 21) (.seq (.reg [⟨(some 6), none, .mov (.c (.int .i64 1))⟩])
 .ret)
 .skip))
 (.seq (.reg [⟨(some 22), none, .mov (.t 1)⟩,
  ⟨(some 23), none, .mov (.t 7)⟩,
  ⟨(some 24), none, .iaddr 3 (.t 22) (.t 23)⟩,
  ⟨(some 25), none, .load (some 3) (.t 24)⟩,
  ⟨(some 9), none, .alloc [(.int .i64 0), (.str []), (.sl .clip [])] false⟩,
  ⟨none, none, .store 3 (.t 9) (.t 25)⟩])
 (.seq (.reg [⟨(some 26), none, .mov (.t 2)⟩,
  ⟨(some 27), none, .load (some 3) (.t 8)⟩,
  ⟨(some 28), none, .load (some 3) (.t 9)⟩,
  ⟨(some 29), none, .call 0 [] (.t 26) [(.t 27), (.t 28)]⟩,
  ⟨(some 10), none, .mov (.t 29)⟩])
 (.seq (.reg [⟨(some 30), none, .mov (.t 10)⟩,
  ⟨(some 31), none, .bin .neq (.t 30) (.c (.int .i64 0))⟩])
 (.cond (.t 31) (.seq (.reg [⟨(some 32), none, .mov (.t 10)⟩,
  ⟨(some 6), none, .mov (.t 32)⟩])
 .ret)
 .skip)))))))
 (.reg [⟨(some 33), none, .bin .add (.t 13) (.c (.int .i64 1))⟩,
  ⟨(some 13), none, .mov (.t 33)⟩])))))))
 (.seq (.seq (.reg [⟨(some 34), none, .mov (.t 0)⟩,
  ⟨(some 35), none, .len 1 (.t 34)⟩,
  ⟨(some 36), none, .mov (.t 1)⟩,
  ⟨(some 37), none, .len 1 (.t 36)⟩,
  ⟨(some 38), none, .bin .lss (.t 35) (.t 37)⟩])
 (.cond (.t 38) (.seq (.reg [⟨(some 6), none, .mov (.c (.int .i64 (-1)))⟩])
 .ret)
 .skip))
 (.seq (.reg [⟨(some 6), none, .mov (.c (.int .i64 0))⟩])
 .ret)))),
  [.t 6], false, true, 39⟩
theorem co37 : compF Try.prog ⟨[], [(2, [0, 1, 2, 11, 12, 13], [])], [], [], [], [], 37, [], [], []⟩ false true Try.f37 = some ac37 := by kernel_rfl

/-- paideia/paideiaref4.sign -/
def ac38 : AF := ⟨(.seq (.reg [⟨(some 4), none, .mov (.c (.int .i64 0))⟩])
 (.seq (.block 0 (.seq (.reg [⟨(some 6), none, .mov (.t 0)⟩,
  ⟨(some 7), none, .mov (.t 1)⟩,
  ⟨(some 8), none, .bin .lss (.t 6) (.t 7)⟩,
  ⟨(some 5), none, .mov (.t 8)⟩])
 (.cond (.t 5) (.seq (.reg [⟨(some 4), none, .mov (.c (.int .i64 (-1)))⟩])
 .ret)
 (.seq (.reg [⟨(some 10), none, .mov (.t 0)⟩,
  ⟨(some 11), none, .mov (.t 1)⟩,
  ⟨(some 12), none, .bin .gtr (.t 10) (.t 11)⟩,
  ⟨(some 9), none, .mov (.t 12)⟩])
 (.cond (.t 9) (.seq (.reg [⟨(some 4), none, .mov (.c (.int .i64 1))⟩])
 .ret)
 .skip)))))
 (.seq (.reg [⟨(some 4), none, .mov (.c (.int .i64 0))⟩])
 .ret))),
  [.t 4], false, true, 13⟩
theorem co38 : compF Try.prog ⟨[], [], [], [], [], [], 38, [], [], []⟩ false true Try.f38 = some ac38 := by kernel_rfl

/-- paideia/types.Con -/
def ac39 : AF := ⟨(.seq (.reg [⟨(some 4), none, .alloc [(.int .i64 0), (.str []), (.sl .clip [])] false⟩])
 (.seq (.reg [⟨(some 5), none, .mov (.t 0)⟩,
  ⟨(some 6), none, .mov (.t 1)⟩,
  ⟨(some 7), none, .call 0 [] (.c (.fn 48 [])) [(.t 6)]⟩,
  ⟨(some 8), none, .build [(.int .i64 0), (.str []), (.sl .clip [])] [(0, 1, (.c (.int .i64 2))), (1, 1, (.t 5)), (2, 1, (.t 7))]⟩,
  ⟨none, none, .store 3 (.t 4) (.t 8)⟩])
 .ret)),
  [.cell 4 (some 3)], false, true, 9⟩
theorem co39 : compF Try.prog ⟨[], [], [], [], [], [], 39, [], [], []⟩ false true Try.f39 = some ac39 := by kernel_rfl

/-- paideia/paideiaworld.Number -/
def ac40 : AF := ⟨(.seq (.reg [⟨(some 4), none, .mov (.c (.int .i64 0))⟩])
 (.seq (.reg [⟨(some 6), none, .mov (.t 0)⟩,
  ⟨(some 7), none, .mov (.t 1)⟩,
  ⟨(some 8), none, .bin .rem (.t 6) (.t 7)⟩,
  ⟨(some 5), none, .mov (.t 8)⟩])
 (.seq (.seq (.reg [⟨(some 9), none, .mov (.t 5)⟩,
  ⟨(some 10), none, .bin .lss (.t 9) (.c (.int .i64 0))⟩])
 (.cond (.t 10) (.reg [⟨(some 11), none, .mov (.t 5)⟩,
  ⟨(some 12), none, .mov (.t 1)⟩,
  ⟨(some 13), none, .bin .add (.t 11) (.t 12)⟩,
  ⟨(some 5), none, .mov (.t 13)⟩])
 .skip))
 (.seq (.reg [⟨(some 14), none, .mov (.t 5)⟩,
  ⟨(some 4), none, .mov (.t 14)⟩])
 .ret)))),
  [.t 4], false, true, 15⟩
theorem co40 : compF Try.prog ⟨[], [], [], [], [], [], 40, [], [], []⟩ false true Try.f40 = some ac40 := by kernel_rfl

/-- paideia/types.Clone -/
def ac41 : AF := ⟨(.seq (.reg [⟨(some 1), none, .box (.t 0) 3 false⟩,
  ⟨(some 2), none, .alloc [(.int .i64 0), (.str []), (.sl .clip [])] false⟩])
 (.seq (.reg [⟨(some 6), none, .faddr 0 (.t 1)⟩,
  ⟨(some 7), none, .load none (.t 6)⟩,
  ⟨(some 8), none, .faddr 1 (.t 1)⟩,
  ⟨(some 9), none, .load none (.t 8)⟩,
  ⟨(some 10), none, .build [(.int .i64 0), (.str []), (.sl .clip [])] [(0, 1, (.t 7)), (1, 1, (.t 9))]⟩,
  ⟨(some 3), none, .alloc [(.int .i64 0), (.str []), (.sl .clip [])] false⟩,
  ⟨none, none, .store 3 (.t 3) (.t 10)⟩])
 (.seq (.seq (.reg [⟨(some 11), none, .faddr 2 (.t 1)⟩,
  ⟨(some 12), none, .load none (.t 11)⟩,
  ⟨(some 13), none, .len 1 (.t 12)⟩,
  ⟨(some 14), none, .mov (.c (.int .i64 0))⟩])
 (.block 0 (.loop [12, 13, 14] [2, 3] (.seq (.reg [⟨(some 15), none, .bin .lss (.t 14) (.t 13)⟩])
 (.seq (.cond (.t 15) .skip
 (.exit 0))
 (.seq (.block 1 (.seq (.reg [⟨(some 16), none, .iaddr 3 (.t 12) (.t 14)⟩,
  ⟨(some 17), none, .load (some 3) (.t 16)⟩,
  ⟨(some 5), none, .alloc [(.int .i64 0), (.str []), (.sl .clip [])] false⟩,
  ⟨none, none, .store 3 (.t 5) (.t 17)⟩])
 (.reg [⟨(some 18), none, .faddr 2 (.t 3)⟩,
  ⟨(some 19), none, .loadL none (.t 18)⟩,
  ⟨(some 20), none, .load (some 3) (.t 5)⟩,
  ⟨(some 21), none, .call 0 [] (.c (.fn 41 [])) [(.t 20)]⟩,
  ⟨(some 22), none, .bslice [(.int .i64 0), (.str []), (.sl .clip [])] 1 [(0, (.t 21))]⟩,
  ⟨(some 23), none, .append 3 (.t 19) (.t 22)⟩,
  ⟨(some 24), none, .faddr 2 (.t 3)⟩,
  ⟨none, none, .store 1 (.t 24) (.t 23)⟩])))
 (.reg [⟨(some 25), none, .bin .add (.t 14) (.c (.int .i64 1))⟩,
  ⟨(some 14), none, .mov (.t 25)⟩])))))))
 (.seq (.reg [⟨(some 26), none, .load (some 3) (.t 3)⟩,
  ⟨none, none, .store 3 (.t 2) (.t 26)⟩])
 .ret)))),
  [.cell 2 (some 3)], false, true, 27⟩
theorem co41 : compF Try.prog ⟨[], [(3, [12, 13, 14], [2, 3])], [], [], [], [], 41, [], [], []⟩ false true Try.f41 = some ac41 := by kernel_rfl

/-- slices.Contains[[]string,string] -/
def ac42 : AF := ⟨(.seq (.reg [⟨(some 4), none, .mov (.c (.bool false))⟩])
 (.seq (.reg [⟨(some 5), none, .mov (.t 0)⟩,
  ⟨(some 6), none, .mov (.t 1)⟩,
  ⟨(some 7), none, .call 0 [] (.c (.fn 49 [])) [(.t 5), (.t 6)]⟩,
  ⟨(some 8), none, .bin .geq (.t 7) (.c (.int .i64 0))⟩,
  ⟨(some 4), none, .mov (.t 8)⟩])
 .ret)),
  [.t 4], false, true, 9⟩
theorem co42 : compF Try.prog ⟨[], [], [], [], [], [], 42, [], [], []⟩ false true Try.f42 = some ac42 := by kernel_rfl

/-- slices.Clone[[]string,string] -/
def ac43 : AF := ⟨(.seq (.reg [⟨(some 2), none, .mov (.c (.sl .clip []))⟩])
 (.seq (.seq (.reg [⟨(some 3), none, .mov (.t 0)⟩,
  ⟨(some 4), none, .nilsl false (.t 3)⟩])
 (.cond (.t 4) (.seq (.reg [⟨(some 2), none, .mov (.c (.sl .clip []))⟩])
 .ret)
 .skip))
 (.seq (.reg [⟨(some 5), none, .bslice [(.str [])] 0 []⟩,
  ⟨(some 6), none, .mov (.t 0)⟩,
  ⟨(some 7), none, .append 1 (.t 5) (.t 6)⟩,
  ⟨(some 2), none, .mov (.t 7)⟩])
 .ret))),
  [.t 2], true, false, 8⟩
theorem co43 : compF Try.prog ⟨[], [], [], [], [], [], 43, [], [], []⟩ true false Try.f43 = some ac43 := by kernel_rfl

/-- paideia/paideiaref.Texts -/
def ac44 : AF := ⟨(.seq (.reg [⟨(some 2), none, .mov (.c (.sl .clip []))⟩])
 (.seq (.reg [⟨(some 5), none, .mov (.t 0)⟩,
  ⟨(some 6), none, .len 1 (.t 5)⟩,
  ⟨(some 7), none, .mkslice [(.str [])] (.c (.int .i64 0)) (.t 6)⟩,
  ⟨(some 3), none, .mov (.t 7)⟩])
 (.seq (.seq (.reg [⟨(some 4), none, .mov (.c (.int .i64 0))⟩])
 (.block 0 (.loop [0, 3, 4] [] (.seq (.seq (.reg [⟨(some 8), none, .mov (.t 4)⟩,
  ⟨(some 9), none, .mov (.t 0)⟩,
  ⟨(some 10), none, .len 1 (.t 9)⟩,
  ⟨(some 11), none, .bin .lss (.t 8) (.t 10)⟩])
 (.cond (.t 11) .skip
 (.exit 0)))
 (.seq (.block 1 (.reg [⟨(some 14), none, .mov (.t 3)⟩,
  ⟨(some 15), none, .mov (.t 0)⟩,
  ⟨(some 16), none, .mov (.t 4)⟩,
  ⟨(some 17), none, .iaddr 1 (.t 15) (.t 16)⟩,
  ⟨(some 18), none, .load none (.t 17)⟩,
  ⟨(some 19), none, .bslice [(.str [])] 1 [(0, (.t 18))]⟩,
  ⟨(some 20), none, .append 1 (.t 14) (.t 19)⟩,
  ⟨(some 3), none, .mov (.t 20)⟩]))
 (.reg [⟨(some 12), none, .mov (.t 4)⟩,
  ⟨(some 13), none, .bin .add (.t 12) (.c (.int .i64 1))⟩,
  ⟨(some 4), none, .mov (.t 13)⟩]))))))
 (.seq (.reg [⟨(some 21), none, .mov (.t 3)⟩,
  ⟨(some 2), none, .mov (.t 21)⟩])
 .ret)))),
  [.t 2], true, false, 22⟩
theorem co44 : compF Try.prog ⟨[], [(3, [0, 3, 4], [])], [], [], [], [], 44, [], [], []⟩ true false Try.f44 = some ac44 := by kernel_rfl

/-- slices.IndexFunc[[]paideia/api.Type,paideia/api.Type] -/
def ac45 : AF := ⟨(.seq (.reg [⟨(some 4), none, .mov (.c (.int .i64 0))⟩])
 (.seq (.seq (.reg [⟨(some 6), none, .mov (.t 0)⟩,
  ⟨(some 7), none, .len 1 (.t 6)⟩,
  ⟨(some 8), none, .mov (.c (.int .i64 0))⟩])
 (.block 0 (.loop [0, 1, 7, 8] [] (.seq (.reg [⟨(some 9), none, .bin .lss (.t 8) (.t 7)⟩])
 (.seq (.cond (.t 9) .skip
 (.exit 0))
 (.seq (.block 1 (.seq (.reg [⟨(some 10), none, .mov (.t 8)⟩,
  ⟨(some 5), none, .mov (.t 10)⟩])
 (.seq (.reg [⟨(some 11), none, .mov (.t 1)⟩,
  ⟨(some 12), none, .mov (.t 0)⟩,
  ⟨(some 13), none, .mov (.t 5)⟩,
  ⟨(some 14), none, .iaddr 3 (.t 12) (.t 13)⟩,
  ⟨(some 15), none, .load (some 3) (.t 14)⟩,
  ⟨(some 16), none, .call 0 [] (.t 11) [(.t 15)]⟩])
 (.cond (.t 16) (.seq (.reg [⟨(some 17), none, .mov (.t 5)⟩,
  ⟨(some 4), none, .mov (.t 17)⟩])
 .ret)
 .skip))))
 (.reg [⟨(some 18), none, .bin .add (.t 8) (.c (.int .i64 1))⟩,
  ⟨(some 8), none, .mov (.t 18)⟩])))))))
 (.seq (.reg [⟨(some 4), none, .mov (.c (.int .i64 (-1)))⟩])
 .ret))),
  [.t 4], false, true, 19⟩
theorem co45 : compF Try.prog ⟨[], [(2, [0, 1, 7, 8], [])], [], [], [], [], 45, [], [], []⟩ false true Try.f45 = some ac45 := by kernel_rfl

/-- cmp.isNaN[int] -/
def ac46 : AF := ⟨(.seq (.reg [⟨(some 2), none, .mov (.c (.bool false))⟩])
 (.seq (.reg [⟨(some 3), none, .mov (.t 0)⟩,
  ⟨(some 4), none, .mov (.t 0)⟩,
  ⟨(some 5), none, .bin .neq (.t 3) (.t 4)⟩,
  ⟨(some 2), none, .mov (.t 5)⟩])
 .ret)),
  [.t 2], false, true, 6⟩
theorem co46 : compF Try.prog ⟨[], [], [], [], [], [], 46, [], [], []⟩ false true Try.f46 = some ac46 := by kernel_rfl

/-- internal/bytealg.CompareString -/
def ac47 : AF := ⟨(.seq (.reg [⟨(some 4), none, .mov (.c (.int .i64 0))⟩])
 (.seq (.reg [⟨(some 5), none, .mov (.t 0)⟩,
  ⟨(some 6), none, .mov (.t 1)⟩,
  ⟨(some 7), none, .call 0 [] (.c (.fn 50 [])) [(.t 5), (.t 6)]⟩,
  ⟨(some 4), none, .mov (.t 7)⟩])
 .ret)),
  [.t 4], false, true, 8⟩
theorem co47 : compF Try.prog ⟨[], [], [], [], [], [], 47, [], [], []⟩ false true Try.f47 = some ac47 := by kernel_rfl

/-- slices.Clone[[]paideia/api.Type,paideia/api.Type] -/
def ac48 : AF := ⟨(.seq (.reg [⟨(some 2), none, .mov (.c (.sl .clip []))⟩])
 (.seq (.seq (.reg [⟨(some 3), none, .mov (.t 0)⟩,
  ⟨(some 4), none, .nilsl false (.t 3)⟩])
 (.cond (.t 4) (.seq (.reg [⟨(some 2), none, .mov (.c (.sl .clip []))⟩])
 .ret)
 .skip))
 (.seq (.reg [⟨(some 5), none, .bslice [(.int .i64 0), (.str []), (.sl .clip [])] 0 []⟩,
  ⟨(some 6), none, .mov (.t 0)⟩,
  ⟨(some 7), none, .append 3 (.t 5) (.t 6)⟩,
  ⟨(some 2), none, .mov (.t 7)⟩])
 .ret))),
  [.t 2], false, true, 8⟩
theorem co48 : compF Try.prog ⟨[], [], [], [], [], [], 48, [], [], []⟩ false true Try.f48 = some ac48 := by kernel_rfl

/-- slices.Index[[]string,string] -/
def ac49 : AF := ⟨(.seq (.reg [⟨(some 4), none, .mov (.c (.int .i64 0))⟩])
 (.seq (.seq (.reg [⟨(some 6), none, .mov (.t 0)⟩,
  ⟨(some 7), none, .len 1 (.t 6)⟩,
  ⟨(some 8), none, .mov (.c (.int .i64 0))⟩])
 (.block 0 (.loop [0, 1, 7, 8] [] (.seq (.reg [⟨(some 9), none, .bin .lss (.t 8) (.t 7)⟩])
 (.seq (.cond (.t 9) .skip
 (.exit 0))
 (.seq (.block 1 (.seq (.reg [⟨(some 10), none, .mov (.t 8)⟩,
  ⟨(some 5), none, .mov (.t 10)⟩])
 (.seq (.reg [⟨(some 11), none, .mov (.t 1)⟩,
  ⟨(some 12), none, .mov (.t 0)⟩,
  ⟨(some 13), none, .mov (.t 5)⟩,
  ⟨(some 14), none, .iaddr 1 (.t 12) (.t 13)⟩,
  ⟨(some 15), none, .load none (.t 14)⟩,
  ⟨(some 16), none, .bin .eql (.t 11) (.t 15)⟩])
 (.cond (.t 16) (.seq (.reg [⟨(some 17), none, .mov (.t 5)⟩,
  ⟨(some 4), none, .mov (.t 17)⟩])
 .ret)
 .skip))))
 (.reg [⟨(some 18), none, .bin .add (.t 8) (.c (.int .i64 1))⟩,
  ⟨(some 8), none, .mov (.t 18)⟩])))))))
 (.seq (.reg [⟨(some 4), none, .mov (.c (.int .i64 (-1)))⟩])
 .ret))),
  [.t 4], false, true, 19⟩
theorem co49 : compF Try.prog ⟨[], [(2, [0, 1, 7, 8], [])], [], [], [], [], 49, [], [], []⟩ false true Try.f49 = some ac49 := by kernel_rfl


theorem prim50 : PrimOkG Try.prog [] 50 cmpP := (cmpP_ok Try.func50 (by kernel_rfl) (by kernel_rfl) (by kernel_rfl) (by kernel_rfl)).g

def ap2 : AP := fun f vr => match f, vr with
  | 50, 0 => some (.prim cmpP)
  | _, _ => none

theorem table2 : TableOk Try.prog ap2 [] := by
  intro f vr fd h
  unfold ap2 at h
  split at h
  · cases h; exact prim50
  · cases h

def ap1 : AP := fun f vr => match f, vr with
  | 28, 0 => some (.code ac28)
  | 29, 0 => some (.code ac29)
  | 30, 0 => some (.code ac30)
  | 31, 0 => some (.code ac31)
  | 32, 0 => some (.code ac32)
  | 33, 0 => some (.code ac33)
  | 34, 0 => some (.code ac34)
  | 35, 0 => some (.code ac35)
  | 36, 0 => some (.code ac36)
  | 37, 0 => some (.code ac37)
  | 38, 0 => some (.code ac38)
  | 39, 0 => some (.code ac39)
  | 40, 0 => some (.code ac40)
  | 41, 0 => some (.code ac41)
  | 42, 0 => some (.code ac42)
  | 43, 0 => some (.code ac43)
  | 44, 0 => some (.code ac44)
  | 45, 0 => some (.code ac45)
  | 46, 0 => some (.code ac46)
  | 47, 0 => some (.code ac47)
  | 48, 0 => some (.code ac48)
  | 49, 0 => some (.code ac49)
  | 192, 77 => some (.body ab3_0)
  | 256, 77 => some (.body ab4_0)
  | 257, 77 => some (.body ab4_1)
  | f, vr => ap2 f vr

theorem table1 : TableOk Try.prog ap1 [] := by
  intro f vr fd h
  unfold ap1 at h
  split at h
  · cases h; exact ⟨_, _, Try.func28, co28, by decide, rfl⟩
  · cases h; exact ⟨_, _, Try.func29, co29, by decide, rfl⟩
  · cases h; exact ⟨_, _, Try.func30, co30, by decide, rfl⟩
  · cases h; exact ⟨_, _, Try.func31, co31, by decide, rfl⟩
  · cases h; exact ⟨_, _, Try.func32, co32, by decide, rfl⟩
  · cases h; exact ⟨_, _, Try.func33, co33, by decide, rfl⟩
  · cases h; exact ⟨_, _, Try.func34, co34, by decide, rfl⟩
  · cases h; exact ⟨_, _, Try.func35, co35, by decide, rfl⟩
  · cases h; exact ⟨_, _, Try.func36, co36, by decide, rfl⟩
  · cases h; exact ⟨_, _, Try.func37, co37, by decide, rfl⟩
  · cases h; exact ⟨_, _, Try.func38, co38, by decide, rfl⟩
  · cases h; exact ⟨_, _, Try.func39, co39, by decide, rfl⟩
  · cases h; exact ⟨_, _, Try.func40, co40, by decide, rfl⟩
  · cases h; exact ⟨_, _, Try.func41, co41, by decide, rfl⟩
  · cases h; exact ⟨_, _, Try.func42, co42, by decide, rfl⟩
  · cases h; exact ⟨_, _, Try.func43, co43, by decide, rfl⟩
  · cases h; exact ⟨_, _, Try.func44, co44, by decide, rfl⟩
  · cases h; exact ⟨_, _, Try.func45, co45, by decide, rfl⟩
  · cases h; exact ⟨_, _, Try.func46, co46, by decide, rfl⟩
  · cases h; exact ⟨_, _, Try.func47, co47, by decide, rfl⟩
  · cases h; exact ⟨_, _, Try.func48, co48, by decide, rfl⟩
  · cases h; exact ⟨_, _, Try.func49, co49, by decide, rfl⟩
  · cases h; exact tab_body (key := 192) Try.func3 cb3_0 (by decide)
  · cases h; exact tab_body (key := 256) Try.func4 cb4_0 (by decide)
  · cases h; exact tab_body (key := 257) Try.func4 cb4_1 (by decide)
  · exact table2 _ _ _ h

def ap0 : AP := fun f vr => match f, vr with
  | 3, 0 => some (.code ac3)
  | 4, 0 => some (.code ac4)
  | 5, 0 => some (.code ac5)
  | 6, 0 => some (.code ac6)
  | 7, 0 => some (.code ac7)
  | 8, 0 => some (.code ac8)
  | 9, 0 => some (.code ac9)
  | 10, 0 => some (.code ac10)
  | 11, 0 => some (.code ac11)
  | 12, 0 => some (.code ac12)
  | 13, 0 => some (.code ac13)
  | 14, 0 => some (.code ac14)
  | 15, 0 => some (.code ac15)
  | 16, 0 => some (.code ac16)
  | 17, 0 => some (.code ac17)
  | 18, 0 => some (.code ac18)
  | 19, 0 => some (.code ac19)
  | 20, 0 => some (.code ac20)
  | 21, 0 => some (.code ac21)
  | 22, 0 => some (.code ac22)
  | 23, 0 => some (.code ac23)
  | 24, 0 => some (.code ac24)
  | 25, 0 => some (.code ac25)
  | 26, 0 => some (.code ac26)
  | 27, 0 => some (.code ac27)
  | f, vr => ap1 f vr

theorem table0 : TableOk Try.prog ap0 [] := by
  intro f vr fd h
  unfold ap0 at h
  split at h
  · cases h; exact ⟨_, _, Try.func3, co3, by decide, rfl⟩
  · cases h; exact ⟨_, _, Try.func4, co4, by decide, rfl⟩
  · cases h; exact ⟨_, _, Try.func5, co5, by decide, rfl⟩
  · cases h; exact ⟨_, _, Try.func6, co6, by decide, rfl⟩
  · cases h; exact ⟨_, _, Try.func7, co7, by decide, rfl⟩
  · cases h; exact ⟨_, _, Try.func8, co8, by decide, rfl⟩
  · cases h; exact ⟨_, _, Try.func9, co9, by decide, rfl⟩
  · cases h; exact ⟨_, _, Try.func10, co10, by decide, rfl⟩
  · cases h; exact ⟨_, _, Try.func11, co11, by decide, rfl⟩
  · cases h; exact ⟨_, _, Try.func12, co12, by decide, rfl⟩
  · cases h; exact ⟨_, _, Try.func13, co13, by decide, rfl⟩
  · cases h; exact ⟨_, _, Try.func14, co14, by decide, rfl⟩
  · cases h; exact ⟨_, _, Try.func15, co15, by decide, rfl⟩
  · cases h; exact ⟨_, _, Try.func16, co16, by decide, rfl⟩
  · cases h; exact ⟨_, _, Try.func17, co17, by decide, rfl⟩
  · cases h; exact ⟨_, _, Try.func18, co18, by decide, rfl⟩
  · cases h; exact ⟨_, _, Try.func19, co19, by decide, rfl⟩
  · cases h; exact ⟨_, _, Try.func20, co20, by decide, rfl⟩
  · cases h; exact ⟨_, _, Try.func21, co21, by decide, rfl⟩
  · cases h; exact ⟨_, _, Try.func22, co22, by decide, rfl⟩
  · cases h; exact ⟨_, _, Try.func23, co23, by decide, rfl⟩
  · cases h; exact ⟨_, _, Try.func24, co24, by decide, rfl⟩
  · cases h; exact ⟨_, _, Try.func25, co25, by decide, rfl⟩
  · cases h; exact ⟨_, _, Try.func26, co26, by decide, rfl⟩
  · cases h; exact ⟨_, _, Try.func27, co27, by decide, rfl⟩
  · exact table1 _ _ _ h

def ap : AP := ap0
theorem tableOk : TableOk Try.prog ap [] := table0

end Go.Vt
