/- The seat's functions on the abstract machine. -/
import Derived.Test.YtgngmbnbldkgnaaDoorAmX
import Derived.Test.YtgngmbnbldkgnaaDoorAmZ
import Derived.Test.YtgngmbnbldkgnaaDoorAmL
import Derived.Test.YtgngmbnbldkgnaaDoorAmU
import Derived.Test.YtgngmbnbldkgnaaDoorAmI
import Derived.Test.YtgngmbnbldkgnaaDoorStShelf
import Derived.Test.YtgngmbnbldkgnaaDoorProg
namespace Go.St
open Go.Am Go.Proofs

set_option maxRecDepth 100000
/-- paideia/paideialaw8.SchemeFresh -/
def ac3 : AF := ⟨(.seq (.reg [⟨(some 4), none, .mov (.c (.bool false))⟩])
 (.seq (.reg [⟨(some 14), none, .call 0 [] (.c (.fn 6 [])) []⟩,
  ⟨(some 5), none, .mov (.t 14)⟩])
 (.seq (.seq (.reg [⟨(some 15), none, .mov (.t 5)⟩,
  ⟨(some 16), none, .not (.t 15)⟩])
 (.cond (.t 16) (.seq (.reg [⟨(some 4), none, .mov (.c (.bool false))⟩])
 .ret)
 .skip))
 (.seq (.seq (.reg [⟨(some 17), none, .mov (.t 0)⟩,
  ⟨(some 18), none, .len 1 (.t 17)⟩,
  ⟨(some 19), none, .bin .gtr (.t 18) (.c (.int .i64 100))⟩])
 (.cond (.t 19) (.seq (.reg [⟨(some 20), none, .mov (.t 5)⟩,
  ⟨(some 4), none, .mov (.t 20)⟩])
 .ret)
 .skip))
 (.seq (.seq (.reg [⟨(some 21), none, .mov (.t 1)⟩,
  ⟨(some 22), none, .bin .lss (.t 21) (.c (.int .i64 0))⟩])
 (.cond (.t 22) (.reg [⟨(some 23), none, .mov (.t 1)⟩,
  ⟨(some 24), none, .bin .add (.t 23) (.c (.int .i64 1))⟩,
  ⟨(some 25), none, .neg (.t 24)⟩,
  ⟨(some 1), none, .mov (.t 25)⟩])
 .skip))
 (.seq (.reg [⟨(some 26), none, .mov (.t 1)⟩,
  ⟨(some 27), none, .bin .rem (.t 26) (.c (.int .i64 1000))⟩,
  ⟨(some 1), none, .mov (.t 27)⟩])
 (.seq (.reg [⟨(some 28), none, .mov (.t 0)⟩,
  ⟨(some 29), none, .build [(.sl .clip []), (.int .i64 0)] [(0, 1, (.t 28))]⟩,
  ⟨(some 30), none, .box (.t 29) 2 true⟩,
  ⟨(some 6), none, .mov (.t 30)⟩])
 (.seq (.reg [⟨(some 31), none, .mov (.t 6)⟩,
  ⟨(some 32), none, .call 0 [] (.c (.fn 7 [])) [(.t 31), (.c (.int .i64 3))]⟩,
  ⟨(some 7), none, .alloc [(.int .i64 0), (.str []), (.sl .clip [])] false⟩,
  ⟨none, none, .store 3 (.t 7) (.t 32)⟩])
 (.seq (.reg [⟨(some 33), none, .mov (.t 6)⟩,
  ⟨(some 34), none, .call 0 [] (.c (.fn 8 [])) [(.t 33), (.c (.int .i64 3)), (.c (.int .i64 1))]⟩,
  ⟨(some 8), none, .mov (.t 34)⟩])
 (.seq (.reg [⟨(some 35), none, .mov (.t 8)⟩,
  ⟨(some 36), none, .load (some 3) (.t 7)⟩,
  ⟨(some 37), none, .call 0 [] (.c (.fn 9 [])) [(.t 35), (.t 36), (.c (.sl .clip []))]⟩,
  ⟨(some 9), none, .alloc [(.sl .clip []), (.sl .clip []), (.int .i64 0), (.str []), (.sl .clip [])] false⟩,
  ⟨none, none, .store 5 (.t 9) (.t 37)⟩])
 (.seq (.reg [⟨(some 39), none, .load (some 5) (.t 9)⟩,
  ⟨(some 40), none, .mov (.t 1)⟩,
  ⟨(some 41), none, .call 0 [] (.c (.fn 10 [])) [(.t 39), (.t 40)]⟩,
  ⟨(some 38), none, .mov (.t 41)⟩,
  ⟨(some 42), none, .extract (.t 38) 0⟩,
  ⟨(some 43), none, .extract (.t 38) 1⟩,
  ⟨(some 10), none, .alloc [(.sl .clip []), (.sl .clip []), (.int .i64 0), (.str []), (.sl .clip [])] false⟩,
  ⟨none, none, .store 5 (.t 10) (.t 42)⟩,
  ⟨(some 11), none, .mov (.t 43)⟩])
 (.seq (.seq (.reg [⟨(some 44), none, .mov (.t 11)⟩,
  ⟨(some 45), none, .mov (.t 1)⟩,
  ⟨(some 46), none, .faddr 0 (.t 9)⟩,
  ⟨(some 47), none, .load none (.t 46)⟩,
  ⟨(some 48), none, .len 1 (.t 47)⟩,
  ⟨(some 49), none, .bin .add (.t 45) (.t 48)⟩,
  ⟨(some 50), none, .bin .neq (.t 44) (.t 49)⟩,
  ⟨(some 51), none, .mov (.t 50)⟩,
  ⟨(some 52), (some (51, false)), .faddr 0 (.t 10)⟩,
  ⟨(some 53), (some (51, false)), .load none (.t 52)⟩,
  ⟨(some 54), (some (51, false)), .len 1 (.t 53)⟩,
  ⟨(some 55), (some (51, false)), .faddr 0 (.t 9)⟩,
  ⟨(some 56), (some (51, false)), .load none (.t 55)⟩,
  ⟨(some 57), (some (51, false)), .len 1 (.t 56)⟩,
  ⟨(some 58), (some (51, false)), .bin .neq (.t 54) (.t 57)⟩,
  ⟨(some 59), none, .pick (.t 51) (.c (.bool true)) (.t 58)⟩])
 (.cond (.t 59) (.seq (.reg [⟨(some 4), none, .mov (.c (.bool false))⟩])
 .ret)
 .skip))
 (.seq (.reg [⟨(some 12), none, .mov (.c (.sl .clip []))⟩])
 (.seq (.seq (.reg [⟨(some 13), none, .mov (.c (.int .i64 0))⟩])
 (.block 0 (.loop [5, 12, 13] [9, 10] (.seq (.seq (.reg [⟨(some 60), none, .mov (.t 13)⟩,
  ⟨(some 61), none, .faddr 0 (.t 10)⟩,
  ⟨(some 62), none, .load none (.t 61)⟩,
  ⟨(some 63), none, .len 1 (.t 62)⟩,
  ⟨(some 64), none, .bin .lss (.t 60) (.t 63)⟩])
 (.cond (.t 64) .skip
 (.exit 0)))
 (.seq (.block 1 (.seq (.seq (.reg [⟨(some 67), none, .faddr 0 (.t 10)⟩,
  ⟨(some 68), none, .load none (.t 67)⟩,
  ⟨(some 69), none, .mov (.t 13)⟩,
  ⟨(some 70), none, .slice 1 (.t 68) none (some (.t 69)) none⟩,
  ⟨(some 71), none, .faddr 0 (.t 10)⟩,
  ⟨(some 72), none, .load none (.t 71)⟩,
  ⟨(some 73), none, .mov (.t 13)⟩,
  ⟨(some 74), none, .iaddr 1 (.t 72) (.t 73)⟩,
  ⟨(some 75), none, .load none (.t 74)⟩,
  ⟨(some 76), none, .call 0 [] (.c (.fn 11 [])) [(.t 70), (.t 75)]⟩,
  ⟨(some 77), none, .mov (.t 76)⟩,
  ⟨(some 78), (some (77, false)), .faddr 0 (.t 10)⟩,
  ⟨(some 79), (some (77, false)), .load none (.t 78)⟩,
  ⟨(some 80), (some (77, false)), .mov (.t 13)⟩,
  ⟨(some 81), (some (77, false)), .iaddr 1 (.t 79) (.t 80)⟩,
  ⟨(some 82), (some (77, false)), .load none (.t 81)⟩,
  ⟨(some 83), (some (77, false)), .len 0 (.t 82)⟩,
  ⟨(some 84), (some (77, false)), .bin .lss (.t 83) (.c (.int .i64 2))⟩,
  ⟨(some 85), none, .pick (.t 77) (.c (.bool true)) (.t 84)⟩,
  ⟨(some 86), none, .mov (.t 85)⟩,
  ⟨(some 87), (some (86, false)), .faddr 0 (.t 10)⟩,
  ⟨(some 88), (some (86, false)), .load none (.t 87)⟩,
  ⟨(some 89), (some (86, false)), .mov (.t 13)⟩,
  ⟨(some 90), (some (86, false)), .iaddr 1 (.t 88) (.t 89)⟩,
  ⟨(some 91), (some (86, false)), .load none (.t 90)⟩,
  ⟨(some 92), (some (86, false)), .sindex (.t 91) (.c (.int .i64 0))⟩,
  ⟨(some 93), (some (86, false)), .bin .neq (.t 92) (.c (.int .u8 63))⟩,
  ⟨(some 94), none, .pick (.t 86) (.c (.bool true)) (.t 93)⟩])
 (.cond (.t 94) (.seq (.reg [⟨(some 4), none, .mov (.c (.bool false))⟩])
 .ret)
 .skip))
 (.reg [⟨(some 95), none, .mov (.t 12)⟩,
  ⟨(some 96), none, .faddr 0 (.t 10)⟩,
  ⟨(some 97), none, .loadL none (.t 96)⟩,
  ⟨(some 98), none, .mov (.t 13)⟩,
  ⟨(some 99), none, .iaddr 1 (.t 97) (.t 98)⟩,
  ⟨(some 100), none, .loadL none (.t 99)⟩,
  ⟨(some 101), none, .faddr 0 (.t 9)⟩,
  ⟨(some 102), none, .load none (.t 101)⟩,
  ⟨(some 103), none, .mov (.t 13)⟩,
  ⟨(some 104), none, .iaddr 1 (.t 102) (.t 103)⟩,
  ⟨(some 105), none, .load none (.t 104)⟩,
  ⟨(some 106), none, .call 0 [] (.c (.fn 12 [])) [(.t 105)]⟩,
  ⟨(some 107), none, .build [(.str []), (.int .i64 0), (.str []), (.sl .clip [])] [(0, 1, (.t 100)), (1, 3, (.t 106))]⟩,
  ⟨(some 108), none, .bslice [(.str []), (.int .i64 0), (.str []), (.sl .clip [])] 1 [(0, (.t 107))]⟩,
  ⟨(some 109), none, .append 4 (.t 95) (.t 108)⟩,
  ⟨(some 12), none, .mov (.t 109)⟩])))
 (.reg [⟨(some 65), none, .mov (.t 13)⟩,
  ⟨(some 66), none, .bin .add (.t 65) (.c (.int .i64 1))⟩,
  ⟨(some 13), none, .mov (.t 66)⟩]))))))
 (.seq (.reg [⟨(some 110), none, .mov (.t 5)⟩,
  ⟨(some 111), none, .mov (.t 110)⟩,
  ⟨(some 112), (some (111, true)), .mov (.t 12)⟩,
  ⟨(some 113), (some (111, true)), .faddr 2 (.t 10)⟩,
  ⟨(some 114), (some (111, true)), .load (some 3) (.t 113)⟩,
  ⟨(some 115), (some (111, true)), .call 0 [] (.c (.fn 14 [])) [(.t 112), (.t 114)]⟩,
  ⟨(some 116), (some (111, true)), .faddr 2 (.t 9)⟩,
  ⟨(some 117), (some (111, true)), .loadL (some 3) (.t 116)⟩,
  ⟨(some 118), (some (111, true)), .call 0 [] (.c (.fn 13 [])) [(.t 115), (.t 117)]⟩,
  ⟨(some 119), none, .pick (.t 111) (.t 118) (.c (.bool false))⟩,
  ⟨(some 120), none, .mov (.t 119)⟩,
  ⟨(some 121), (some (120, true)), .mov (.t 12)⟩,
  ⟨(some 122), (some (120, true)), .faddr 1 (.t 10)⟩,
  ⟨(some 123), (some (120, true)), .load none (.t 122)⟩,
  ⟨(some 124), (some (120, true)), .call 0 [] (.c (.fn 16 [])) [(.t 121), (.t 123)]⟩,
  ⟨(some 125), (some (120, true)), .faddr 1 (.t 9)⟩,
  ⟨(some 126), (some (120, true)), .loadL none (.t 125)⟩,
  ⟨(some 127), (some (120, true)), .call 0 [] (.c (.fn 15 [])) [(.t 124), (.t 126)]⟩,
  ⟨(some 128), none, .pick (.t 120) (.t 127) (.c (.bool false))⟩,
  ⟨(some 4), none, .mov (.t 128)⟩])
 .ret))))))))))))))),
  [.t 4], false, true, 129⟩
theorem co3 : compF Tryd.prog ⟨[30], [(18, [5, 12, 13], [9, 10])], [], [], [], []⟩ false true Tryd.f3 = some ac3 := by kernel_rfl

/-- paideia/paideialaw8.first -/
def ac6 : AF := ⟨(.seq (.reg [⟨(some 0), none, .mov (.c (.bool false))⟩])
 (.seq (.reg [⟨(some 1), none, .call 0 [] (.c (.fn 26 [])) [(.c (.int .i64 27))]⟩,
  ⟨(some 2), none, .bin .eql (.t 1) (.c (.str [98, 49]))⟩,
  ⟨(some 3), none, .mov (.t 2)⟩,
  ⟨(some 4), (some (3, true)), .call 0 [] (.c (.fn 26 [])) [(.c (.int .i64 0))]⟩,
  ⟨(some 5), (some (3, true)), .bin .eql (.t 4) (.c (.str [97]))⟩,
  ⟨(some 6), none, .pick (.t 3) (.t 5) (.c (.bool false))⟩,
  ⟨(some 7), none, .mov (.t 6)⟩,
  ⟨(some 8), (some (7, true)), .call 0 [] (.c (.fn 26 [])) [(.c (.int .i64 (-3)))]⟩,
  ⟨(some 9), (some (7, true)), .bin .eql (.t 8) (.c (.str [97]))⟩,
  ⟨(some 10), none, .pick (.t 7) (.t 9) (.c (.bool false))⟩,
  ⟨(some 0), none, .mov (.t 10)⟩])
 .ret)),
  [.t 0], false, true, 11⟩
theorem co6 : compF Tryd.prog ⟨[], [], [], [], [], []⟩ false true Tryd.f6 = some ac6 := by kernel_rfl

/-- paideia/paideiamake.Type -/
def ac7 : AF := ⟨(.seq (.reg [⟨(some 4), none, .alloc [(.int .i64 0), (.str []), (.sl .clip [])] false⟩])
 (.seq (.reg [⟨(some 8), none, .mov (.t 0)⟩,
  ⟨(some 9), none, .call 0 [] (.c (.fn 27 [])) [(.t 8), (.c (.int .i64 9))]⟩,
  ⟨(some 5), none, .mov (.t 9)⟩])
 (.seq (.seq (.reg [⟨(some 10), none, .mov (.t 1)⟩,
  ⟨(some 11), none, .bin .lss (.t 10) (.c (.int .i64 1))⟩])
 (.cond (.t 11) (.reg [⟨(some 12), none, .mov (.t 5)⟩,
  ⟨(some 13), none, .bin .rem (.t 12) (.c (.int .i64 5))⟩,
  ⟨(some 5), none, .mov (.t 13)⟩])
 .skip))
 (.seq (.seq (.reg [⟨(some 14), none, .mov (.t 5)⟩])
 (.block 0 (.seq (.seq (.reg [⟨(some 16), none, .bin .eql (.t 14) (.c (.int .i64 0))⟩,
  ⟨(some 15), none, .mov (.t 16)⟩])
 (.cond (.t 15) .skip
 (.seq (.reg [⟨(some 17), none, .bin .eql (.t 14) (.c (.int .i64 1))⟩,
  ⟨(some 15), none, .mov (.t 17)⟩])
 (.cond (.t 15) .skip
 (.reg [⟨(some 18), none, .bin .eql (.t 14) (.c (.int .i64 2))⟩,
  ⟨(some 15), none, .mov (.t 18)⟩])))))
 (.cond (.t 15) (.seq (.reg [⟨(some 19), none, .bslice [(.str [])] 3 [(0, (.c (.str [97]))), (1, (.c (.str [98]))), (2, (.c (.str [99])))]⟩,
  ⟨(some 20), none, .mov (.t 5)⟩,
  ⟨(some 21), none, .iaddr 1 (.t 19) (.t 20)⟩,
  ⟨(some 22), none, .load none (.t 21)⟩,
  ⟨(some 23), none, .call 0 [] (.c (.fn 12 [])) [(.t 22)]⟩,
  ⟨none, none, .store 3 (.t 4) (.t 23)⟩])
 .ret)
 (.seq (.reg [⟨(some 25), none, .bin .eql (.t 14) (.c (.int .i64 3))⟩,
  ⟨(some 24), none, .mov (.t 25)⟩])
 (.cond (.t 24) (.seq (.reg [⟨(some 26), none, .call 0 [] (.c (.fn 28 [])) [(.c (.str [73, 110, 116])), (.c (.sl .clip []))]⟩,
  ⟨none, none, .store 3 (.t 4) (.t 26)⟩])
 .ret)
 (.seq (.reg [⟨(some 28), none, .bin .eql (.t 14) (.c (.int .i64 4))⟩,
  ⟨(some 27), none, .mov (.t 28)⟩])
 (.cond (.t 27) (.seq (.reg [⟨(some 29), none, .call 0 [] (.c (.fn 28 [])) [(.c (.str [66, 111, 111, 108])), (.c (.sl .clip []))]⟩,
  ⟨none, none, .store 3 (.t 4) (.t 29)⟩])
 .ret)
 (.seq (.reg [⟨(some 31), none, .bin .eql (.t 14) (.c (.int .i64 5))⟩,
  ⟨(some 30), none, .mov (.t 31)⟩])
 (.cond (.t 30) (.seq (.reg [⟨(some 32), none, .mov (.t 0)⟩,
  ⟨(some 33), none, .mov (.t 1)⟩,
  ⟨(some 34), none, .bin .sub (.t 33) (.c (.int .i64 1))⟩,
  ⟨(some 35), none, .call 0 [] (.c (.fn 7 [])) [(.t 32), (.t 34)]⟩,
  ⟨(some 36), none, .bslice [(.int .i64 0), (.str []), (.sl .clip [])] 1 [(0, (.t 35))]⟩,
  ⟨(some 37), none, .call 0 [] (.c (.fn 28 [])) [(.c (.str [76, 105, 115, 116])), (.t 36)]⟩,
  ⟨none, none, .store 3 (.t 4) (.t 37)⟩])
 .ret)
 (.seq (.reg [⟨(some 39), none, .bin .eql (.t 14) (.c (.int .i64 6))⟩,
  ⟨(some 38), none, .mov (.t 39)⟩])
 (.cond (.t 38) (.seq (.reg [⟨(some 40), none, .mov (.t 0)⟩,
  ⟨(some 41), none, .mov (.t 1)⟩,
  ⟨(some 42), none, .bin .sub (.t 41) (.c (.int .i64 1))⟩,
  ⟨(some 43), none, .call 0 [] (.c (.fn 7 [])) [(.t 40), (.t 42)]⟩,
  ⟨(some 6), none, .alloc [(.int .i64 0), (.str []), (.sl .clip [])] false⟩,
  ⟨none, none, .store 3 (.t 6) (.t 43)⟩])
 (.seq (.reg [⟨(some 44), none, .loadL (some 3) (.t 6)⟩,
  ⟨(some 45), none, .mov (.t 0)⟩,
  ⟨(some 46), none, .mov (.t 1)⟩,
  ⟨(some 47), none, .bin .sub (.t 46) (.c (.int .i64 1))⟩,
  ⟨(some 48), none, .call 0 [] (.c (.fn 7 [])) [(.t 45), (.t 47)]⟩,
  ⟨(some 49), none, .bslice [(.int .i64 0), (.str []), (.sl .clip [])] 2 [(0, (.t 44)), (1, (.t 48))]⟩,
  ⟨(some 50), none, .call 0 [] (.c (.fn 28 [])) [(.c (.str [80, 97, 105, 114])), (.t 49)]⟩,
  ⟨none, none, .store 3 (.t 4) (.t 50)⟩])
 .ret))
 .skip))))))))))))
 (.seq (.reg [⟨(some 51), none, .mov (.t 0)⟩,
  ⟨(some 52), none, .mov (.t 1)⟩,
  ⟨(some 53), none, .bin .sub (.t 52) (.c (.int .i64 1))⟩,
  ⟨(some 54), none, .call 0 [] (.c (.fn 7 [])) [(.t 51), (.t 53)]⟩,
  ⟨(some 7), none, .alloc [(.int .i64 0), (.str []), (.sl .clip [])] false⟩,
  ⟨none, none, .store 3 (.t 7) (.t 54)⟩])
 (.seq (.reg [⟨(some 55), none, .loadL (some 3) (.t 7)⟩,
  ⟨(some 56), none, .mov (.t 0)⟩,
  ⟨(some 57), none, .mov (.t 1)⟩,
  ⟨(some 58), none, .bin .sub (.t 57) (.c (.int .i64 1))⟩,
  ⟨(some 59), none, .call 0 [] (.c (.fn 7 [])) [(.t 56), (.t 58)]⟩,
  ⟨(some 60), none, .call 0 [] (.c (.fn 29 [])) [(.t 55), (.t 59)]⟩,
  ⟨none, none, .store 3 (.t 4) (.t 60)⟩])
 .ret)))))),
  [.cell 4 (some 3)], false, true, 61⟩
theorem co7 : compF Tryd.prog ⟨[], [], [], [], [], []⟩ false true Tryd.f7 = some ac7 := by kernel_rfl

/-- paideia/paideiamake.Preds -/
def ac8 : AF := ⟨(.seq (.reg [⟨(some 6), none, .mov (.c (.sl .clip []))⟩])
 (.seq (.reg [⟨(some 7), none, .mov (.c (.sl .clip []))⟩])
 (.seq (.seq (.reg [⟨(some 9), none, .mov (.t 0)⟩,
  ⟨(some 10), none, .mov (.t 1)⟩,
  ⟨(some 11), none, .bin .add (.t 10) (.c (.int .i64 1))⟩,
  ⟨(some 12), none, .call 0 [] (.c (.fn 27 [])) [(.t 9), (.t 11)]⟩,
  ⟨(some 8), none, .mov (.t 12)⟩])
 (.block 0 (.loop [0, 2, 7, 8] [] (.seq (.seq (.reg [⟨(some 13), none, .mov (.t 8)⟩,
  ⟨(some 14), none, .bin .gtr (.t 13) (.c (.int .i64 0))⟩])
 (.cond (.t 14) .skip
 (.exit 0)))
 (.seq (.block 1 (.reg [⟨(some 17), none, .mov (.t 7)⟩,
  ⟨(some 18), none, .mov (.t 0)⟩,
  ⟨(some 19), none, .mov (.t 2)⟩,
  ⟨(some 20), none, .call 0 [] (.c (.fn 30 [])) [(.t 18), (.t 19)]⟩,
  ⟨(some 21), none, .bslice [(.str []), (.int .i64 0), (.str []), (.sl .clip [])] 1 [(0, (.t 20))]⟩,
  ⟨(some 22), none, .append 4 (.t 17) (.t 21)⟩,
  ⟨(some 7), none, .mov (.t 22)⟩]))
 (.reg [⟨(some 15), none, .mov (.t 8)⟩,
  ⟨(some 16), none, .bin .sub (.t 15) (.c (.int .i64 1))⟩,
  ⟨(some 8), none, .mov (.t 16)⟩]))))))
 (.seq (.reg [⟨(some 23), none, .mov (.t 7)⟩,
  ⟨(some 6), none, .mov (.t 23)⟩])
 .ret)))),
  [.t 6], false, true, 24⟩
theorem co8 : compF Tryd.prog ⟨[], [(3, [0, 2, 7, 8], [])], [], [], [], []⟩ false true Tryd.f8 = some ac8 := by kernel_rfl

/-- paideia/paideiaref4.Close -/
def ac9 : AF := ⟨(.seq (.reg [⟨(some 4), none, .box (.t 1) 3 false⟩,
  ⟨(some 6), none, .alloc [(.sl .clip []), (.sl .clip []), (.int .i64 0), (.str []), (.sl .clip [])] false⟩])
 (.seq (.reg [⟨(some 10), none, .mov (.t 0)⟩,
  ⟨(some 11), none, .load (some 3) (.t 4)⟩,
  ⟨(some 12), none, .build [(.sl .clip []), (.sl .clip []), (.int .i64 0), (.str []), (.sl .clip [])] [(1, 1, (.t 10)), (2, 3, (.t 11))]⟩,
  ⟨(some 7), none, .alloc [(.sl .clip []), (.sl .clip []), (.int .i64 0), (.str []), (.sl .clip [])] false⟩,
  ⟨none, none, .store 5 (.t 7) (.t 12)⟩])
 (.seq (.reg [⟨(some 13), none, .load (some 3) (.t 4)⟩,
  ⟨(some 14), none, .mov (.t 0)⟩,
  ⟨(some 15), none, .call 0 [] (.c (.fn 31 [])) [(.t 13), (.t 14)]⟩,
  ⟨(some 16), none, .call 0 [] (.c (.fn 23 [])) [(.t 15)]⟩,
  ⟨(some 8), none, .mov (.t 16)⟩])
 (.seq (.seq (.reg [⟨(some 9), none, .mov (.c (.int .i64 0))⟩])
 (.block 0 (.loop [2, 8, 9] [6, 7] (.seq (.seq (.reg [⟨(some 17), none, .mov (.t 9)⟩,
  ⟨(some 18), none, .mov (.t 8)⟩,
  ⟨(some 19), none, .len 1 (.t 18)⟩,
  ⟨(some 20), none, .bin .lss (.t 17) (.t 19)⟩])
 (.cond (.t 20) .skip
 (.exit 0)))
 (.seq (.block 1 (.seq (.reg [⟨(some 23), none, .mov (.t 2)⟩,
  ⟨(some 24), none, .mov (.t 8)⟩,
  ⟨(some 25), none, .mov (.t 9)⟩,
  ⟨(some 26), none, .iaddr 1 (.t 24) (.t 25)⟩,
  ⟨(some 27), none, .load none (.t 26)⟩,
  ⟨(some 28), none, .call 0 [] (.c (.fn 11 [])) [(.t 23), (.t 27)]⟩,
  ⟨(some 29), none, .not (.t 28)⟩])
 (.cond (.t 29) (.reg [⟨(some 30), none, .faddr 0 (.t 7)⟩,
  ⟨(some 31), none, .load none (.t 30)⟩,
  ⟨(some 32), none, .mov (.t 8)⟩,
  ⟨(some 33), none, .mov (.t 9)⟩,
  ⟨(some 34), none, .iaddr 1 (.t 32) (.t 33)⟩,
  ⟨(some 35), none, .load none (.t 34)⟩,
  ⟨(some 36), none, .bslice [(.str [])] 1 [(0, (.t 35))]⟩,
  ⟨(some 37), none, .append 1 (.t 31) (.t 36)⟩,
  ⟨(some 38), none, .faddr 0 (.t 7)⟩,
  ⟨none, none, .store 1 (.t 38) (.t 37)⟩])
 .skip)))
 (.reg [⟨(some 21), none, .mov (.t 9)⟩,
  ⟨(some 22), none, .bin .add (.t 21) (.c (.int .i64 1))⟩,
  ⟨(some 9), none, .mov (.t 22)⟩]))))))
 (.seq (.reg [⟨(some 39), none, .load (some 5) (.t 7)⟩,
  ⟨none, none, .store 5 (.t 6) (.t 39)⟩])
 .ret))))),
  [.cell 6 (some 5)], false, true, 40⟩
theorem co9 : compF Tryd.prog ⟨[], [(4, [2, 8, 9], [6, 7])], [], [], [], []⟩ false true Tryd.f9 = some ac9 := by kernel_rfl

/-- paideia/scheme.Fresh -/
def ac10 : AF := ⟨(.seq (.reg [⟨(some 2), none, .box (.t 0) 5 false⟩,
  ⟨(some 4), none, .alloc [(.sl .clip []), (.sl .clip []), (.int .i64 0), (.str []), (.sl .clip [])] false⟩,
  ⟨(some 5), none, .mov (.c (.int .i64 0))⟩])
 (.seq (.reg [⟨(some 6), none, .mov (.c (.sl .clip []))⟩])
 (.seq (.seq (.reg [⟨(some 7), none, .faddr 0 (.t 2)⟩,
  ⟨(some 8), none, .load none (.t 7)⟩,
  ⟨(some 9), none, .len 1 (.t 8)⟩,
  ⟨(some 10), none, .mov (.c (.int .i64 0))⟩])
 (.block 0 (.loop [1, 6, 9, 10] [2, 4] (.seq (.reg [⟨(some 11), none, .bin .lss (.t 10) (.t 9)⟩])
 (.seq (.cond (.t 11) .skip
 (.exit 0))
 (.seq (.block 1 (.seq (.reg [⟨(some 12), none, .mov (.t 6)⟩,
  ⟨(some 13), none, .mov (.t 1)⟩,
  ⟨(some 14), none, .call 0 [] (.c (.fn 32 [])) [(.t 13)]⟩,
  ⟨(some 15), none, .bin .add (.c (.str [63])) (.t 14)⟩,
  ⟨(some 16), none, .bslice [(.str [])] 1 [(0, (.t 15))]⟩,
  ⟨(some 17), none, .append 1 (.t 12) (.t 16)⟩,
  ⟨(some 6), none, .mov (.t 17)⟩])
 (.reg [⟨(some 18), none, .mov (.t 1)⟩,
  ⟨(some 19), none, .bin .add (.t 18) (.c (.int .i64 1))⟩,
  ⟨(some 1), none, .mov (.t 19)⟩])))
 (.reg [⟨(some 20), none, .bin .add (.t 10) (.c (.int .i64 1))⟩,
  ⟨(some 10), none, .mov (.t 20)⟩])))))))
 (.seq (.reg [⟨(some 21), none, .load (some 5) (.t 2)⟩,
  ⟨(some 22), none, .faddr 0 (.t 2)⟩,
  ⟨(some 23), none, .load none (.t 22)⟩,
  ⟨(some 24), none, .mov (.t 6)⟩,
  ⟨(some 25), none, .call 0 [] (.c (.fn 33 [])) [(.t 21), (.t 23), (.t 24)]⟩,
  ⟨(some 26), none, .mov (.t 1)⟩,
  ⟨none, none, .store 5 (.t 4) (.t 25)⟩,
  ⟨(some 5), none, .mov (.t 26)⟩])
 .ret)))),
  [.cell 4 (some 5), .t 5], false, true, 27⟩
theorem co10 : compF Tryd.prog ⟨[], [(3, [1, 6, 9, 10], [2, 4])], [], [], [], []⟩ false true Tryd.f10 = some ac10 := by kernel_rfl

/-- paideia/paideiaref.Has -/
def ac11 : AF := ⟨(.seq (.reg [⟨(some 4), none, .mov (.c (.bool false))⟩])
 (.seq (.reg [⟨(some 5), none, .mov (.t 0)⟩,
  ⟨(some 6), none, .mov (.t 1)⟩,
  ⟨(some 7), none, .call 0 [] (.c (.fn 34 [])) [(.t 5), (.t 6)]⟩,
  ⟨(some 8), none, .bin .geq (.t 7) (.c (.int .i64 0))⟩,
  ⟨(some 4), none, .mov (.t 8)⟩])
 .ret)),
  [.t 4], false, true, 9⟩
theorem co11 : compF Tryd.prog ⟨[], [], [], [], [], []⟩ false true Tryd.f11 = some ac11 := by kernel_rfl

/-- paideia/paideiaref4.Var -/
def ac12 : AF := ⟨(.seq (.reg [⟨(some 2), none, .alloc [(.int .i64 0), (.str []), (.sl .clip [])] false⟩])
 (.seq (.reg [⟨(some 3), none, .mov (.t 0)⟩,
  ⟨(some 4), none, .build [(.int .i64 0), (.str []), (.sl .clip [])] [(0, 1, (.c (.int .i64 1))), (1, 1, (.t 3))]⟩,
  ⟨none, none, .store 3 (.t 2) (.t 4)⟩])
 .ret)),
  [.cell 2 (some 3)], false, true, 5⟩
theorem co12 : compF Tryd.prog ⟨[], [], [], [], [], []⟩ false true Tryd.f12 = some ac12 := by kernel_rfl

/-- paideia/paideiaref.SameType -/
def ac13 : AF := ⟨(.seq (.reg [⟨(some 2), none, .box (.t 0) 3 false⟩,
  ⟨(some 3), none, .box (.t 1) 3 false⟩,
  ⟨(some 4), none, .mov (.c (.bool false))⟩])
 (.seq (.reg [⟨(some 5), none, .faddr 0 (.t 2)⟩,
  ⟨(some 6), none, .load none (.t 5)⟩,
  ⟨(some 7), none, .faddr 0 (.t 3)⟩,
  ⟨(some 8), none, .load none (.t 7)⟩,
  ⟨(some 9), none, .bin .eql (.t 6) (.t 8)⟩,
  ⟨(some 10), none, .mov (.t 9)⟩,
  ⟨(some 11), (some (10, true)), .faddr 1 (.t 2)⟩,
  ⟨(some 12), (some (10, true)), .load none (.t 11)⟩,
  ⟨(some 13), (some (10, true)), .faddr 1 (.t 3)⟩,
  ⟨(some 14), (some (10, true)), .load none (.t 13)⟩,
  ⟨(some 15), (some (10, true)), .bin .eql (.t 12) (.t 14)⟩,
  ⟨(some 16), none, .pick (.t 10) (.t 15) (.c (.bool false))⟩,
  ⟨(some 17), none, .mov (.t 16)⟩,
  ⟨(some 18), (some (17, true)), .faddr 2 (.t 2)⟩,
  ⟨(some 19), (some (17, true)), .load none (.t 18)⟩,
  ⟨(some 20), (some (17, true)), .faddr 2 (.t 3)⟩,
  ⟨(some 21), (some (17, true)), .load none (.t 20)⟩,
  ⟨(some 22), (some (17, true)), .call 0 [] (.c (.fn 35 [])) [(.t 19), (.t 21)]⟩,
  ⟨(some 23), none, .pick (.t 17) (.t 22) (.c (.bool false))⟩,
  ⟨(some 4), none, .mov (.t 23)⟩])
 .ret)),
  [.t 4], false, true, 24⟩
theorem co13 : compF Tryd.prog ⟨[], [], [], [], [], []⟩ false true Tryd.f13 = some ac13 := by kernel_rfl

/-- paideia/paideiaref4.Apply -/
def ac14 : AF := ⟨(.seq (.reg [⟨(some 3), none, .box (.t 1) 3 false⟩,
  ⟨(some 4), none, .alloc [(.int .i64 0), (.str []), (.sl .clip [])] false⟩])
 (.seq (.seq (.reg [⟨(some 9), none, .faddr 0 (.t 3)⟩,
  ⟨(some 10), none, .load none (.t 9)⟩,
  ⟨(some 11), none, .bin .eql (.t 10) (.c (.int .i64 1))⟩])
 (.cond (.t 11) (.seq (.reg [⟨(some 13), none, .mov (.t 0)⟩,
  ⟨(some 14), none, .faddr 1 (.t 3)⟩,
  ⟨(some 15), none, .load none (.t 14)⟩,
  ⟨(some 16), none, .call 0 [] (.c (.fn 36 [])) [(.t 13), (.t 15)]⟩,
  ⟨(some 12), none, .mov (.t 16)⟩,
  ⟨(some 17), none, .extract (.t 12) 0⟩,
  ⟨(some 18), none, .extract (.t 12) 1⟩,
  ⟨(some 5), none, .alloc [(.int .i64 0), (.str []), (.sl .clip [])] false⟩,
  ⟨none, none, .store 3 (.t 5) (.t 17)⟩,
  ⟨(some 6), none, .mov (.t 18)⟩])
 (.seq (.seq (.reg [⟨(some 19), none, .mov (.t 6)⟩])
 (.cond (.t 19) (.seq (.reg [⟨(some 20), none, .load (some 3) (.t 5)⟩,
  ⟨none, none, .store 3 (.t 4) (.t 20)⟩])
 .ret)
 .skip))
 (.seq (.reg [⟨(some 21), none, .load (some 3) (.t 3)⟩,
  ⟨none, none, .store 3 (.t 4) (.t 21)⟩])
 .ret)))
 .skip))
 (.seq (.reg [⟨(some 7), none, .mov (.c (.sl .clip []))⟩])
 (.seq (.seq (.reg [⟨(some 8), none, .mov (.c (.int .i64 0))⟩])
 (.block 0 (.loop [0, 7, 8] [3, 4] (.seq (.seq (.reg [⟨(some 22), none, .mov (.t 8)⟩,
  ⟨(some 23), none, .faddr 2 (.t 3)⟩,
  ⟨(some 24), none, .load none (.t 23)⟩,
  ⟨(some 25), none, .len 1 (.t 24)⟩,
  ⟨(some 26), none, .bin .lss (.t 22) (.t 25)⟩])
 (.cond (.t 26) .skip
 (.exit 0)))
 (.seq (.block 1 (.reg [⟨(some 29), none, .mov (.t 7)⟩,
  ⟨(some 30), none, .mov (.t 0)⟩,
  ⟨(some 31), none, .faddr 2 (.t 3)⟩,
  ⟨(some 32), none, .load none (.t 31)⟩,
  ⟨(some 33), none, .mov (.t 8)⟩,
  ⟨(some 34), none, .iaddr 3 (.t 32) (.t 33)⟩,
  ⟨(some 35), none, .load (some 3) (.t 34)⟩,
  ⟨(some 36), none, .call 0 [] (.c (.fn 14 [])) [(.t 30), (.t 35)]⟩,
  ⟨(some 37), none, .bslice [(.int .i64 0), (.str []), (.sl .clip [])] 1 [(0, (.t 36))]⟩,
  ⟨(some 38), none, .append 3 (.t 29) (.t 37)⟩,
  ⟨(some 7), none, .mov (.t 38)⟩]))
 (.reg [⟨(some 27), none, .mov (.t 8)⟩,
  ⟨(some 28), none, .bin .add (.t 27) (.c (.int .i64 1))⟩,
  ⟨(some 8), none, .mov (.t 28)⟩]))))))
 (.seq (.reg [⟨(some 39), none, .mov (.t 7)⟩,
  ⟨(some 40), none, .faddr 2 (.t 3)⟩,
  ⟨none, none, .store 1 (.t 40) (.t 39)⟩])
 (.seq (.reg [⟨(some 41), none, .load (some 3) (.t 3)⟩,
  ⟨none, none, .store 3 (.t 4) (.t 41)⟩])
 .ret)))))),
  [.cell 4 (some 3)], false, true, 42⟩
theorem co14 : compF Tryd.prog ⟨[], [(8, [0, 7, 8], [3, 4])], [], [], [], []⟩ false true Tryd.f14 = some ac14 := by kernel_rfl

/-- paideia/paideiaref.SamePreds -/
def ac15 : AF := ⟨(.seq (.reg [⟨(some 4), none, .mov (.c (.bool false))⟩])
 (.seq (.seq (.reg [⟨(some 7), none, .mov (.t 0)⟩,
  ⟨(some 8), none, .len 1 (.t 7)⟩,
  ⟨(some 9), none, .mov (.t 1)⟩,
  ⟨(some 10), none, .len 1 (.t 9)⟩,
  ⟨(some 11), none, .bin .neq (.t 8) (.t 10)⟩])
 (.cond (.t 11) (.seq (.reg [⟨(some 4), none, .mov (.c (.bool false))⟩])
 .ret)
 .skip))
 (.seq (.seq (.reg [⟨(some 5), none, .mov (.c (.int .i64 0))⟩])
 (.block 0 (.loop [0, 1, 5] [] (.seq (.seq (.reg [⟨(some 12), none, .mov (.t 5)⟩,
  ⟨(some 13), none, .mov (.t 0)⟩,
  ⟨(some 14), none, .len 1 (.t 13)⟩,
  ⟨(some 15), none, .bin .lss (.t 12) (.t 14)⟩])
 (.cond (.t 15) .skip
 (.exit 0)))
 (.seq (.block 1 (.seq (.reg [⟨(some 18), none, .mov (.t 0)⟩,
  ⟨(some 19), none, .mov (.t 5)⟩,
  ⟨(some 20), none, .iaddr 4 (.t 18) (.t 19)⟩,
  ⟨(some 21), none, .load (some 4) (.t 20)⟩,
  ⟨(some 22), none, .mov (.t 1)⟩,
  ⟨(some 23), none, .mov (.t 5)⟩,
  ⟨(some 24), none, .iaddr 4 (.t 22) (.t 23)⟩,
  ⟨(some 25), none, .load (some 4) (.t 24)⟩,
  ⟨(some 26), none, .call 0 [] (.c (.fn 18 [])) [(.t 21), (.t 25)]⟩,
  ⟨(some 6), none, .mov (.t 26)⟩])
 (.seq (.reg [⟨(some 27), none, .mov (.t 6)⟩,
  ⟨(some 28), none, .not (.t 27)⟩])
 (.cond (.t 28) (.seq (.reg [⟨(some 4), none, .mov (.c (.bool false))⟩])
 .ret)
 .skip))))
 (.reg [⟨(some 16), none, .mov (.t 5)⟩,
  ⟨(some 17), none, .bin .add (.t 16) (.c (.int .i64 1))⟩,
  ⟨(some 5), none, .mov (.t 17)⟩]))))))
 (.seq (.reg [⟨(some 4), none, .mov (.c (.bool true))⟩])
 .ret)))),
  [.t 4], false, true, 29⟩
theorem co15 : compF Tryd.prog ⟨[], [(4, [0, 1, 5], [])], [], [], [], []⟩ false true Tryd.f15 = some ac15 := by kernel_rfl

/-- paideia/paideiaref4.Preds -/
def ac16 : AF := ⟨(.seq (.reg [⟨(some 4), none, .mov (.c (.sl .clip []))⟩])
 (.seq (.reg [⟨(some 5), none, .mov (.c (.sl .clip []))⟩])
 (.seq (.seq (.reg [⟨(some 6), none, .mov (.c (.int .i64 0))⟩])
 (.block 0 (.loop [0, 1, 5, 6] [] (.seq (.seq (.reg [⟨(some 7), none, .mov (.t 6)⟩,
  ⟨(some 8), none, .mov (.t 1)⟩,
  ⟨(some 9), none, .len 1 (.t 8)⟩,
  ⟨(some 10), none, .bin .lss (.t 7) (.t 9)⟩])
 (.cond (.t 10) .skip
 (.exit 0)))
 (.seq (.block 1 (.reg [⟨(some 13), none, .mov (.t 5)⟩,
  ⟨(some 14), none, .mov (.t 1)⟩,
  ⟨(some 15), none, .mov (.t 6)⟩,
  ⟨(some 16), none, .iaddr 4 (.t 14) (.t 15)⟩,
  ⟨(some 17), none, .faddr 0 (.t 16)⟩,
  ⟨(some 18), none, .loadL none (.t 17)⟩,
  ⟨(some 19), none, .mov (.t 0)⟩,
  ⟨(some 20), none, .mov (.t 1)⟩,
  ⟨(some 21), none, .mov (.t 6)⟩,
  ⟨(some 22), none, .iaddr 4 (.t 20) (.t 21)⟩,
  ⟨(some 23), none, .faddr 1 (.t 22)⟩,
  ⟨(some 24), none, .load (some 3) (.t 23)⟩,
  ⟨(some 25), none, .call 0 [] (.c (.fn 14 [])) [(.t 19), (.t 24)]⟩,
  ⟨(some 26), none, .build [(.str []), (.int .i64 0), (.str []), (.sl .clip [])] [(0, 1, (.t 18)), (1, 3, (.t 25))]⟩,
  ⟨(some 27), none, .bslice [(.str []), (.int .i64 0), (.str []), (.sl .clip [])] 1 [(0, (.t 26))]⟩,
  ⟨(some 28), none, .append 4 (.t 13) (.t 27)⟩,
  ⟨(some 5), none, .mov (.t 28)⟩]))
 (.reg [⟨(some 11), none, .mov (.t 6)⟩,
  ⟨(some 12), none, .bin .add (.t 11) (.c (.int .i64 1))⟩,
  ⟨(some 6), none, .mov (.t 12)⟩]))))))
 (.seq (.reg [⟨(some 29), none, .mov (.t 5)⟩,
  ⟨(some 4), none, .mov (.t 29)⟩])
 .ret)))),
  [.t 4], false, true, 30⟩
theorem co16 : compF Tryd.prog ⟨[], [(3, [0, 1, 5, 6], [])], [], [], [], []⟩ false true Tryd.f16 = some ac16 := by kernel_rfl

/-- paideia/paideiaref.SamePred -/
def ac18 : AF := ⟨(.seq (.reg [⟨(some 2), none, .box (.t 0) 4 false⟩,
  ⟨(some 3), none, .box (.t 1) 4 false⟩,
  ⟨(some 4), none, .mov (.c (.bool false))⟩])
 (.seq (.reg [⟨(some 5), none, .faddr 0 (.t 2)⟩,
  ⟨(some 6), none, .load none (.t 5)⟩,
  ⟨(some 7), none, .faddr 0 (.t 3)⟩,
  ⟨(some 8), none, .load none (.t 7)⟩,
  ⟨(some 9), none, .bin .eql (.t 6) (.t 8)⟩,
  ⟨(some 10), none, .mov (.t 9)⟩,
  ⟨(some 11), (some (10, true)), .faddr 1 (.t 2)⟩,
  ⟨(some 12), (some (10, true)), .load (some 3) (.t 11)⟩,
  ⟨(some 13), (some (10, true)), .faddr 1 (.t 3)⟩,
  ⟨(some 14), (some (10, true)), .load (some 3) (.t 13)⟩,
  ⟨(some 15), (some (10, true)), .call 0 [] (.c (.fn 13 [])) [(.t 12), (.t 14)]⟩,
  ⟨(some 16), none, .pick (.t 10) (.t 15) (.c (.bool false))⟩,
  ⟨(some 4), none, .mov (.t 16)⟩])
 .ret)),
  [.t 4], false, true, 17⟩
theorem co18 : compF Tryd.prog ⟨[], [], [], [], [], []⟩ false true Tryd.f18 = some ac18 := by kernel_rfl

/-- paideia/paideiaref4.Vars -/
def ac23 : AF := ⟨(.seq (.reg [⟨(some 2), none, .mov (.c (.sl .clip []))⟩])
 (.seq (.reg [⟨(some 3), none, .mov (.c (.sl .clip []))⟩])
 (.seq (.seq (.reg [⟨(some 4), none, .mov (.c (.int .i64 0))⟩])
 (.block 0 (.loop [0, 3, 4] [] (.seq (.seq (.reg [⟨(some 5), none, .mov (.t 4)⟩,
  ⟨(some 6), none, .mov (.t 0)⟩,
  ⟨(some 7), none, .len 1 (.t 6)⟩,
  ⟨(some 8), none, .bin .lss (.t 5) (.t 7)⟩])
 (.cond (.t 8) .skip
 (.exit 0)))
 (.seq (.block 1 (.reg [⟨(some 11), none, .mov (.t 3)⟩,
  ⟨(some 12), none, .mov (.t 0)⟩,
  ⟨(some 13), none, .mov (.t 4)⟩,
  ⟨(some 14), none, .iaddr 3 (.t 12) (.t 13)⟩,
  ⟨(some 15), none, .load (some 3) (.t 14)⟩,
  ⟨(some 16), none, .call 0 [] (.c (.fn 49 [])) [(.t 11), (.c (.sl .clip [])), (.t 15)]⟩,
  ⟨(some 3), none, .mov (.t 16)⟩]))
 (.reg [⟨(some 9), none, .mov (.t 4)⟩,
  ⟨(some 10), none, .bin .add (.t 9) (.c (.int .i64 1))⟩,
  ⟨(some 4), none, .mov (.t 10)⟩]))))))
 (.seq (.reg [⟨(some 17), none, .mov (.t 3)⟩,
  ⟨(some 2), none, .mov (.t 17)⟩])
 .ret)))),
  [.t 2], false, true, 18⟩
theorem co23 : compF Tryd.prog ⟨[], [(3, [0, 3, 4], [])], [], [], [], []⟩ false true Tryd.f23 = some ac23 := by kernel_rfl

/-- paideia/scheme.Name -/
def ac26 : AF := ⟨(.seq (.reg [⟨(some 2), none, .mov (.c (.str []))⟩])
 (.seq (.reg [⟨(some 4), none, .mov (.t 0)⟩,
  ⟨(some 5), none, .bmax (.t 4) (.c (.int .i64 0))⟩,
  ⟨(some 0), none, .mov (.t 5)⟩])
 (.seq (.reg [⟨(some 6), none, .mov (.t 0)⟩,
  ⟨(some 7), none, .bin .rem (.t 6) (.c (.int .i64 26))⟩,
  ⟨(some 8), none, .bin .add (.c (.int .i64 97)) (.t 7)⟩,
  ⟨(some 9), none, .conv (.int .i32) (.t 8)⟩,
  ⟨(some 10), none, .conv .rune (.t 9)⟩,
  ⟨(some 3), none, .mov (.t 10)⟩])
 (.seq (.seq (.reg [⟨(some 11), none, .mov (.t 0)⟩,
  ⟨(some 12), none, .bin .geq (.t 11) (.c (.int .i64 26))⟩])
 (.cond (.t 12) (.reg [⟨(some 13), none, .mov (.t 3)⟩,
  ⟨(some 14), none, .mov (.t 0)⟩,
  ⟨(some 15), none, .bin .quo (.t 14) (.c (.int .i64 26))⟩,
  ⟨(some 16), none, .call 0 [] (.c (.fn 32 [])) [(.t 15)]⟩,
  ⟨(some 17), none, .bin .add (.t 13) (.t 16)⟩,
  ⟨(some 3), none, .mov (.t 17)⟩])
 .skip))
 (.seq (.reg [⟨(some 18), none, .mov (.t 3)⟩,
  ⟨(some 2), none, .mov (.t 18)⟩])
 .ret))))),
  [.t 2], false, true, 19⟩
theorem co26 : compF Tryd.prog ⟨[], [], [], [], [], []⟩ false true Tryd.f26 = some ac26 := by kernel_rfl

/-- (*paideia/paideiamake.Seq).Next -/
def ac27 : AF := ⟨(.seq (.reg [⟨(some 4), none, .mov (.c (.int .i64 0))⟩])
 (.seq (.reg [⟨(some 5), none, .mov (.c (.int .i64 0))⟩])
 (.seq (.seq (.reg [⟨(some 6), none, .mov (.t 0)⟩,
  ⟨(some 7), none, .nilck (.t 6)⟩,
  ⟨(some 8), none, .faddr 1 (.t 7)⟩,
  ⟨(some 9), none, .load none (.t 8)⟩,
  ⟨(some 10), none, .mov (.t 0)⟩,
  ⟨(some 11), none, .nilck (.t 10)⟩,
  ⟨(some 12), none, .faddr 0 (.t 11)⟩,
  ⟨(some 13), none, .load none (.t 12)⟩,
  ⟨(some 14), none, .len 1 (.t 13)⟩,
  ⟨(some 15), none, .bin .lss (.t 9) (.t 14)⟩])
 (.cond (.t 15) (.reg [⟨(some 16), none, .mov (.t 0)⟩,
  ⟨(some 17), none, .nilck (.t 16)⟩,
  ⟨(some 18), none, .faddr 0 (.t 17)⟩,
  ⟨(some 19), none, .load none (.t 18)⟩,
  ⟨(some 20), none, .mov (.t 0)⟩,
  ⟨(some 21), none, .nilck (.t 20)⟩,
  ⟨(some 22), none, .faddr 1 (.t 21)⟩,
  ⟨(some 23), none, .load none (.t 22)⟩,
  ⟨(some 24), none, .iaddr 1 (.t 19) (.t 23)⟩,
  ⟨(some 25), none, .load none (.t 24)⟩,
  ⟨(some 5), none, .mov (.t 25)⟩])
 .skip))
 (.seq (.reg [⟨(some 26), none, .mov (.t 0)⟩,
  ⟨(some 27), none, .mov (.t 0)⟩,
  ⟨(some 28), none, .nilck (.t 27)⟩,
  ⟨(some 29), none, .faddr 1 (.t 28)⟩,
  ⟨(some 30), none, .load none (.t 29)⟩,
  ⟨(some 31), none, .bin .add (.t 30) (.c (.int .i64 1))⟩,
  ⟨(some 32), none, .nilck (.t 26)⟩,
  ⟨(some 33), none, .faddr 1 (.t 32)⟩,
  ⟨none, none, .store 1 (.t 33) (.t 31)⟩])
 (.seq (.reg [⟨(some 34), none, .mov (.t 5)⟩,
  ⟨(some 35), none, .mov (.t 1)⟩,
  ⟨(some 36), none, .call 0 [] (.c (.fn 50 [])) [(.t 34), (.t 35)]⟩,
  ⟨(some 4), none, .mov (.t 36)⟩])
 .ret))))),
  [.t 4], false, true, 37⟩
theorem co27 : compF Tryd.prog ⟨[], [], [], [], [], []⟩ false true Tryd.f27 = some ac27 := by kernel_rfl

/-- paideia/paideiaref4.Con -/
def ac28 : AF := ⟨(.seq (.reg [⟨(some 4), none, .alloc [(.int .i64 0), (.str []), (.sl .clip [])] false⟩])
 (.seq (.reg [⟨(some 5), none, .mov (.t 0)⟩,
  ⟨(some 6), none, .mov (.t 1)⟩,
  ⟨(some 7), none, .build [(.int .i64 0), (.str []), (.sl .clip [])] [(0, 1, (.c (.int .i64 2))), (1, 1, (.t 5)), (2, 1, (.t 6))]⟩,
  ⟨none, none, .store 3 (.t 4) (.t 7)⟩])
 .ret)),
  [.cell 4 (some 3)], false, true, 8⟩
theorem co28 : compF Tryd.prog ⟨[], [], [], [], [], []⟩ false true Tryd.f28 = some ac28 := by kernel_rfl

/-- paideia/paideiaref4.Fun2 -/
def ac29 : AF := ⟨(.seq (.reg [⟨(some 2), none, .box (.t 0) 3 false⟩,
  ⟨(some 3), none, .box (.t 1) 3 false⟩,
  ⟨(some 4), none, .alloc [(.int .i64 0), (.str []), (.sl .clip [])] false⟩])
 (.seq (.reg [⟨(some 5), none, .load (some 3) (.t 2)⟩,
  ⟨(some 6), none, .load (some 3) (.t 3)⟩,
  ⟨(some 7), none, .bslice [(.int .i64 0), (.str []), (.sl .clip [])] 2 [(0, (.t 5)), (1, (.t 6))]⟩,
  ⟨(some 8), none, .build [(.int .i64 0), (.str []), (.sl .clip [])] [(0, 1, (.c (.int .i64 3))), (2, 1, (.t 7))]⟩,
  ⟨none, none, .store 3 (.t 4) (.t 8)⟩])
 .ret)),
  [.cell 4 (some 3)], false, true, 9⟩
theorem co29 : compF Tryd.prog ⟨[], [], [], [], [], []⟩ false true Tryd.f29 = some ac29 := by kernel_rfl

/-- paideia/paideiamake.Pred -/
def ac30 : AF := ⟨(.seq (.reg [⟨(some 4), none, .alloc [(.str []), (.int .i64 0), (.str []), (.sl .clip [])] false⟩])
 (.seq (.reg [⟨(some 6), none, .bslice [(.str [])] 4 [(0, (.c (.str [69, 113]))), (1, (.c (.str [79, 114, 100]))), (2, (.c (.str [83, 104, 111, 119]))), (3, (.c (.str [78, 117, 109])))]⟩,
  ⟨(some 7), none, .mov (.t 0)⟩,
  ⟨(some 8), none, .call 0 [] (.c (.fn 27 [])) [(.t 7), (.c (.int .i64 4))]⟩,
  ⟨(some 9), none, .iaddr 1 (.t 6) (.t 8)⟩,
  ⟨(some 10), none, .load none (.t 9)⟩,
  ⟨(some 5), none, .mov (.t 10)⟩])
 (.seq (.reg [⟨(some 11), none, .mov (.t 5)⟩,
  ⟨(some 12), none, .mov (.t 0)⟩,
  ⟨(some 13), none, .mov (.t 1)⟩,
  ⟨(some 14), none, .call 0 [] (.c (.fn 7 [])) [(.t 12), (.t 13)]⟩,
  ⟨(some 15), none, .build [(.str []), (.int .i64 0), (.str []), (.sl .clip [])] [(0, 1, (.t 11)), (1, 3, (.t 14))]⟩,
  ⟨none, none, .store 4 (.t 4) (.t 15)⟩])
 .ret))),
  [.cell 4 (some 4)], false, true, 16⟩
theorem co30 : compF Tryd.prog ⟨[], [], [], [], [], []⟩ false true Tryd.f30 = some ac30 := by kernel_rfl

/-- paideia/paideiaref4.all -/
def ac31 : AF := ⟨(.seq (.reg [⟨(some 2), none, .box (.t 0) 3 false⟩,
  ⟨(some 4), none, .mov (.c (.sl .clip []))⟩])
 (.seq (.reg [⟨(some 7), none, .load (some 3) (.t 2)⟩,
  ⟨(some 8), none, .bslice [(.int .i64 0), (.str []), (.sl .clip [])] 1 [(0, (.t 7))]⟩,
  ⟨(some 5), none, .mov (.t 8)⟩])
 (.seq (.seq (.reg [⟨(some 6), none, .mov (.c (.int .i64 0))⟩])
 (.block 0 (.loop [1, 5, 6] [] (.seq (.seq (.reg [⟨(some 9), none, .mov (.t 6)⟩,
  ⟨(some 10), none, .mov (.t 1)⟩,
  ⟨(some 11), none, .len 1 (.t 10)⟩,
  ⟨(some 12), none, .bin .lss (.t 9) (.t 11)⟩])
 (.cond (.t 12) .skip
 (.exit 0)))
 (.seq (.block 1 (.reg [⟨(some 15), none, .mov (.t 5)⟩,
  ⟨(some 16), none, .mov (.t 1)⟩,
  ⟨(some 17), none, .mov (.t 6)⟩,
  ⟨(some 18), none, .iaddr 4 (.t 16) (.t 17)⟩,
  ⟨(some 19), none, .faddr 1 (.t 18)⟩,
  ⟨(some 20), none, .load (some 3) (.t 19)⟩,
  ⟨(some 21), none, .bslice [(.int .i64 0), (.str []), (.sl .clip [])] 1 [(0, (.t 20))]⟩,
  ⟨(some 22), none, .append 3 (.t 15) (.t 21)⟩,
  ⟨(some 5), none, .mov (.t 22)⟩]))
 (.reg [⟨(some 13), none, .mov (.t 6)⟩,
  ⟨(some 14), none, .bin .add (.t 13) (.c (.int .i64 1))⟩,
  ⟨(some 6), none, .mov (.t 14)⟩]))))))
 (.seq (.reg [⟨(some 23), none, .mov (.t 5)⟩,
  ⟨(some 4), none, .mov (.t 23)⟩])
 .ret)))),
  [.t 4], false, true, 24⟩
theorem co31 : compF Tryd.prog ⟨[], [(3, [1, 5, 6], [])], [], [], [], []⟩ false true Tryd.f31 = some ac31 := by kernel_rfl

/-- strconv.Itoa -/
def ac32 : AF := ⟨(.seq (.reg [⟨(some 2), none, .mov (.c (.str []))⟩])
 (.seq (.reg [⟨(some 3), none, .mov (.t 0)⟩,
  ⟨(some 4), none, .call 0 [] (.c (.fn 51 [])) [(.t 3)]⟩,
  ⟨(some 2), none, .mov (.t 4)⟩])
 .ret)),
  [.t 2], false, true, 5⟩
theorem co32 : compF Tryd.prog ⟨[], [], [], [], [], []⟩ false true Tryd.f32 = some ac32 := by kernel_rfl

/-- paideia/scheme.renamed -/
def ac33 : AF := ⟨(.seq (.reg [⟨(some 3), none, .box (.t 0) 5 false⟩,
  ⟨(some 6), none, .alloc [(.sl .clip []), (.sl .clip []), (.int .i64 0), (.str []), (.sl .clip [])] false⟩])
 (.seq (.reg [⟨(some 7), none, .mov (.c (.sl .clip []))⟩])
 (.seq (.seq (.reg [⟨(some 11), none, .mov (.t 1)⟩,
  ⟨(some 12), none, .len 1 (.t 11)⟩,
  ⟨(some 13), none, .mov (.c (.int .i64 0))⟩])
 (.block 0 (.loop [2, 7, 11, 12, 13] [3, 6] (.seq (.reg [⟨(some 14), none, .bin .lss (.t 13) (.t 12)⟩])
 (.seq (.cond (.t 14) .skip
 (.exit 0))
 (.seq (.block 1 (.seq (.reg [⟨(some 15), none, .mov (.t 13)⟩,
  ⟨(some 16), none, .iaddr 1 (.t 11) (.t 13)⟩,
  ⟨(some 17), none, .load none (.t 16)⟩,
  ⟨(some 8), none, .mov (.t 15)⟩,
  ⟨(some 9), none, .mov (.t 17)⟩])
 (.reg [⟨(some 18), none, .mov (.t 7)⟩,
  ⟨(some 19), none, .mov (.t 9)⟩,
  ⟨(some 20), none, .mov (.t 2)⟩,
  ⟨(some 21), none, .mov (.t 8)⟩,
  ⟨(some 22), none, .iaddr 1 (.t 20) (.t 21)⟩,
  ⟨(some 23), none, .load none (.t 22)⟩,
  ⟨(some 24), none, .call 0 [] (.c (.fn 52 [])) [(.t 23)]⟩,
  ⟨(some 25), none, .build [(.str []), (.int .i64 0), (.str []), (.sl .clip [])] [(0, 1, (.t 19)), (1, 3, (.t 24))]⟩,
  ⟨(some 26), none, .bslice [(.str []), (.int .i64 0), (.str []), (.sl .clip [])] 1 [(0, (.t 25))]⟩,
  ⟨(some 27), none, .append 4 (.t 18) (.t 26)⟩,
  ⟨(some 7), none, .mov (.t 27)⟩])))
 (.reg [⟨(some 28), none, .bin .add (.t 13) (.c (.int .i64 1))⟩,
  ⟨(some 13), none, .mov (.t 28)⟩])))))))
 (.seq (.reg [⟨(some 29), none, .mov (.t 7)⟩,
  ⟨(some 30), none, .call 0 [] (.c (.fn 53 [])) [(.t 29)]⟩,
  ⟨(some 10), none, .alloc [(.map none)] false⟩,
  ⟨none, none, .store 1 (.t 10) (.t 30)⟩])
 (.seq (.reg [⟨(some 31), none, .mov (.t 2)⟩,
  ⟨(some 32), none, .call 0 [] (.c (.fn 54 [])) [(.t 31)]⟩,
  ⟨(some 33), none, .loadL (some 1) (.t 10)⟩,
  ⟨(some 34), none, .faddr 1 (.t 3)⟩,
  ⟨(some 35), none, .loadL none (.t 34)⟩,
  ⟨(some 36), none, .call 0 [] (.c (.fn 37 [])) [(.t 33), (.t 35)]⟩,
  ⟨(some 37), none, .loadL (some 1) (.t 10)⟩,
  ⟨(some 38), none, .faddr 2 (.t 3)⟩,
  ⟨(some 39), none, .loadL (some 3) (.t 38)⟩,
  ⟨(some 40), none, .call 0 [] (.c (.fn 55 [])) [(.t 37), (.t 39)]⟩,
  ⟨(some 41), none, .build [(.sl .clip []), (.sl .clip []), (.int .i64 0), (.str []), (.sl .clip [])] [(0, 1, (.t 32)), (1, 1, (.t 36)), (2, 3, (.t 40))]⟩,
  ⟨none, none, .store 5 (.t 6) (.t 41)⟩])
 .ret))))),
  [.cell 6 (some 5)], false, true, 42⟩
theorem co33 : compF Tryd.prog ⟨[], [(3, [2, 7, 11, 12, 13], [3, 6])], [], [], [], []⟩ false true Tryd.f33 = some ac33 := by kernel_rfl

/-- paideia/paideiaref.Place -/
def ac34 : AF := ⟨(.seq (.reg [⟨(some 4), none, .mov (.c (.int .i64 0))⟩])
 (.seq (.seq (.reg [⟨(some 5), none, .mov (.c (.int .i64 0))⟩])
 (.block 0 (.loop [0, 1, 5] [] (.seq (.seq (.reg [⟨(some 6), none, .mov (.t 5)⟩,
  ⟨(some 7), none, .mov (.t 0)⟩,
  ⟨(some 8), none, .len 1 (.t 7)⟩,
  ⟨(some 9), none, .bin .lss (.t 6) (.t 8)⟩])
 (.cond (.t 9) .skip
 (.exit 0)))
 (.seq (.block 1 (.seq (.reg [⟨(some 12), none, .mov (.t 0)⟩,
  ⟨(some 13), none, .mov (.t 5)⟩,
  ⟨(some 14), none, .iaddr 1 (.t 12) (.t 13)⟩,
  ⟨(some 15), none, .load none (.t 14)⟩,
  ⟨(some 16), none, .mov (.t 1)⟩,
  ⟨(some 17), none, .bin .eql (.t 15) (.t 16)⟩])
 (.cond (.t 17) (.seq (.reg [⟨(some 18), none, .mov (.t 5)⟩,
  ⟨(some 4), none, .mov (.t 18)⟩])
 .ret)
 .skip)))
 (.reg [⟨(some 10), none, .mov (.t 5)⟩,
  ⟨(some 11), none, .bin .add (.t 10) (.c (.int .i64 1))⟩,
  ⟨(some 5), none, .mov (.t 11)⟩]))))))
 (.seq (.reg [⟨(some 4), none, .mov (.c (.int .i64 (-1)))⟩])
 .ret))),
  [.t 4], false, true, 19⟩
theorem co34 : compF Tryd.prog ⟨[], [(2, [0, 1, 5], [])], [], [], [], []⟩ false true Tryd.f34 = some ac34 := by kernel_rfl

/-- paideia/paideiaref.SameTypes -/
def ac35 : AF := ⟨(.seq (.reg [⟨(some 4), none, .mov (.c (.bool false))⟩])
 (.seq (.seq (.reg [⟨(some 7), none, .mov (.t 0)⟩,
  ⟨(some 8), none, .len 1 (.t 7)⟩,
  ⟨(some 9), none, .mov (.t 1)⟩,
  ⟨(some 10), none, .len 1 (.t 9)⟩,
  ⟨(some 11), none, .bin .neq (.t 8) (.t 10)⟩])
 (.cond (.t 11) (.seq (.reg [⟨(some 4), none, .mov (.c (.bool false))⟩])
 .ret)
 .skip))
 (.seq (.seq (.reg [⟨(some 5), none, .mov (.c (.int .i64 0))⟩])
 (.block 0 (.loop [0, 1, 5] [] (.seq (.seq (.reg [⟨(some 12), none, .mov (.t 5)⟩,
  ⟨(some 13), none, .mov (.t 0)⟩,
  ⟨(some 14), none, .len 1 (.t 13)⟩,
  ⟨(some 15), none, .bin .lss (.t 12) (.t 14)⟩])
 (.cond (.t 15) .skip
 (.exit 0)))
 (.seq (.block 1 (.seq (.reg [⟨(some 18), none, .mov (.t 0)⟩,
  ⟨(some 19), none, .mov (.t 5)⟩,
  ⟨(some 20), none, .iaddr 3 (.t 18) (.t 19)⟩,
  ⟨(some 21), none, .load (some 3) (.t 20)⟩,
  ⟨(some 22), none, .mov (.t 1)⟩,
  ⟨(some 23), none, .mov (.t 5)⟩,
  ⟨(some 24), none, .iaddr 3 (.t 22) (.t 23)⟩,
  ⟨(some 25), none, .load (some 3) (.t 24)⟩,
  ⟨(some 26), none, .call 0 [] (.c (.fn 13 [])) [(.t 21), (.t 25)]⟩,
  ⟨(some 6), none, .mov (.t 26)⟩])
 (.seq (.reg [⟨(some 27), none, .mov (.t 6)⟩,
  ⟨(some 28), none, .not (.t 27)⟩])
 (.cond (.t 28) (.seq (.reg [⟨(some 4), none, .mov (.c (.bool false))⟩])
 .ret)
 .skip))))
 (.reg [⟨(some 16), none, .mov (.t 5)⟩,
  ⟨(some 17), none, .bin .add (.t 16) (.c (.int .i64 1))⟩,
  ⟨(some 5), none, .mov (.t 17)⟩]))))))
 (.seq (.reg [⟨(some 4), none, .mov (.c (.bool true))⟩])
 .ret)))),
  [.t 4], false, true, 29⟩
theorem co35 : compF Tryd.prog ⟨[], [(4, [0, 1, 5], [])], [], [], [], []⟩ false true Tryd.f35 = some ac35 := by kernel_rfl

/-- paideia/paideiaref4.get -/
def ac36 : AF := ⟨(.seq (.reg [⟨(some 4), none, .alloc [(.int .i64 0), (.str []), (.sl .clip [])] false⟩,
  ⟨(some 5), none, .mov (.c (.bool false))⟩])
 (.seq (.seq (.reg [⟨(some 6), none, .mov (.c (.int .i64 0))⟩])
 (.block 0 (.loop [0, 1, 6] [4] (.seq (.seq (.reg [⟨(some 7), none, .mov (.t 6)⟩,
  ⟨(some 8), none, .mov (.t 0)⟩,
  ⟨(some 9), none, .len 1 (.t 8)⟩,
  ⟨(some 10), none, .bin .lss (.t 7) (.t 9)⟩])
 (.cond (.t 10) .skip
 (.exit 0)))
 (.seq (.block 1 (.seq (.reg [⟨(some 13), none, .mov (.t 0)⟩,
  ⟨(some 14), none, .mov (.t 6)⟩,
  ⟨(some 15), none, .iaddr 4 (.t 13) (.t 14)⟩,
  ⟨(some 16), none, .faddr 0 (.t 15)⟩,
  ⟨(some 17), none, .load none (.t 16)⟩,
  ⟨(some 18), none, .mov (.t 1)⟩,
  ⟨(some 19), none, .bin .eql (.t 17) (.t 18)⟩])
 (.cond (.t 19) (.seq (.reg [⟨(some 20), none, .mov (.t 0)⟩,
  ⟨(some 21), none, .mov (.t 6)⟩,
  ⟨(some 22), none, .iaddr 4 (.t 20) (.t 21)⟩,
  ⟨(some 23), none, .faddr 1 (.t 22)⟩,
  ⟨(some 24), none, .load (some 3) (.t 23)⟩,
  ⟨none, none, .store 3 (.t 4) (.t 24)⟩,
  ⟨(some 5), none, .mov (.c (.bool true))⟩])
 .ret)
 .skip)))
 (.reg [⟨(some 11), none, .mov (.t 6)⟩,
  ⟨(some 12), none, .bin .add (.t 11) (.c (.int .i64 1))⟩,
  ⟨(some 6), none, .mov (.t 12)⟩]))))))
 (.seq (.reg [⟨(some 25), none, .build [(.int .i64 0), (.str []), (.sl .clip [])] []⟩,
  ⟨none, none, .store 3 (.t 4) (.t 25)⟩,
  ⟨(some 5), none, .mov (.c (.bool false))⟩])
 .ret))),
  [.cell 4 (some 3), .t 5], false, true, 26⟩
theorem co36 : compF Tryd.prog ⟨[], [(2, [0, 1, 6], [4])], [], [], [], []⟩ false true Tryd.f36 = some ac36 := by kernel_rfl

/-- (paideia/subst.Subst).Preds -/
def ac37 : AF := ⟨(.seq (.reg [⟨(some 2), none, .box (.t 0) 1 false⟩,
  ⟨(some 4), none, .mov (.c (.sl .clip []))⟩])
 (.seq (.reg [⟨(some 5), none, .mov (.c (.sl .clip []))⟩])
 (.seq (.seq (.reg [⟨(some 8), none, .mov (.t 1)⟩,
  ⟨(some 9), none, .len 1 (.t 8)⟩,
  ⟨(some 10), none, .mov (.c (.int .i64 0))⟩])
 (.block 0 (.loop [5, 8, 9, 10] [2] (.seq (.reg [⟨(some 11), none, .bin .lss (.t 10) (.t 9)⟩])
 (.seq (.cond (.t 11) .skip
 (.exit 0))
 (.seq (.block 1 (.seq (.reg [⟨(some 12), none, .iaddr 4 (.t 8) (.t 10)⟩,
  ⟨(some 13), none, .load (some 4) (.t 12)⟩,
  ⟨(some 7), none, .alloc [(.str []), (.int .i64 0), (.str []), (.sl .clip [])] false⟩,
  ⟨none, none, .store 4 (.t 7) (.t 13)⟩])
 (.reg [⟨(some 14), none, .mov (.t 5)⟩,
  ⟨(some 15), none, .faddr 0 (.t 7)⟩,
  ⟨(some 16), none, .loadL none (.t 15)⟩,
  ⟨(some 17), none, .load (some 1) (.t 2)⟩,
  ⟨(some 18), none, .faddr 1 (.t 7)⟩,
  ⟨(some 19), none, .load (some 3) (.t 18)⟩,
  ⟨(some 20), none, .call 0 [] (.c (.fn 55 [])) [(.t 17), (.t 19)]⟩,
  ⟨(some 21), none, .build [(.str []), (.int .i64 0), (.str []), (.sl .clip [])] [(0, 1, (.t 16)), (1, 3, (.t 20))]⟩,
  ⟨(some 22), none, .bslice [(.str []), (.int .i64 0), (.str []), (.sl .clip [])] 1 [(0, (.t 21))]⟩,
  ⟨(some 23), none, .append 4 (.t 14) (.t 22)⟩,
  ⟨(some 5), none, .mov (.t 23)⟩])))
 (.reg [⟨(some 24), none, .bin .add (.t 10) (.c (.int .i64 1))⟩,
  ⟨(some 10), none, .mov (.t 24)⟩])))))))
 (.seq (.reg [⟨(some 25), none, .mov (.t 5)⟩,
  ⟨(some 4), none, .mov (.t 25)⟩])
 .ret)))),
  [.t 4], false, true, 26⟩
theorem co37 : compF Tryd.prog ⟨[], [(3, [5, 8, 9, 10], [2])], [], [], [], []⟩ false true Tryd.f37 = some ac37 := by kernel_rfl

/-- paideia/types.Clone -/
def ac46 : AF := ⟨(.seq (.reg [⟨(some 1), none, .box (.t 0) 3 false⟩,
  ⟨(some 2), none, .alloc [(.int .i64 0), (.str []), (.sl .clip [])] false⟩])
 (.seq (.reg [⟨(some 6), none, .faddr 0 (.t 1)⟩,
  ⟨(some 7), none, .load none (.t 6)⟩,
  ⟨(some 8), none, .faddr 1 (.t 1)⟩,
  ⟨(some 9), none, .load none (.t 8)⟩,
  ⟨(some 10), none, .build [(.int .i64 0), (.str []), (.sl .clip [])] [(0, 1, (.t 7)), (1, 1, (.t 9))]⟩,
  ⟨(some 3), none, .alloc [(.int .i64 0), (.str []), (.sl .clip [])] false⟩,
  ⟨none, none, .store 3 (.t 3) (.t 10)⟩])
 (.seq (.seq (.reg [⟨(some 11), none, .faddr 2 (.t 1)⟩,
  ⟨(some 12), none, .load none (.t 11)⟩,
  ⟨(some 13), none, .len 1 (.t 12)⟩,
  ⟨(some 14), none, .mov (.c (.int .i64 0))⟩])
 (.block 0 (.loop [12, 13, 14] [2, 3] (.seq (.reg [⟨(some 15), none, .bin .lss (.t 14) (.t 13)⟩])
 (.seq (.cond (.t 15) .skip
 (.exit 0))
 (.seq (.block 1 (.seq (.reg [⟨(some 16), none, .iaddr 3 (.t 12) (.t 14)⟩,
  ⟨(some 17), none, .load (some 3) (.t 16)⟩,
  ⟨(some 5), none, .alloc [(.int .i64 0), (.str []), (.sl .clip [])] false⟩,
  ⟨none, none, .store 3 (.t 5) (.t 17)⟩])
 (.reg [⟨(some 18), none, .faddr 2 (.t 3)⟩,
  ⟨(some 19), none, .loadL none (.t 18)⟩,
  ⟨(some 20), none, .load (some 3) (.t 5)⟩,
  ⟨(some 21), none, .call 0 [] (.c (.fn 46 [])) [(.t 20)]⟩,
  ⟨(some 22), none, .bslice [(.int .i64 0), (.str []), (.sl .clip [])] 1 [(0, (.t 21))]⟩,
  ⟨(some 23), none, .append 3 (.t 19) (.t 22)⟩,
  ⟨(some 24), none, .faddr 2 (.t 3)⟩,
  ⟨none, none, .store 1 (.t 24) (.t 23)⟩])))
 (.reg [⟨(some 25), none, .bin .add (.t 14) (.c (.int .i64 1))⟩,
  ⟨(some 14), none, .mov (.t 25)⟩])))))))
 (.seq (.reg [⟨(some 26), none, .load (some 3) (.t 3)⟩,
  ⟨none, none, .store 3 (.t 2) (.t 26)⟩])
 .ret)))),
  [.cell 2 (some 3)], false, true, 27⟩
theorem co46 : compF Tryd.prog ⟨[], [(3, [12, 13, 14], [2, 3])], [], [], [], []⟩ false true Tryd.f46 = some ac46 := by kernel_rfl

/-- paideia/paideiaref4.vars -/
def ac49 : AF := ⟨(.seq (.reg [⟨(some 5), none, .box (.t 2) 3 false⟩,
  ⟨(some 6), none, .mov (.c (.sl .clip []))⟩])
 (.seq (.seq (.reg [⟨(some 8), none, .faddr 0 (.t 5)⟩,
  ⟨(some 9), none, .load none (.t 8)⟩])
 (.block 0 (.seq (.reg [⟨(some 11), none, .bin .eql (.t 9) (.c (.int .i64 1))⟩,
  ⟨(some 10), none, .mov (.t 11)⟩])
 (.cond (.t 10) (.seq (.seq (.reg [⟨(some 12), none, .mov (.t 0)⟩,
  ⟨(some 13), none, .faddr 1 (.t 5)⟩,
  ⟨(some 14), none, .load none (.t 13)⟩,
  ⟨(some 15), none, .call 0 [] (.c (.fn 11 [])) [(.t 12), (.t 14)]⟩,
  ⟨(some 16), none, .not (.t 15)⟩,
  ⟨(some 17), none, .mov (.t 16)⟩,
  ⟨(some 18), (some (17, true)), .mov (.t 1)⟩,
  ⟨(some 19), (some (17, true)), .faddr 1 (.t 5)⟩,
  ⟨(some 20), (some (17, true)), .load none (.t 19)⟩,
  ⟨(some 21), (some (17, true)), .call 0 [] (.c (.fn 11 [])) [(.t 18), (.t 20)]⟩,
  ⟨(some 22), (some (17, true)), .not (.t 21)⟩,
  ⟨(some 23), none, .pick (.t 17) (.t 22) (.c (.bool false))⟩])
 (.cond (.t 23) (.reg [⟨(some 24), none, .mov (.t 0)⟩,
  ⟨(some 25), none, .call 0 [] (.c (.fn 65 [])) [(.t 24)]⟩,
  ⟨(some 26), none, .faddr 1 (.t 5)⟩,
  ⟨(some 27), none, .loadL none (.t 26)⟩,
  ⟨(some 28), none, .bslice [(.str [])] 1 [(0, (.t 27))]⟩,
  ⟨(some 29), none, .append 1 (.t 25) (.t 28)⟩,
  ⟨(some 0), none, .mov (.t 29)⟩])
 .skip))
 (.seq (.reg [⟨(some 30), none, .mov (.t 0)⟩,
  ⟨(some 6), none, .mov (.t 30)⟩])
 .ret))
 (.seq (.reg [⟨(some 32), none, .bin .eql (.t 9) (.c (.int .i64 4))⟩,
  ⟨(some 31), none, .mov (.t 32)⟩])
 (.cond (.t 31) (.reg [⟨(some 33), none, .mov (.t 1)⟩,
  ⟨(some 34), none, .call 0 [] (.c (.fn 65 [])) [(.t 33)]⟩,
  ⟨(some 35), none, .faddr 1 (.t 5)⟩,
  ⟨(some 36), none, .loadL none (.t 35)⟩,
  ⟨(some 37), none, .bslice [(.str [])] 1 [(0, (.t 36))]⟩,
  ⟨(some 38), none, .append 1 (.t 34) (.t 37)⟩,
  ⟨(some 1), none, .mov (.t 38)⟩])
 .skip))))))
 (.seq (.seq (.reg [⟨(some 7), none, .mov (.c (.int .i64 0))⟩])
 (.block 1 (.loop [0, 1, 7] [5] (.seq (.seq (.reg [⟨(some 39), none, .mov (.t 7)⟩,
  ⟨(some 40), none, .faddr 2 (.t 5)⟩,
  ⟨(some 41), none, .load none (.t 40)⟩,
  ⟨(some 42), none, .len 1 (.t 41)⟩,
  ⟨(some 43), none, .bin .lss (.t 39) (.t 42)⟩])
 (.cond (.t 43) .skip
 (.exit 1)))
 (.seq (.block 2 (.reg [⟨(some 46), none, .mov (.t 0)⟩,
  ⟨(some 47), none, .mov (.t 1)⟩,
  ⟨(some 48), none, .faddr 2 (.t 5)⟩,
  ⟨(some 49), none, .load none (.t 48)⟩,
  ⟨(some 50), none, .mov (.t 7)⟩,
  ⟨(some 51), none, .iaddr 3 (.t 49) (.t 50)⟩,
  ⟨(some 52), none, .load (some 3) (.t 51)⟩,
  ⟨(some 53), none, .call 0 [] (.c (.fn 49 [])) [(.t 46), (.t 47), (.t 52)]⟩,
  ⟨(some 0), none, .mov (.t 53)⟩]))
 (.reg [⟨(some 44), none, .mov (.t 7)⟩,
  ⟨(some 45), none, .bin .add (.t 44) (.c (.int .i64 1))⟩,
  ⟨(some 7), none, .mov (.t 45)⟩]))))))
 (.seq (.reg [⟨(some 54), none, .mov (.t 0)⟩,
  ⟨(some 6), none, .mov (.t 54)⟩])
 .ret)))),
  [.t 6], false, true, 55⟩
theorem co49 : compF Tryd.prog ⟨[], [(9, [0, 1, 7], [5])], [], [], [], []⟩ false true Tryd.f49 = some ac49 := by kernel_rfl

/-- paideia/paideiaworld.Number -/
def ac50 : AF := ⟨(.seq (.reg [⟨(some 4), none, .mov (.c (.int .i64 0))⟩])
 (.seq (.reg [⟨(some 6), none, .mov (.t 0)⟩,
  ⟨(some 7), none, .mov (.t 1)⟩,
  ⟨(some 8), none, .bin .rem (.t 6) (.t 7)⟩,
  ⟨(some 5), none, .mov (.t 8)⟩])
 (.seq (.seq (.reg [⟨(some 9), none, .mov (.t 5)⟩,
  ⟨(some 10), none, .bin .lss (.t 9) (.c (.int .i64 0))⟩])
 (.cond (.t 10) (.reg [⟨(some 11), none, .mov (.t 5)⟩,
  ⟨(some 12), none, .mov (.t 1)⟩,
  ⟨(some 13), none, .bin .add (.t 11) (.t 12)⟩,
  ⟨(some 5), none, .mov (.t 13)⟩])
 .skip))
 (.seq (.reg [⟨(some 14), none, .mov (.t 5)⟩,
  ⟨(some 4), none, .mov (.t 14)⟩])
 .ret)))),
  [.t 4], false, true, 15⟩
theorem co50 : compF Tryd.prog ⟨[], [], [], [], [], []⟩ false true Tryd.f50 = some ac50 := by kernel_rfl

/-- internal/strconv.Itoa -/
def ac51 : AF := ⟨(.seq (.reg [⟨(some 2), none, .mov (.c (.str []))⟩])
 (.seq (.reg [⟨(some 3), none, .mov (.t 0)⟩,
  ⟨(some 4), none, .call 0 [] (.c (.fn 66 [])) [(.t 3), (.c (.int .i64 10))]⟩,
  ⟨(some 2), none, .mov (.t 4)⟩])
 .ret)),
  [.t 2], false, true, 5⟩
theorem co51 : compF Tryd.prog ⟨[], [], [], [], [], []⟩ false true Tryd.f51 = some ac51 := by kernel_rfl

/-- paideia/types.Var -/
def ac52 : AF := ⟨(.seq (.reg [⟨(some 2), none, .alloc [(.int .i64 0), (.str []), (.sl .clip [])] false⟩])
 (.seq (.reg [⟨(some 3), none, .mov (.t 0)⟩,
  ⟨(some 4), none, .build [(.int .i64 0), (.str []), (.sl .clip [])] [(0, 1, (.c (.int .i64 1))), (1, 1, (.t 3))]⟩,
  ⟨none, none, .store 3 (.t 2) (.t 4)⟩])
 .ret)),
  [.cell 2 (some 3)], false, true, 5⟩
theorem co52 : compF Tryd.prog ⟨[], [], [], [], [], []⟩ false true Tryd.f52 = some ac52 := by kernel_rfl

/-- paideia/subst.Of -/
def ac53 : AF := ⟨(.seq (.reg [⟨(some 2), none, .alloc [(.map none)] false⟩])
 (.seq (.reg [⟨(some 7), none, .mkmap⟩,
  ⟨(some 8), none, .build [(.map none)] [(0, 1, (.t 7))]⟩,
  ⟨(some 3), none, .alloc [(.map none)] false⟩,
  ⟨none, none, .store 1 (.t 3) (.t 8)⟩])
 (.seq (.reg [⟨(some 9), none, .mkmap⟩,
  ⟨(some 4), none, .mov (.t 9)⟩])
 (.seq (.seq (.reg [⟨(some 10), none, .mov (.t 0)⟩,
  ⟨(some 11), none, .len 1 (.t 10)⟩,
  ⟨(some 12), none, .mov (.c (.int .i64 0))⟩])
 (.block 0 (.loop [4, 10, 11, 12] [2, 3] (.seq (.reg [⟨(some 13), none, .bin .lss (.t 12) (.t 11)⟩])
 (.seq (.cond (.t 13) .skip
 (.exit 0))
 (.seq (.block 1 (.seq (.reg [⟨(some 14), none, .iaddr 4 (.t 10) (.t 12)⟩,
  ⟨(some 15), none, .load (some 4) (.t 14)⟩,
  ⟨(some 6), none, .alloc [(.str []), (.int .i64 0), (.str []), (.sl .clip [])] false⟩,
  ⟨none, none, .store 4 (.t 6) (.t 15)⟩])
 (.seq (.reg [⟨(some 16), none, .mov (.t 4)⟩,
  ⟨(some 17), none, .faddr 0 (.t 6)⟩,
  ⟨(some 18), none, .load none (.t 17)⟩,
  ⟨(some 19), none, .lookup .str (.bool false) (.t 16) (.t 18) false⟩,
  ⟨(some 20), none, .not (.t 19)⟩])
 (.cond (.t 20) (.seq (.reg [⟨(some 21), none, .mov (.t 4)⟩,
  ⟨(some 22), none, .faddr 0 (.t 6)⟩,
  ⟨(some 23), none, .load none (.t 22)⟩,
  ⟨none, none, .mapset .str (.t 21) (.t 23) (.c (.bool true))⟩])
 (.reg [⟨(some 24), none, .load (some 1) (.t 3)⟩,
  ⟨(some 25), none, .faddr 0 (.t 6)⟩,
  ⟨(some 26), none, .load none (.t 25)⟩,
  ⟨(some 27), none, .faddr 1 (.t 6)⟩,
  ⟨(some 28), none, .load (some 3) (.t 27)⟩,
  ⟨(some 29), none, .call 0 [] (.c (.fn 67 [])) [(.t 24), (.t 26), (.t 28)]⟩]))
 .skip))))
 (.reg [⟨(some 30), none, .bin .add (.t 12) (.c (.int .i64 1))⟩,
  ⟨(some 12), none, .mov (.t 30)⟩])))))))
 (.seq (.reg [⟨(some 31), none, .load (some 1) (.t 3)⟩,
  ⟨none, none, .store 1 (.t 2) (.t 31)⟩])
 .ret))))),
  [.cell 2 (some 1)], false, false, 32⟩
theorem co53 : compF Tryd.prog ⟨[], [(4, [4, 10, 11, 12], [2, 3])], [], [], [], []⟩ false false Tryd.f53 = some ac53 := by kernel_rfl

/-- slices.Clone[[]string,string] -/
def ac54 : AF := ⟨(.seq (.reg [⟨(some 2), none, .mov (.c (.sl .clip []))⟩])
 (.seq (.seq (.reg [⟨(some 3), none, .mov (.t 0)⟩,
  ⟨(some 4), none, .nilsl false (.t 3)⟩])
 (.cond (.t 4) (.seq (.reg [⟨(some 2), none, .mov (.c (.sl .clip []))⟩])
 .ret)
 .skip))
 (.seq (.reg [⟨(some 5), none, .bslice [(.str [])] 0 []⟩,
  ⟨(some 6), none, .mov (.t 0)⟩,
  ⟨(some 7), none, .append 1 (.t 5) (.t 6)⟩,
  ⟨(some 2), none, .mov (.t 7)⟩])
 .ret))),
  [.t 2], false, true, 8⟩
theorem co54 : compF Tryd.prog ⟨[], [], [], [], [], []⟩ false true Tryd.f54 = some ac54 := by kernel_rfl

/-- (paideia/subst.Subst).Apply -/
def ac55 : AF := ⟨(.seq (.reg [⟨(some 2), none, .box (.t 0) 1 false⟩,
  ⟨(some 3), none, .box (.t 1) 3 false⟩,
  ⟨(some 4), none, .alloc [(.int .i64 0), (.str []), (.sl .clip [])] false⟩])
 (.seq (.seq (.reg [⟨(some 10), none, .faddr 0 (.t 3)⟩,
  ⟨(some 11), none, .load none (.t 10)⟩,
  ⟨(some 12), none, .bin .eql (.t 11) (.c (.int .i64 1))⟩])
 (.cond (.t 12) (.seq (.reg [⟨(some 14), none, .faddr 0 (.t 2)⟩,
  ⟨(some 15), none, .load none (.t 14)⟩,
  ⟨(some 16), none, .faddr 1 (.t 3)⟩,
  ⟨(some 17), none, .load none (.t 16)⟩,
  ⟨(some 18), none, .lookup .str (.agg [(.int .i64 0), (.str []), (.sl .clip [])]) (.t 15) (.t 17) true⟩,
  ⟨(some 13), none, .mov (.t 18)⟩,
  ⟨(some 19), none, .extract (.t 13) 0⟩,
  ⟨(some 20), none, .extract (.t 13) 1⟩,
  ⟨(some 5), none, .alloc [(.int .i64 0), (.str []), (.sl .clip [])] false⟩,
  ⟨none, none, .store 3 (.t 5) (.t 19)⟩,
  ⟨(some 6), none, .mov (.t 20)⟩])
 (.seq (.reg [⟨(some 21), none, .mov (.t 6)⟩])
 (.cond (.t 21) (.seq (.reg [⟨(some 22), none, .load (some 3) (.t 5)⟩,
  ⟨(some 23), none, .call 0 [] (.c (.fn 46 [])) [(.t 22)]⟩,
  ⟨none, none, .store 3 (.t 4) (.t 23)⟩])
 .ret)
 .skip)))
 .skip))
 (.seq (.reg [⟨(some 24), none, .faddr 0 (.t 3)⟩,
  ⟨(some 25), none, .load none (.t 24)⟩,
  ⟨(some 26), none, .faddr 1 (.t 3)⟩,
  ⟨(some 27), none, .load none (.t 26)⟩,
  ⟨(some 28), none, .build [(.int .i64 0), (.str []), (.sl .clip [])] [(0, 1, (.t 25)), (1, 1, (.t 27))]⟩,
  ⟨(some 7), none, .alloc [(.int .i64 0), (.str []), (.sl .clip [])] false⟩,
  ⟨none, none, .store 3 (.t 7) (.t 28)⟩])
 (.seq (.seq (.reg [⟨(some 29), none, .faddr 2 (.t 3)⟩,
  ⟨(some 30), none, .load none (.t 29)⟩,
  ⟨(some 31), none, .len 1 (.t 30)⟩,
  ⟨(some 32), none, .mov (.c (.int .i64 0))⟩])
 (.block 0 (.loop [30, 31, 32] [2, 4, 7] (.seq (.reg [⟨(some 33), none, .bin .lss (.t 32) (.t 31)⟩])
 (.seq (.cond (.t 33) .skip
 (.exit 0))
 (.seq (.block 1 (.seq (.reg [⟨(some 34), none, .iaddr 3 (.t 30) (.t 32)⟩,
  ⟨(some 35), none, .load (some 3) (.t 34)⟩,
  ⟨(some 9), none, .alloc [(.int .i64 0), (.str []), (.sl .clip [])] false⟩,
  ⟨none, none, .store 3 (.t 9) (.t 35)⟩])
 (.reg [⟨(some 36), none, .faddr 2 (.t 7)⟩,
  ⟨(some 37), none, .loadL none (.t 36)⟩,
  ⟨(some 38), none, .load (some 1) (.t 2)⟩,
  ⟨(some 39), none, .load (some 3) (.t 9)⟩,
  ⟨(some 40), none, .call 0 [] (.c (.fn 55 [])) [(.t 38), (.t 39)]⟩,
  ⟨(some 41), none, .bslice [(.int .i64 0), (.str []), (.sl .clip [])] 1 [(0, (.t 40))]⟩,
  ⟨(some 42), none, .append 3 (.t 37) (.t 41)⟩,
  ⟨(some 43), none, .faddr 2 (.t 7)⟩,
  ⟨none, none, .store 1 (.t 43) (.t 42)⟩])))
 (.reg [⟨(some 44), none, .bin .add (.t 32) (.c (.int .i64 1))⟩,
  ⟨(some 32), none, .mov (.t 44)⟩])))))))
 (.seq (.reg [⟨(some 45), none, .load (some 3) (.t 7)⟩,
  ⟨none, none, .store 3 (.t 4) (.t 45)⟩])
 .ret))))),
  [.cell 4 (some 3)], false, true, 46⟩
theorem co55 : compF Tryd.prog ⟨[], [(7, [30, 31, 32], [2, 4, 7])], [], [], [], []⟩ false true Tryd.f55 = some ac55 := by kernel_rfl

/-- paideia/paideiaref.Texts -/
def ac65 : AF := ⟨(.seq (.reg [⟨(some 2), none, .mov (.c (.sl .clip []))⟩])
 (.seq (.reg [⟨(some 5), none, .mov (.t 0)⟩,
  ⟨(some 6), none, .len 1 (.t 5)⟩,
  ⟨(some 7), none, .mkslice [(.str [])] (.c (.int .i64 0)) (.t 6)⟩,
  ⟨(some 3), none, .mov (.t 7)⟩])
 (.seq (.seq (.reg [⟨(some 4), none, .mov (.c (.int .i64 0))⟩])
 (.block 0 (.loop [0, 3, 4] [] (.seq (.seq (.reg [⟨(some 8), none, .mov (.t 4)⟩,
  ⟨(some 9), none, .mov (.t 0)⟩,
  ⟨(some 10), none, .len 1 (.t 9)⟩,
  ⟨(some 11), none, .bin .lss (.t 8) (.t 10)⟩])
 (.cond (.t 11) .skip
 (.exit 0)))
 (.seq (.block 1 (.reg [⟨(some 14), none, .mov (.t 3)⟩,
  ⟨(some 15), none, .mov (.t 0)⟩,
  ⟨(some 16), none, .mov (.t 4)⟩,
  ⟨(some 17), none, .iaddr 1 (.t 15) (.t 16)⟩,
  ⟨(some 18), none, .load none (.t 17)⟩,
  ⟨(some 19), none, .bslice [(.str [])] 1 [(0, (.t 18))]⟩,
  ⟨(some 20), none, .append 1 (.t 14) (.t 19)⟩,
  ⟨(some 3), none, .mov (.t 20)⟩]))
 (.reg [⟨(some 12), none, .mov (.t 4)⟩,
  ⟨(some 13), none, .bin .add (.t 12) (.c (.int .i64 1))⟩,
  ⟨(some 4), none, .mov (.t 13)⟩]))))))
 (.seq (.reg [⟨(some 21), none, .mov (.t 3)⟩,
  ⟨(some 2), none, .mov (.t 21)⟩])
 .ret)))),
  [.t 2], true, false, 22⟩
theorem co65 : compF Tryd.prog ⟨[], [(3, [0, 3, 4], [])], [], [], [], []⟩ true false Tryd.f65 = some ac65 := by kernel_rfl

/-- (paideia/subst.Subst).put -/
def ac67 : AF := ⟨(.seq (.reg [⟨(some 3), none, .box (.t 0) 1 false⟩,
  ⟨(some 5), none, .box (.t 2) 3 false⟩])
 (.seq (.reg [⟨(some 6), none, .faddr 0 (.t 5)⟩,
  ⟨(some 7), none, .load none (.t 6)⟩,
  ⟨(some 8), none, .bin .neq (.t 7) (.c (.int .i64 1))⟩,
  ⟨(some 9), none, .mov (.t 8)⟩,
  ⟨(some 10), (some (9, false)), .faddr 1 (.t 5)⟩,
  ⟨(some 11), (some (9, false)), .load none (.t 10)⟩,
  ⟨(some 12), (some (9, false)), .mov (.t 1)⟩,
  ⟨(some 13), (some (9, false)), .bin .neq (.t 11) (.t 12)⟩,
  ⟨(some 14), none, .pick (.t 9) (.c (.bool true)) (.t 13)⟩])
 (.cond (.t 14) (.reg [⟨(some 15), none, .faddr 0 (.t 3)⟩,
  ⟨(some 16), none, .loadL none (.t 15)⟩,
  ⟨(some 17), none, .mov (.t 1)⟩,
  ⟨(some 18), none, .load (some 3) (.t 5)⟩,
  ⟨(some 19), none, .call 0 [] (.c (.fn 46 [])) [(.t 18)]⟩,
  ⟨none, none, .mapset .str (.t 16) (.t 17) (.t 19)⟩])
 .skip))),
  [], false, false, 20⟩
theorem co67 : compF Tryd.prog ⟨[], [], [], [], [], []⟩ false false Tryd.f67 = some ac67 := by kernel_rfl


theorem prim66 : PrimOkG Tryd.prog [2000001] 66 itoaP := itoaP_ok (g := 1) Tryd.func66 (by kernel_rfl) (by kernel_rfl) (by kernel_rfl) (by simp) Tryd.internal_strconv_FormatInt_10

def ap1 : AP := fun f vr => match f, vr with
  | 37, 0 => some (.code ac37)
  | 46, 0 => some (.code ac46)
  | 49, 0 => some (.code ac49)
  | 50, 0 => some (.code ac50)
  | 51, 0 => some (.code ac51)
  | 52, 0 => some (.code ac52)
  | 53, 0 => some (.code ac53)
  | 54, 0 => some (.code ac54)
  | 55, 0 => some (.code ac55)
  | 65, 0 => some (.code ac65)
  | 67, 0 => some (.code ac67)
  | 66, 0 => some (.prim itoaP)
  | _, _ => none

theorem table1 : TableOk Tryd.prog ap1 [2000001] := by
  intro f vr fd h
  unfold ap1 at h
  split at h
  · cases h; exact ⟨_, _, Tryd.func37, co37, by decide⟩
  · cases h; exact ⟨_, _, Tryd.func46, co46, by decide⟩
  · cases h; exact ⟨_, _, Tryd.func49, co49, by decide⟩
  · cases h; exact ⟨_, _, Tryd.func50, co50, by decide⟩
  · cases h; exact ⟨_, _, Tryd.func51, co51, by decide⟩
  · cases h; exact ⟨_, _, Tryd.func52, co52, by decide⟩
  · cases h; exact ⟨_, _, Tryd.func53, co53, by decide⟩
  · cases h; exact ⟨_, _, Tryd.func54, co54, by decide⟩
  · cases h; exact ⟨_, _, Tryd.func55, co55, by decide⟩
  · cases h; exact ⟨_, _, Tryd.func65, co65, by decide⟩
  · cases h; exact ⟨_, _, Tryd.func67, co67, by decide⟩
  · cases h; exact prim66
  · cases h

def ap0 : AP := fun f vr => match f, vr with
  | 3, 0 => some (.code ac3)
  | 6, 0 => some (.code ac6)
  | 7, 0 => some (.code ac7)
  | 8, 0 => some (.code ac8)
  | 9, 0 => some (.code ac9)
  | 10, 0 => some (.code ac10)
  | 11, 0 => some (.code ac11)
  | 12, 0 => some (.code ac12)
  | 13, 0 => some (.code ac13)
  | 14, 0 => some (.code ac14)
  | 15, 0 => some (.code ac15)
  | 16, 0 => some (.code ac16)
  | 18, 0 => some (.code ac18)
  | 23, 0 => some (.code ac23)
  | 26, 0 => some (.code ac26)
  | 27, 0 => some (.code ac27)
  | 28, 0 => some (.code ac28)
  | 29, 0 => some (.code ac29)
  | 30, 0 => some (.code ac30)
  | 31, 0 => some (.code ac31)
  | 32, 0 => some (.code ac32)
  | 33, 0 => some (.code ac33)
  | 34, 0 => some (.code ac34)
  | 35, 0 => some (.code ac35)
  | 36, 0 => some (.code ac36)
  | f, vr => ap1 f vr

theorem table0 : TableOk Tryd.prog ap0 [2000001] := by
  intro f vr fd h
  unfold ap0 at h
  split at h
  · cases h; exact ⟨_, _, Tryd.func3, co3, by decide⟩
  · cases h; exact ⟨_, _, Tryd.func6, co6, by decide⟩
  · cases h; exact ⟨_, _, Tryd.func7, co7, by decide⟩
  · cases h; exact ⟨_, _, Tryd.func8, co8, by decide⟩
  · cases h; exact ⟨_, _, Tryd.func9, co9, by decide⟩
  · cases h; exact ⟨_, _, Tryd.func10, co10, by decide⟩
  · cases h; exact ⟨_, _, Tryd.func11, co11, by decide⟩
  · cases h; exact ⟨_, _, Tryd.func12, co12, by decide⟩
  · cases h; exact ⟨_, _, Tryd.func13, co13, by decide⟩
  · cases h; exact ⟨_, _, Tryd.func14, co14, by decide⟩
  · cases h; exact ⟨_, _, Tryd.func15, co15, by decide⟩
  · cases h; exact ⟨_, _, Tryd.func16, co16, by decide⟩
  · cases h; exact ⟨_, _, Tryd.func18, co18, by decide⟩
  · cases h; exact ⟨_, _, Tryd.func23, co23, by decide⟩
  · cases h; exact ⟨_, _, Tryd.func26, co26, by decide⟩
  · cases h; exact ⟨_, _, Tryd.func27, co27, by decide⟩
  · cases h; exact ⟨_, _, Tryd.func28, co28, by decide⟩
  · cases h; exact ⟨_, _, Tryd.func29, co29, by decide⟩
  · cases h; exact ⟨_, _, Tryd.func30, co30, by decide⟩
  · cases h; exact ⟨_, _, Tryd.func31, co31, by decide⟩
  · cases h; exact ⟨_, _, Tryd.func32, co32, by decide⟩
  · cases h; exact ⟨_, _, Tryd.func33, co33, by decide⟩
  · cases h; exact ⟨_, _, Tryd.func34, co34, by decide⟩
  · cases h; exact ⟨_, _, Tryd.func35, co35, by decide⟩
  · cases h; exact ⟨_, _, Tryd.func36, co36, by decide⟩
  · exact table1 _ _ _ h

def ap : AP := ap0
theorem tableOk : TableOk Tryd.prog ap [2000001] := table0

end Go.St
