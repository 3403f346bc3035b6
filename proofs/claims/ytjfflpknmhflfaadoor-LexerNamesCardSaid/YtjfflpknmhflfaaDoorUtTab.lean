/- The seat's functions on the abstract machine. -/
import Derived.Test.YtjfflpknmhflfaaDoorAmX
import Derived.Test.YtjfflpknmhflfaaDoorAmZ
import Derived.Test.YtjfflpknmhflfaaDoorAmL
import Derived.Test.YtjfflpknmhflfaaDoorAmQ
import Derived.Test.YtjfflpknmhflfaaDoorAmU
import Derived.Test.YtjfflpknmhflfaaDoorAmF
import Derived.Test.YtjfflpknmhflfaaDoorAmK
import Derived.Test.YtjfflpknmhflfaaDoorLtShelf
import Derived.Test.YtjfflpknmhflfaaDoorProg
namespace Go.Ut
open Go.Am Go.Proofs

set_option maxRecDepth 100000
/-- paideia/paideialaw1.LexerNames -/
def ac5 : AF := ⟨(.seq (.reg [⟨(some 6), none, .mov (.c (.bool false))⟩])
 (.seq (.reg [⟨(some 14), none, .call 0 [] (.c (.fn 9 [])) []⟩,
  ⟨(some 7), none, .mov (.t 14)⟩])
 (.seq (.seq (.reg [⟨(some 15), none, .mov (.t 7)⟩,
  ⟨(some 16), none, .not (.t 15)⟩])
 (.cond (.t 16) (.seq (.reg [⟨(some 6), none, .mov (.c (.bool false))⟩])
 .ret)
 .skip))
 (.seq (.reg [⟨(some 17), none, .mov (.t 0)⟩,
  ⟨(some 18), none, .call 0 [] (.c (.fn 11 [])) [(.t 17), (.c (.int .i64 50))]⟩,
  ⟨(some 19), none, .bin .add (.t 18) (.c (.int .i64 1))⟩,
  ⟨(some 0), none, .mov (.t 19)⟩])
 (.seq (.reg [⟨(some 20), none, .bslM [(.int .u8 0)] 1 [(0, (.c (.int .u8 113)))]⟩,
  ⟨(some 8), none, .mov (.t 20)⟩])
 (.seq (.seq (.reg [⟨(some 21), none, .mov (.t 1)⟩])
 (.cond (.t 21) (.reg [⟨(some 22), none, .mov (.t 8)⟩,
  ⟨(some 23), none, .iaddr 1 (.t 22) (.c (.int .i64 0))⟩,
  ⟨none, none, .store 1 (.t 23) (.c (.int .u8 81))⟩])
 .skip))
 (.seq (.seq (.reg [⟨(some 9), none, .mov (.c (.int .i64 1))⟩])
 (.block 0 (.loop [0, 1, 2, 7, 8, 9] [] (.seq (.seq (.reg [⟨(some 24), none, .mov (.t 9)⟩,
  ⟨(some 25), none, .mov (.t 0)⟩,
  ⟨(some 26), none, .bin .lss (.t 24) (.t 25)⟩])
 (.cond (.t 26) .skip
 (.exit 0)))
 (.seq (.block 1 (.reg [⟨(some 29), none, .mov (.t 8)⟩,
  ⟨(some 30), none, .mov (.t 9)⟩,
  ⟨(some 31), none, .bin .rem (.t 30) (.c (.int .i64 7))⟩,
  ⟨(some 32), none, .sindex (.c (.str [97, 98, 90, 57, 95, 39, 120])) (.t 31)⟩,
  ⟨(some 33), none, .bslice [(.int .u8 0)] 1 [(0, (.t 32))]⟩,
  ⟨(some 34), none, .appE 1 (.t 29) (.t 33)⟩,
  ⟨(some 8), none, .mov (.t 34)⟩]))
 (.reg [⟨(some 27), none, .mov (.t 9)⟩,
  ⟨(some 28), none, .bin .add (.t 27) (.c (.int .i64 1))⟩,
  ⟨(some 9), none, .mov (.t 28)⟩]))))))
 (.seq (.reg [⟨(some 36), none, .mov (.t 8)⟩,
  ⟨(some 37), none, .call 0 [] (.c (.fn 10 [])) [(.t 36)]⟩,
  ⟨(some 35), none, .mov (.t 37)⟩,
  ⟨(some 38), none, .extract (.t 35) 0⟩,
  ⟨(some 39), none, .extract (.t 35) 1⟩,
  ⟨(some 10), none, .mov (.t 38)⟩,
  ⟨(some 11), none, .mov (.t 39)⟩])
 (.seq (.seq (.reg [⟨(some 40), none, .mov (.t 0)⟩,
  ⟨(some 41), none, .bin .gtr (.t 40) (.c (.int .i64 40))⟩])
 (.cond (.t 41) (.seq (.reg [⟨(some 42), none, .mov (.t 7)⟩,
  ⟨(some 43), none, .mov (.t 42)⟩,
  ⟨(some 44), (some (43, true)), .mov (.t 11)⟩,
  ⟨(some 45), (some (43, true)), .call 0 [] (.c (.fn 13 [])) [(.c (.int .i64 101)), (.c (.int .i64 0))]⟩,
  ⟨(some 46), (some (43, true)), .call 0 [] (.c (.fn 12 [])) [(.t 44), (.t 45)]⟩,
  ⟨(some 47), none, .pick (.t 43) (.t 46) (.c (.bool false))⟩,
  ⟨(some 48), none, .mov (.t 47)⟩,
  ⟨(some 49), (some (48, true)), .mov (.t 8)⟩,
  ⟨(some 50), (some (48, true)), .textE (.t 49)⟩,
  ⟨(some 51), (some (48, true)), .call 0 [] (.c (.fn 14 [])) [(.t 50)]⟩,
  ⟨(some 52), (some (48, true)), .not (.t 51)⟩,
  ⟨(some 53), none, .pick (.t 48) (.t 52) (.c (.bool false))⟩,
  ⟨(some 54), none, .mov (.t 53)⟩,
  ⟨(some 55), (some (54, true)), .mov (.t 8)⟩,
  ⟨(some 56), (some (54, true)), .textE (.t 55)⟩,
  ⟨(some 57), (some (54, true)), .call 0 [] (.c (.fn 15 [])) [(.t 56)]⟩,
  ⟨(some 58), (some (54, true)), .not (.t 57)⟩,
  ⟨(some 59), none, .pick (.t 54) (.t 58) (.c (.bool false))⟩,
  ⟨(some 6), none, .mov (.t 59)⟩])
 .ret)
 .skip))
 (.seq (.seq (.reg [⟨(some 60), none, .mov (.t 11)⟩,
  ⟨(some 61), none, .eqnil .iface true (.t 60)⟩,
  ⟨(some 62), none, .mov (.t 61)⟩,
  ⟨(some 63), (some (62, false)), .mov (.t 10)⟩,
  ⟨(some 64), (some (62, false)), .len 1 (.t 63)⟩,
  ⟨(some 65), (some (62, false)), .bin .neq (.t 64) (.c (.int .i64 1))⟩,
  ⟨(some 66), none, .pick (.t 62) (.c (.bool true)) (.t 65)⟩,
  ⟨(some 67), none, .mov (.t 66)⟩,
  ⟨(some 68), (some (67, false)), .mov (.t 8)⟩,
  ⟨(some 69), (some (67, false)), .textE (.t 68)⟩,
  ⟨(some 70), (some (67, false)), .call 0 [] (.c (.fn 15 [])) [(.t 69)]⟩,
  ⟨(some 71), (some (67, false)), .mov (.t 1)⟩,
  ⟨(some 72), (some (67, false)), .eqb true (.t 70) (.t 71)⟩,
  ⟨(some 73), none, .pick (.t 67) (.c (.bool true)) (.t 72)⟩,
  ⟨(some 74), none, .mov (.t 73)⟩,
  ⟨(some 75), (some (74, false)), .mov (.t 8)⟩,
  ⟨(some 76), (some (74, false)), .textE (.t 75)⟩,
  ⟨(some 77), (some (74, false)), .call 0 [] (.c (.fn 14 [])) [(.t 76)]⟩,
  ⟨(some 78), (some (74, false)), .mov (.t 1)⟩,
  ⟨(some 79), (some (74, false)), .eqb false (.t 77) (.t 78)⟩,
  ⟨(some 80), none, .pick (.t 74) (.c (.bool true)) (.t 79)⟩])
 (.cond (.t 80) (.seq (.reg [⟨(some 6), none, .mov (.c (.bool false))⟩])
 .ret)
 .skip))
 (.seq (.reg [⟨(some 82), none, .mov (.t 8)⟩,
  ⟨(some 83), none, .mov (.t 2)⟩,
  ⟨(some 84), none, .bslice [(.int .u8 0)] 2 [(0, (.c (.int .u8 32))), (1, (.t 83))]⟩,
  ⟨(some 85), none, .appE 1 (.t 82) (.t 84)⟩,
  ⟨(some 86), none, .call 0 [] (.c (.fn 10 [])) [(.t 85)]⟩,
  ⟨(some 81), none, .mov (.t 86)⟩,
  ⟨(some 87), none, .extract (.t 81) 0⟩,
  ⟨(some 88), none, .extract (.t 81) 1⟩,
  ⟨(some 12), none, .mov (.t 87)⟩,
  ⟨(some 13), none, .mov (.t 88)⟩])
 (.seq (.reg [⟨(some 89), none, .mov (.t 7)⟩,
  ⟨(some 90), none, .mov (.t 89)⟩,
  ⟨(some 91), (some (90, true)), .mov (.t 13)⟩,
  ⟨(some 92), (some (90, true)), .eqnil .iface true (.t 91)⟩,
  ⟨(some 93), (some (90, true)), .mov (.t 92)⟩,
  ⟨(some 94), (some (93, false)), .mov (.t 12)⟩,
  ⟨(some 95), (some (93, false)), .len 1 (.t 94)⟩,
  ⟨(some 96), (some (93, false)), .bin .geq (.t 95) (.c (.int .i64 1))⟩,
  ⟨(some 97), (some (93, false)), .mov (.t 96)⟩,
  ⟨(some 98), (some (97, true)), .mov (.t 12)⟩,
  ⟨(some 99), (some (97, true)), .iaddr 4 (.t 98) (.c (.int .i64 0))⟩,
  ⟨(some 100), (some (97, true)), .faddr 2 (.t 99)⟩,
  ⟨(some 101), (some (97, true)), .load none (.t 100)⟩,
  ⟨(some 102), (some (97, true)), .mov (.t 10)⟩,
  ⟨(some 103), (some (97, true)), .iaddr 4 (.t 102) (.c (.int .i64 0))⟩,
  ⟨(some 104), (some (97, true)), .faddr 2 (.t 103)⟩,
  ⟨(some 105), (some (97, true)), .load none (.t 104)⟩,
  ⟨(some 106), (some (97, true)), .bin .eql (.t 101) (.t 105)⟩,
  ⟨(some 107), (some (93, false)), .pick (.t 97) (.t 106) (.c (.bool false))⟩,
  ⟨(some 108), (some (90, true)), .pick (.t 93) (.c (.bool true)) (.t 107)⟩,
  ⟨(some 109), none, .pick (.t 90) (.t 108) (.c (.bool false))⟩,
  ⟨(some 110), none, .mov (.t 109)⟩,
  ⟨(some 111), (some (110, true)), .call 0 [] (.c (.fn 14 [])) [(.c (.str [108, 101, 116]))]⟩,
  ⟨(some 112), (some (110, true)), .not (.t 111)⟩,
  ⟨(some 113), none, .pick (.t 110) (.t 112) (.c (.bool false))⟩,
  ⟨(some 114), none, .mov (.t 113)⟩,
  ⟨(some 115), (some (114, true)), .call 0 [] (.c (.fn 14 [])) [(.c (.str [95]))]⟩,
  ⟨(some 116), (some (114, true)), .not (.t 115)⟩,
  ⟨(some 117), none, .pick (.t 114) (.t 116) (.c (.bool false))⟩,
  ⟨(some 118), none, .mov (.t 117)⟩,
  ⟨(some 119), (some (118, true)), .call 0 [] (.c (.fn 15 [])) [(.c (.str [108, 101, 116]))]⟩,
  ⟨(some 120), (some (118, true)), .not (.t 119)⟩,
  ⟨(some 121), none, .pick (.t 118) (.t 120) (.c (.bool false))⟩,
  ⟨(some 122), none, .mov (.t 121)⟩,
  ⟨(some 123), (some (122, true)), .call 0 [] (.c (.fn 16 [])) [(.c (.str [111, 102]))]⟩,
  ⟨(some 124), none, .pick (.t 122) (.t 123) (.c (.bool false))⟩,
  ⟨(some 6), none, .mov (.t 124)⟩])
 .ret)))))))))))),
  [.t 6], false, true, 125⟩
theorem co5 : compF Tryd.prog ⟨[], [(9, [0, 1, 2, 7, 8, 9], [])], [], [], [], [20, 1000034, 1000050, 1000056, 1000069, 1000076, 1000085], 5, [], [], []⟩ false true Tryd.f5 = some ac5 := by kernel_rfl

/-- paideia/paideialaw1.LexerNumbers -/
def ac6 : AF := ⟨(.seq (.reg [⟨(some 4), none, .mov (.c (.bool false))⟩])
 (.seq (.reg [⟨(some 13), none, .call 0 [] (.c (.fn 9 [])) []⟩,
  ⟨(some 5), none, .mov (.t 13)⟩])
 (.seq (.seq (.reg [⟨(some 14), none, .mov (.t 5)⟩,
  ⟨(some 15), none, .not (.t 14)⟩])
 (.cond (.t 15) (.seq (.reg [⟨(some 4), none, .mov (.c (.bool false))⟩])
 .ret)
 .skip))
 (.seq (.seq (.reg [⟨(some 16), none, .mov (.t 0)⟩,
  ⟨(some 17), none, .bin .lss (.t 16) (.c (.int .i64 0))⟩])
 (.cond (.t 17) (.reg [⟨(some 18), none, .mov (.t 0)⟩,
  ⟨(some 19), none, .bin .add (.t 18) (.c (.int .i64 1))⟩,
  ⟨(some 20), none, .neg (.t 19)⟩,
  ⟨(some 0), none, .mov (.t 20)⟩])
 .skip))
 (.seq (.reg [⟨(some 21), none, .mov (.t 0)⟩,
  ⟨(some 22), none, .bin .rem (.t 21) (.c (.int .i64 1000000000))⟩,
  ⟨(some 0), none, .mov (.t 22)⟩])
 (.seq (.reg [⟨(some 23), none, .mov (.t 1)⟩,
  ⟨(some 24), none, .call 0 [] (.c (.fn 11 [])) [(.t 23), (.c (.int .i64 20))]⟩,
  ⟨(some 1), none, .mov (.t 24)⟩])
 (.seq (.reg [⟨(some 6), none, .mov (.c (.sl .clip []))⟩])
 (.seq (.seq (.reg [⟨(some 7), none, .mov (.c (.int .i64 0))⟩])
 (.block 0 (.loop [0, 1, 5, 6, 7] [] (.seq (.seq (.reg [⟨(some 25), none, .mov (.t 7)⟩,
  ⟨(some 26), none, .mov (.t 1)⟩,
  ⟨(some 27), none, .bin .lss (.t 25) (.t 26)⟩])
 (.cond (.t 27) .skip
 (.exit 0)))
 (.seq (.block 1 (.reg [⟨(some 30), none, .mov (.t 6)⟩,
  ⟨(some 31), none, .bslice [(.int .u8 0)] 1 [(0, (.c (.int .u8 48)))]⟩,
  ⟨(some 32), none, .appV 1 (.t 30) (.t 31)⟩,
  ⟨(some 6), none, .mov (.t 32)⟩]))
 (.reg [⟨(some 28), none, .mov (.t 7)⟩,
  ⟨(some 29), none, .bin .add (.t 28) (.c (.int .i64 1))⟩,
  ⟨(some 7), none, .mov (.t 29)⟩]))))))
 (.seq (.reg [⟨(some 33), none, .mov (.t 6)⟩,
  ⟨(some 34), none, .len 1 (.t 33)⟩,
  ⟨(some 8), none, .mov (.t 34)⟩])
 (.seq (.seq (.reg [⟨(some 35), none, .mov (.t 0)⟩,
  ⟨(some 9), none, .mov (.t 35)⟩])
 (.block 2 (.loop [0, 5, 6, 8, 9] [] (.seq (.block 3 (.seq (.reg [⟨(some 38), none, .mov (.t 9)⟩,
  ⟨(some 39), none, .bin .rem (.t 38) (.c (.int .i64 10))⟩,
  ⟨(some 40), none, .bin .add (.c (.int .i64 48)) (.t 39)⟩,
  ⟨(some 41), none, .conv (.int .u8) (.t 40)⟩,
  ⟨(some 42), none, .bslice [(.int .u8 0)] 1 [(0, (.t 41))]⟩,
  ⟨(some 43), none, .mov (.t 6)⟩,
  ⟨(some 44), none, .mov (.t 8)⟩,
  ⟨(some 45), none, .slice 1 (.t 43) (some (.t 44)) none none⟩,
  ⟨(some 46), none, .appE 1 (.t 42) (.t 45)⟩,
  ⟨(some 10), none, .mov (.t 46)⟩])
 (.seq (.reg [⟨(some 47), none, .mov (.t 6)⟩,
  ⟨(some 48), none, .mov (.t 8)⟩,
  ⟨(some 49), none, .slice 1 (.t 47) none (some (.t 48)) none⟩,
  ⟨(some 50), none, .mov (.t 10)⟩,
  ⟨(some 51), none, .appV 1 (.t 49) (.t 50)⟩,
  ⟨(some 6), none, .mov (.t 51)⟩])
 (.seq (.reg [⟨(some 52), none, .mov (.t 9)⟩,
  ⟨(some 53), none, .bin .lss (.t 52) (.c (.int .i64 10))⟩])
 (.cond (.t 53) (.exit 2)
 .skip)))))
 (.reg [⟨(some 36), none, .mov (.t 9)⟩,
  ⟨(some 37), none, .bin .quo (.t 36) (.c (.int .i64 10))⟩,
  ⟨(some 9), none, .mov (.t 37)⟩])))))
 (.seq (.reg [⟨(some 55), none, .bslice [(.int .u8 0)] 0 []⟩,
  ⟨(some 56), none, .mov (.t 6)⟩,
  ⟨(some 57), none, .appE 1 (.t 55) (.t 56)⟩,
  ⟨(some 58), none, .bslice [(.int .u8 0)] 1 [(0, (.c (.int .u8 120)))]⟩,
  ⟨(some 59), none, .append 1 (.t 57) (.t 58)⟩,
  ⟨(some 60), none, .call 0 [] (.c (.fn 10 [])) [(.t 59)]⟩,
  ⟨(some 54), none, .mov (.t 60)⟩,
  ⟨(some 61), none, .extract (.t 54) 0⟩,
  ⟨(some 62), none, .extract (.t 54) 1⟩,
  ⟨(some 11), none, .mov (.t 61)⟩,
  ⟨(some 12), none, .mov (.t 62)⟩])
 (.seq (.seq (.reg [⟨(some 63), none, .mov (.t 6)⟩,
  ⟨(some 64), none, .len 1 (.t 63)⟩,
  ⟨(some 65), none, .bin .gtr (.t 64) (.c (.int .i64 15))⟩])
 (.cond (.t 65) (.seq (.reg [⟨(some 66), none, .mov (.t 5)⟩,
  ⟨(some 67), none, .mov (.t 66)⟩,
  ⟨(some 68), (some (67, true)), .mov (.t 12)⟩,
  ⟨(some 69), (some (67, true)), .call 0 [] (.c (.fn 13 [])) [(.c (.int .i64 101)), (.c (.int .i64 0))]⟩,
  ⟨(some 70), (some (67, true)), .call 0 [] (.c (.fn 12 [])) [(.t 68), (.t 69)]⟩,
  ⟨(some 71), none, .pick (.t 67) (.t 70) (.c (.bool false))⟩,
  ⟨(some 4), none, .mov (.t 71)⟩])
 .ret)
 .skip))
 (.seq (.reg [⟨(some 72), none, .mov (.t 5)⟩,
  ⟨(some 73), none, .mov (.t 72)⟩,
  ⟨(some 74), (some (73, true)), .mov (.t 12)⟩,
  ⟨(some 75), (some (73, true)), .eqnil .iface false (.t 74)⟩,
  ⟨(some 76), none, .pick (.t 73) (.t 75) (.c (.bool false))⟩,
  ⟨(some 77), none, .mov (.t 76)⟩,
  ⟨(some 78), (some (77, true)), .mov (.t 11)⟩,
  ⟨(some 79), (some (77, true)), .len 1 (.t 78)⟩,
  ⟨(some 80), (some (77, true)), .bin .eql (.t 79) (.c (.int .i64 2))⟩,
  ⟨(some 81), none, .pick (.t 77) (.t 80) (.c (.bool false))⟩,
  ⟨(some 82), none, .mov (.t 81)⟩,
  ⟨(some 83), (some (82, true)), .mov (.t 11)⟩,
  ⟨(some 84), (some (82, true)), .iaddr 4 (.t 83) (.c (.int .i64 0))⟩,
  ⟨(some 85), (some (82, true)), .faddr 3 (.t 84)⟩,
  ⟨(some 86), (some (82, true)), .load none (.t 85)⟩,
  ⟨(some 87), (some (82, true)), .mov (.t 0)⟩,
  ⟨(some 88), (some (82, true)), .bin .eql (.t 86) (.t 87)⟩,
  ⟨(some 89), none, .pick (.t 82) (.t 88) (.c (.bool false))⟩,
  ⟨(some 90), none, .mov (.t 89)⟩,
  ⟨(some 91), (some (90, true)), .mov (.t 11)⟩,
  ⟨(some 92), (some (90, true)), .iaddr 4 (.t 91) (.c (.int .i64 0))⟩,
  ⟨(some 93), (some (90, true)), .faddr 0 (.t 92)⟩,
  ⟨(some 94), (some (90, true)), .load none (.t 93)⟩,
  ⟨(some 95), (some (90, true)), .bin .eql (.t 94) (.c (.int .i64 3))⟩,
  ⟨(some 96), none, .pick (.t 90) (.t 95) (.c (.bool false))⟩,
  ⟨(some 97), none, .mov (.t 96)⟩,
  ⟨(some 98), (some (97, true)), .mov (.t 11)⟩,
  ⟨(some 99), (some (97, true)), .iaddr 4 (.t 98) (.c (.int .i64 1))⟩,
  ⟨(some 100), (some (97, true)), .faddr 2 (.t 99)⟩,
  ⟨(some 101), (some (97, true)), .load none (.t 100)⟩,
  ⟨(some 102), (some (97, true)), .bin .eql (.t 101) (.c (.str [120]))⟩,
  ⟨(some 103), none, .pick (.t 97) (.t 102) (.c (.bool false))⟩,
  ⟨(some 104), none, .mov (.t 103)⟩,
  ⟨(some 105), (some (104, true)), .mov (.t 11)⟩,
  ⟨(some 106), (some (104, true)), .iaddr 4 (.t 105) (.c (.int .i64 1))⟩,
  ⟨(some 107), (some (104, true)), .faddr 1 (.t 106)⟩,
  ⟨(some 108), (some (104, true)), .load none (.t 107)⟩,
  ⟨(some 109), (some (104, true)), .mov (.t 6)⟩,
  ⟨(some 110), (some (104, true)), .len 1 (.t 109)⟩,
  ⟨(some 111), (some (104, true)), .bin .eql (.t 108) (.t 110)⟩,
  ⟨(some 112), none, .pick (.t 104) (.t 111) (.c (.bool false))⟩,
  ⟨(some 4), none, .mov (.t 112)⟩])
 .ret))))))))))))),
  [.t 4], false, true, 113⟩
theorem co6 : compF Tryd.prog ⟨[], [(10, [0, 1, 5, 6, 7], []), (16, [0, 5, 6, 8, 9], [])], [], [], [], [2000032, 1000046, 2000051, 1000057], 6, [], [], []⟩ false true Tryd.f6 = some ac6 := by kernel_rfl

/-- paideia/paideialaw1.first -/
def ac9 : AF := ⟨(.seq (.reg [⟨(some 0), none, .mov (.c (.bool false))⟩])
 (.seq (.reg [⟨(some 4), none, .bslice [(.int .u8 0)] 6 [(0, (.c (.int .u8 97))), (1, (.c (.int .u8 32))), (2, (.c (.int .u8 45))), (3, (.c (.int .u8 62))), (4, (.c (.int .u8 32))), (5, (.c (.int .u8 66)))]⟩,
  ⟨(some 5), none, .mov (.t 4)⟩,
  ⟨(some 6), none, .call 0 [] (.c (.fn 10 [])) [(.t 5)]⟩,
  ⟨(some 3), none, .mov (.t 6)⟩,
  ⟨(some 7), none, .extract (.t 3) 0⟩,
  ⟨(some 8), none, .extract (.t 3) 1⟩,
  ⟨(some 1), none, .mov (.t 7)⟩,
  ⟨(some 2), none, .mov (.t 8)⟩])
 (.seq (.reg [⟨(some 9), none, .mov (.t 2)⟩,
  ⟨(some 10), none, .eqnil .iface false (.t 9)⟩,
  ⟨(some 11), none, .mov (.t 10)⟩,
  ⟨(some 12), (some (11, true)), .mov (.t 1)⟩,
  ⟨(some 13), (some (11, true)), .len 1 (.t 12)⟩,
  ⟨(some 14), (some (11, true)), .bin .eql (.t 13) (.c (.int .i64 3))⟩,
  ⟨(some 15), none, .pick (.t 11) (.t 14) (.c (.bool false))⟩,
  ⟨(some 16), none, .mov (.t 15)⟩,
  ⟨(some 17), (some (16, true)), .mov (.t 1)⟩,
  ⟨(some 18), (some (16, true)), .iaddr 4 (.t 17) (.c (.int .i64 1))⟩,
  ⟨(some 19), (some (16, true)), .faddr 2 (.t 18)⟩,
  ⟨(some 20), (some (16, true)), .load none (.t 19)⟩,
  ⟨(some 21), (some (16, true)), .bin .eql (.t 20) (.c (.str [45, 62]))⟩,
  ⟨(some 22), none, .pick (.t 16) (.t 21) (.c (.bool false))⟩,
  ⟨(some 23), none, .mov (.t 22)⟩,
  ⟨(some 24), (some (23, true)), .mov (.t 1)⟩,
  ⟨(some 25), (some (23, true)), .iaddr 4 (.t 24) (.c (.int .i64 2))⟩,
  ⟨(some 26), (some (23, true)), .faddr 1 (.t 25)⟩,
  ⟨(some 27), (some (23, true)), .load none (.t 26)⟩,
  ⟨(some 28), (some (23, true)), .bin .eql (.t 27) (.c (.int .i64 5))⟩,
  ⟨(some 29), none, .pick (.t 23) (.t 28) (.c (.bool false))⟩,
  ⟨(some 0), none, .mov (.t 29)⟩])
 .ret))),
  [.t 0], false, true, 30⟩
theorem co9 : compF Tryd.prog ⟨[], [], [], [], [], [], 9, [], [], []⟩ false true Tryd.f9 = some ac9 := by kernel_rfl

/-- paideia/lexer.Split: round 0 -/
def ab10_0 : AB := ⟨[9, 10], (.seq (.reg [⟨(some 5), none, .alloc [(.int .i64 0), (.int .i64 0), (.str []), (.int .i64 0)] false⟩,
  ⟨none, none, .store 4 (.t 5) (.t 9)⟩])
 (.reg [⟨(some 6), none, .mov (.t 10)⟩])),
 (.block 1 (.seq (.seq (.reg [⟨(some 11), none, .mov (.t 6)⟩,
  ⟨(some 12), none, .eqnil .iface true (.t 11)⟩])
 (.cond (.t 12) (.seq (.reg [⟨(some 13), none, .mov (.t 6)⟩,
  ⟨none, none, .store 1 (.t 2) (.c (.sl .clip []))⟩,
  ⟨none, none, .store 1 (.t 3) (.t 13)⟩])
 .ret)
 .skip))
 (.reg [⟨(some 14), none, .load none (.t 4)⟩,
  ⟨(some 15), none, .load (some 4) (.t 5)⟩,
  ⟨(some 16), none, .bslice [(.int .i64 0), (.int .i64 0), (.str []), (.int .i64 0)] 1 [(0, (.t 15))]⟩,
  ⟨(some 17), none, .append 4 (.t 14) (.t 16)⟩,
  ⟨none, none, .store 1 (.t 4) (.t 17)⟩])))⟩
theorem cb10_0 : ((Tryd.f10.body.bind fun c => ((rfs c)[640 % 64]?).map fun t => (t.1, t.2.1, t.2.2, Tryd.f10.ntmps)).bind (compB Tryd.prog ⟨[], [], [], [], [], [], 10, [], [], []⟩)) = some ab10_0 := by kernel_rfl

/-- paideia/lexer.Split -/
def ac10 : AF := ⟨(.seq (.reg [⟨(some 2), none, .alloc [(.sl .clip [])] true⟩,
  ⟨(some 3), none, .alloc [.nili] true⟩])
 (.seq (.reg [⟨(some 4), none, .alloc [(.sl .clip [])] true⟩])
 (.seq (.seq (.reg [⟨(some 7), none, .mov (.t 0)⟩,
  ⟨(some 8), none, .call 0 [] (.c (.fn 20 [])) [(.t 7)]⟩])
 (.block 0 (.rfunc (.t 8) 640 [2, 3, 4] [34])))
 (.seq (.reg [⟨(some 18), none, .load none (.t 4)⟩,
  ⟨none, none, .store 1 (.t 2) (.t 18)⟩,
  ⟨none, none, .store 1 (.t 3) (.c .nili)⟩])
 .ret)))),
  [.cell 2 none, .cell 3 none], false, false, 19⟩
theorem co10 : compF Tryd.prog ⟨[2, 3, 4], [], [], [], [], [], 10, [(0, [2, 3, 4])], [34], []⟩ false false Tryd.f10 = some ac10 := by kernel_rfl

/-- paideia/paideiaworld.Number -/
def ac11 : AF := ⟨(.seq (.reg [⟨(some 4), none, .mov (.c (.int .i64 0))⟩])
 (.seq (.reg [⟨(some 6), none, .mov (.t 0)⟩,
  ⟨(some 7), none, .mov (.t 1)⟩,
  ⟨(some 8), none, .bin .rem (.t 6) (.t 7)⟩,
  ⟨(some 5), none, .mov (.t 8)⟩])
 (.seq (.seq (.reg [⟨(some 9), none, .mov (.t 5)⟩,
  ⟨(some 10), none, .bin .lss (.t 9) (.c (.int .i64 0))⟩])
 (.cond (.t 10) (.reg [⟨(some 11), none, .mov (.t 5)⟩,
  ⟨(some 12), none, .mov (.t 1)⟩,
  ⟨(some 13), none, .bin .add (.t 11) (.t 12)⟩,
  ⟨(some 5), none, .mov (.t 13)⟩])
 .skip))
 (.seq (.reg [⟨(some 14), none, .mov (.t 5)⟩,
  ⟨(some 4), none, .mov (.t 14)⟩])
 .ret)))),
  [.t 4], false, true, 15⟩
theorem co11 : compF Tryd.prog ⟨[], [], [], [], [], [], 11, [], [], []⟩ false true Tryd.f11 = some ac11 := by kernel_rfl

/-- paideia/paideiasee.Same -/
def ac12 : AF := ⟨(.seq (.reg [⟨(some 3), none, .box (.t 1) 3 false⟩,
  ⟨(some 4), none, .mov (.c (.bool false))⟩])
 (.seq (.reg [⟨(some 5), none, .mov (.t 0)⟩,
  ⟨(some 6), none, .call 0 [] (.c (.fn 21 [])) [(.t 5)]⟩,
  ⟨(some 7), none, .loadL (some 3) (.t 3)⟩,
  ⟨(some 8), none, .call 0 [] (.c (.fn 22 [])) [(.t 6), (.t 7)]⟩,
  ⟨(some 4), none, .mov (.t 8)⟩])
 .ret)),
  [.t 4], false, true, 9⟩
theorem co12 : compF Tryd.prog ⟨[], [], [], [], [], [], 12, [], [], []⟩ false true Tryd.f12 = some ac12 := by kernel_rfl

/-- paideia/paideiaref.Placed -/
def ac13 : AF := ⟨(.seq (.reg [⟨(some 4), none, .alloc [(.int .i64 0), (.bool false), (.int .i64 0)] false⟩])
 (.seq (.seq (.reg [⟨(some 5), none, .mov (.t 0)⟩,
  ⟨(some 6), none, .bin .eql (.t 5) (.c (.int .i64 0))⟩])
 (.cond (.t 6) (.seq (.reg [⟨(some 7), none, .call 0 [] (.c (.fn 19 [])) []⟩,
  ⟨none, none, .store 3 (.t 4) (.t 7)⟩])
 .ret)
 .skip))
 (.seq (.reg [⟨(some 8), none, .mov (.t 0)⟩,
  ⟨(some 9), none, .mov (.t 1)⟩,
  ⟨(some 10), none, .build [(.int .i64 0), (.bool false), (.int .i64 0)] [(0, 1, (.t 8)), (1, 1, (.c (.bool true))), (2, 1, (.t 9))]⟩,
  ⟨none, none, .store 3 (.t 4) (.t 10)⟩])
 .ret))),
  [.cell 4 (some 3)], false, true, 11⟩
theorem co13 : compF Tryd.prog ⟨[], [], [], [], [], [], 13, [], [], []⟩ false true Tryd.f13 = some ac13 := by kernel_rfl

/-- paideia/lexer.Low -/
def ac14 : AF := ⟨(.seq (.reg [⟨(some 2), none, .mov (.c (.bool false))⟩])
 (.seq (.reg [⟨(some 3), none, .mov (.t 0)⟩,
  ⟨(some 4), none, .call 0 [] (.c (.fn 28 [])) [(.t 3)]⟩,
  ⟨(some 5), none, .mov (.t 4)⟩,
  ⟨(some 6), (some (5, true)), .mov (.t 0)⟩,
  ⟨(some 7), (some (5, true)), .sindex (.t 6) (.c (.int .i64 0))⟩,
  ⟨(some 8), (some (5, true)), .call 0 [] (.c (.fn 29 [])) [(.t 7)]⟩,
  ⟨(some 9), none, .pick (.t 5) (.t 8) (.c (.bool false))⟩,
  ⟨(some 10), none, .mov (.t 9)⟩,
  ⟨(some 11), (some (10, true)), .mov (.t 0)⟩,
  ⟨(some 12), (some (10, true)), .bin .neq (.t 11) (.c (.str [95]))⟩,
  ⟨(some 13), none, .pick (.t 10) (.t 12) (.c (.bool false))⟩,
  ⟨(some 14), none, .mov (.t 13)⟩,
  ⟨(some 15), (some (14, true)), .mov (.t 0)⟩,
  ⟨(some 16), (some (14, true)), .call 0 [] (.c (.fn 16 [])) [(.t 15)]⟩,
  ⟨(some 17), (some (14, true)), .not (.t 16)⟩,
  ⟨(some 18), none, .pick (.t 14) (.t 17) (.c (.bool false))⟩,
  ⟨(some 2), none, .mov (.t 18)⟩])
 .ret)),
  [.t 2], false, true, 19⟩
theorem co14 : compF Tryd.prog ⟨[], [], [], [], [], [], 14, [], [], []⟩ false true Tryd.f14 = some ac14 := by kernel_rfl

/-- paideia/lexer.High -/
def ac15 : AF := ⟨(.seq (.reg [⟨(some 2), none, .mov (.c (.bool false))⟩])
 (.seq (.reg [⟨(some 3), none, .mov (.t 0)⟩,
  ⟨(some 4), none, .call 0 [] (.c (.fn 28 [])) [(.t 3)]⟩,
  ⟨(some 5), none, .mov (.t 4)⟩,
  ⟨(some 6), (some (5, true)), .mov (.t 0)⟩,
  ⟨(some 7), (some (5, true)), .sindex (.t 6) (.c (.int .i64 0))⟩,
  ⟨(some 8), (some (5, true)), .call 0 [] (.c (.fn 30 [])) [(.t 7)]⟩,
  ⟨(some 9), none, .pick (.t 5) (.t 8) (.c (.bool false))⟩,
  ⟨(some 2), none, .mov (.t 9)⟩])
 .ret)),
  [.t 2], false, true, 10⟩
theorem co15 : compF Tryd.prog ⟨[], [], [], [], [], [], 15, [], [], []⟩ false true Tryd.f15 = some ac15 := by kernel_rfl

/-- paideia/lexer.Reserved -/
def ac16 : AF := ⟨(.seq (.reg [⟨(some 2), none, .mov (.c (.bool false))⟩])
 (.seq (.reg [⟨(some 3), none, .mov (.t 0)⟩,
  ⟨(some 4), none, .bin .neq (.t 3) (.c (.str []))⟩,
  ⟨(some 5), none, .mov (.t 4)⟩,
  ⟨(some 6), (some (5, true)), .mov (.t 0)⟩,
  ⟨(some 7), (some (5, true)), .call 0 [] (.c (.fn 31 [])) [(.t 6), (.c (.str [32]))]⟩,
  ⟨(some 8), (some (5, true)), .not (.t 7)⟩,
  ⟨(some 9), none, .pick (.t 5) (.t 8) (.c (.bool false))⟩,
  ⟨(some 10), none, .mov (.t 9)⟩,
  ⟨(some 11), (some (10, true)), .mov (.t 0)⟩,
  ⟨(some 12), (some (10, true)), .bin .add (.c (.str [32])) (.t 11)⟩,
  ⟨(some 13), (some (10, true)), .bin .add (.t 12) (.c (.str [32]))⟩,
  ⟨(some 14), (some (10, true)), .call 0 [] (.c (.fn 31 [])) [(.c (.str [32, 100, 97, 116, 97, 32, 99, 108, 97, 115, 115, 32, 105, 110, 115, 116, 97, 110, 99, 101, 32, 119, 104, 101, 114, 101, 32, 108, 101, 116, 32, 105, 110, 32, 99, 97, 115, 101, 32, 111, 102, 32, 105, 102, 32, 116, 104, 101, 110, 32, 101, 108, 115, 101, 32, 100, 101, 114, 105, 118, 105, 110, 103, 32])), (.t 13)]⟩,
  ⟨(some 15), none, .pick (.t 10) (.t 14) (.c (.bool false))⟩,
  ⟨(some 2), none, .mov (.t 15)⟩])
 .ret)),
  [.t 2], false, true, 16⟩
theorem co16 : compF Tryd.prog ⟨[], [], [], [], [], [], 16, [], [], []⟩ false true Tryd.f16 = some ac16 := by kernel_rfl

/-- paideia/paideiaref.None -/
def ac19 : AF := ⟨(.seq (.reg [⟨(some 0), none, .alloc [(.int .i64 0), (.bool false), (.int .i64 0)] false⟩])
 (.seq (.reg [⟨(some 1), none, .build [(.int .i64 0), (.bool false), (.int .i64 0)] []⟩,
  ⟨none, none, .store 3 (.t 0) (.t 1)⟩])
 .ret)),
  [.cell 0 (some 3)], false, true, 2⟩
theorem co19 : compF Tryd.prog ⟨[], [], [], [], [], [], 19, [], [], []⟩ false true Tryd.f19 = some ac19 := by kernel_rfl

/-- paideia/lexer.All -/
def ac20 : AF := ⟨(.seq (.reg [⟨(some 1), none, .box (.t 0) 1 true⟩,
  ⟨(some 2), none, .mov (.c .nilfn)⟩])
 (.seq (.reg [⟨(some 3), none, .mkfn 34 [(.t 1)]⟩,
  ⟨(some 2), none, .mov (.t 3)⟩])
 .ret)),
  [.t 2], false, false, 4⟩
theorem co20 : compF Tryd.prog ⟨[1], [], [], [], [], [], 20, [], [], []⟩ false false Tryd.f20 = some ac20 := by kernel_rfl

/-- paideia/paideiasee.Fault -/
def ac21 : AF := ⟨(.seq (.reg [⟨(some 2), none, .alloc [(.int .i64 0), (.bool false), (.int .i64 0)] false⟩])
 (.seq (.seq (.reg [⟨(some 5), none, .mov (.t 0)⟩,
  ⟨(some 6), none, .eqnil .iface false (.t 5)⟩])
 (.cond (.t 6) (.seq (.reg [⟨(some 7), none, .call 0 [] (.c (.fn 19 [])) []⟩,
  ⟨none, none, .store 3 (.t 2) (.t 7)⟩])
 .ret)
 .skip))
 (.seq (.reg [⟨(some 9), none, .mov (.t 0)⟩,
  ⟨(some 10), none, .tasent [0, 1, 3, 4, 5, 6, 7, 8, 9, 10, 11, 12, 13, 14, 15] 59 .nilp (.t 9)⟩,
  ⟨(some 8), none, .mov (.t 10)⟩,
  ⟨(some 11), none, .extract (.t 8) 0⟩,
  ⟨(some 12), none, .extract (.t 8) 1⟩,
  ⟨(some 3), none, .mov (.t 11)⟩,
  ⟨(some 4), none, .mov (.t 12)⟩])
 (.seq (.seq (.reg [⟨(some 13), none, .mov (.t 4)⟩,
  ⟨(some 14), none, .not (.t 13)⟩])
 (.cond (.t 14) (.seq (.reg [⟨(some 15), none, .mov (.t 0)⟩,
  ⟨(some 16), none, .call 0 [] (.c (.fn 38 [])) [(.t 15)]⟩,
  ⟨(some 17), none, .call 0 [] (.c (.fn 37 [])) [(.t 16)]⟩,
  ⟨none, none, .store 3 (.t 2) (.t 17)⟩])
 .ret)
 .skip))
 (.seq (.seq (.reg [⟨(some 18), none, .mov (.t 3)⟩,
  ⟨(some 19), none, .eqnil .ptr false (.t 18)⟩,
  ⟨(some 20), none, .mov (.t 19)⟩,
  ⟨(some 21), (some (20, false)), .mov (.t 3)⟩,
  ⟨(some 22), (some (20, false)), .nilck (.t 21)⟩,
  ⟨(some 23), (some (20, false)), .faddr 1 (.t 22)⟩,
  ⟨(some 24), (some (20, false)), .load none (.t 23)⟩,
  ⟨(some 25), (some (20, false)), .eqnil .iface false (.t 24)⟩,
  ⟨(some 26), none, .pick (.t 20) (.c (.bool true)) (.t 25)⟩])
 (.cond (.t 26) (.seq (.reg [⟨(some 27), none, .call 0 [] (.c (.fn 37 [])) [(.c (.int .i64 (-1)))]⟩,
  ⟨none, none, .store 3 (.t 2) (.t 27)⟩])
 .ret)
 .skip))
 (.seq (.reg [⟨(some 28), none, .mov (.t 3)⟩,
  ⟨(some 29), none, .nilck (.t 28)⟩,
  ⟨(some 30), none, .faddr 1 (.t 29)⟩,
  ⟨(some 31), none, .load none (.t 30)⟩,
  ⟨(some 32), none, .callK 0 [] (.c (.fn 38 [])) [(.t 31)] [(.t 3)]⟩,
  ⟨(some 33), none, .mov (.t 3)⟩,
  ⟨(some 34), none, .nilck (.t 33)⟩,
  ⟨(some 35), none, .faddr 0 (.t 34)⟩,
  ⟨(some 36), none, .loadX false none (.t 35) [] [(.t 3)]⟩,
  ⟨(some 37), none, .call 0 [] (.c (.fn 13 [])) [(.t 32), (.t 36)]⟩,
  ⟨none, none, .store 3 (.t 2) (.t 37)⟩])
 .ret)))))),
  [.cell 2 (some 3)], false, true, 38⟩
theorem co21 : compF Tryd.prog ⟨[], [], [], [0, 1, 3, 4, 5, 6, 7, 8, 9, 10, 11, 12, 13, 14, 15, 1000125, 3000002, 4000017], [], [], 21, [], [], [3]⟩ false true Tryd.f21 = some ac21 := by kernel_rfl

/-- paideia/paideiaref.SameFault -/
def ac22 : AF := ⟨(.seq (.reg [⟨(some 2), none, .box (.t 0) 3 false⟩,
  ⟨(some 3), none, .box (.t 1) 3 false⟩,
  ⟨(some 4), none, .mov (.c (.bool false))⟩])
 (.seq (.reg [⟨(some 5), none, .faddr 0 (.t 2)⟩,
  ⟨(some 6), none, .load none (.t 5)⟩,
  ⟨(some 7), none, .faddr 0 (.t 3)⟩,
  ⟨(some 8), none, .load none (.t 7)⟩,
  ⟨(some 9), none, .bin .eql (.t 6) (.t 8)⟩,
  ⟨(some 10), none, .mov (.t 9)⟩,
  ⟨(some 11), (some (10, true)), .faddr 1 (.t 2)⟩,
  ⟨(some 12), (some (10, true)), .load none (.t 11)⟩,
  ⟨(some 13), (some (10, true)), .faddr 1 (.t 3)⟩,
  ⟨(some 14), (some (10, true)), .load none (.t 13)⟩,
  ⟨(some 15), (some (10, true)), .eqb false (.t 12) (.t 14)⟩,
  ⟨(some 16), none, .pick (.t 10) (.t 15) (.c (.bool false))⟩,
  ⟨(some 17), none, .mov (.t 16)⟩,
  ⟨(some 18), (some (17, true)), .faddr 2 (.t 2)⟩,
  ⟨(some 19), (some (17, true)), .load none (.t 18)⟩,
  ⟨(some 20), (some (17, true)), .faddr 2 (.t 3)⟩,
  ⟨(some 21), (some (17, true)), .load none (.t 20)⟩,
  ⟨(some 22), (some (17, true)), .bin .eql (.t 19) (.t 21)⟩,
  ⟨(some 23), none, .pick (.t 17) (.t 22) (.c (.bool false))⟩,
  ⟨(some 4), none, .mov (.t 23)⟩])
 .ret)),
  [.t 4], false, true, 24⟩
theorem co22 : compF Tryd.prog ⟨[], [], [], [], [], [], 22, [], [], []⟩ false true Tryd.f22 = some ac22 := by kernel_rfl

/-- paideia/lexer.isName -/
def ac28 : AF := ⟨(.seq (.reg [⟨(some 2), none, .mov (.c (.bool false))⟩])
 (.seq (.seq (.reg [⟨(some 4), none, .mov (.t 0)⟩,
  ⟨(some 5), none, .len 0 (.t 4)⟩,
  ⟨(some 6), none, .mov (.c (.int .i64 0))⟩])
 (.block 0 (.loop [0, 5, 6] [] (.seq (.reg [⟨(some 7), none, .bin .lss (.t 6) (.t 5)⟩])
 (.seq (.cond (.t 7) .skip
 (.exit 0))
 (.seq (.block 1 (.seq (.reg [⟨(some 8), none, .mov (.t 6)⟩,
  ⟨(some 3), none, .mov (.t 8)⟩])
 (.seq (.reg [⟨(some 9), none, .mov (.t 0)⟩,
  ⟨(some 10), none, .mov (.t 3)⟩,
  ⟨(some 11), none, .sindex (.t 9) (.t 10)⟩,
  ⟨(some 12), none, .call 0 [] (.c (.fn 46 [])) [(.t 11)]⟩,
  ⟨(some 13), none, .not (.t 12)⟩])
 (.cond (.t 13) (.seq (.reg [⟨(some 2), none, .mov (.c (.bool false))⟩])
 .ret)
 .skip))))
 (.reg [⟨(some 14), none, .bin .add (.t 6) (.c (.int .i64 1))⟩,
  ⟨(some 6), none, .mov (.t 14)⟩])))))))
 (.seq (.reg [⟨(some 15), none, .mov (.t 0)⟩,
  ⟨(some 16), none, .len 0 (.t 15)⟩,
  ⟨(some 17), none, .bin .gtr (.t 16) (.c (.int .i64 0))⟩,
  ⟨(some 18), none, .mov (.t 17)⟩,
  ⟨(some 19), (some (18, true)), .mov (.t 0)⟩,
  ⟨(some 20), (some (18, true)), .len 0 (.t 19)⟩,
  ⟨(some 21), (some (18, true)), .bin .leq (.t 20) (.c (.int .i64 40))⟩,
  ⟨(some 22), none, .pick (.t 18) (.t 21) (.c (.bool false))⟩,
  ⟨(some 2), none, .mov (.t 22)⟩])
 .ret))),
  [.t 2], false, true, 23⟩
theorem co28 : compF Tryd.prog ⟨[], [(2, [0, 5, 6], [])], [], [], [], [], 28, [], [], []⟩ false true Tryd.f28 = some ac28 := by kernel_rfl

/-- paideia/lexer.isSmall -/
def ac29 : AF := ⟨(.seq (.reg [⟨(some 2), none, .mov (.c (.bool false))⟩])
 (.seq (.reg [⟨(some 3), none, .mov (.t 0)⟩,
  ⟨(some 4), none, .bin .geq (.t 3) (.c (.int .u8 97))⟩,
  ⟨(some 5), none, .mov (.t 4)⟩,
  ⟨(some 6), (some (5, true)), .mov (.t 0)⟩,
  ⟨(some 7), (some (5, true)), .bin .leq (.t 6) (.c (.int .u8 122))⟩,
  ⟨(some 8), none, .pick (.t 5) (.t 7) (.c (.bool false))⟩,
  ⟨(some 9), none, .mov (.t 8)⟩,
  ⟨(some 10), (some (9, false)), .mov (.t 0)⟩,
  ⟨(some 11), (some (9, false)), .bin .eql (.t 10) (.c (.int .u8 95))⟩,
  ⟨(some 12), none, .pick (.t 9) (.c (.bool true)) (.t 11)⟩,
  ⟨(some 2), none, .mov (.t 12)⟩])
 .ret)),
  [.t 2], false, true, 13⟩
theorem co29 : compF Tryd.prog ⟨[], [], [], [], [], [], 29, [], [], []⟩ false true Tryd.f29 = some ac29 := by kernel_rfl

/-- paideia/lexer.isGreat -/
def ac30 : AF := ⟨(.seq (.reg [⟨(some 2), none, .mov (.c (.bool false))⟩])
 (.seq (.reg [⟨(some 3), none, .mov (.t 0)⟩,
  ⟨(some 4), none, .bin .geq (.t 3) (.c (.int .u8 65))⟩,
  ⟨(some 5), none, .mov (.t 4)⟩,
  ⟨(some 6), (some (5, true)), .mov (.t 0)⟩,
  ⟨(some 7), (some (5, true)), .bin .leq (.t 6) (.c (.int .u8 90))⟩,
  ⟨(some 8), none, .pick (.t 5) (.t 7) (.c (.bool false))⟩,
  ⟨(some 2), none, .mov (.t 8)⟩])
 .ret)),
  [.t 2], false, true, 9⟩
theorem co30 : compF Tryd.prog ⟨[], [], [], [], [], [], 30, [], [], []⟩ false true Tryd.f30 = some ac30 := by kernel_rfl

/-- paideia/lexer.All$1 -/
def ac34 : AF := ⟨(.seq (.seq (.reg [⟨(some 7), none, .load none (.t 1)⟩,
  ⟨(some 8), none, .len 1 (.t 7)⟩,
  ⟨(some 9), none, .bin .gtr (.t 8) (.c (.int .i64 20000))⟩])
 (.cond (.t 9) (.seq (.reg [⟨(some 10), none, .mov (.t 0)⟩,
  ⟨(some 11), none, .build [(.int .i64 0), (.int .i64 0), (.str []), (.int .i64 0)] []⟩,
  ⟨(some 12), none, .gload 0⟩,
  ⟨(some 13), none, .build [(.int .i64 0), .nili] [(0, 1, (.c (.int .i64 20000))), (1, 1, (.t 12))]⟩,
  ⟨(some 14), none, .box (.t 13) 2 true⟩,
  ⟨(some 15), none, .mkif 59 (.t 14)⟩,
  ⟨(some 16), none, .call 0 [] (.t 10) [(.t 11), (.t 15)]⟩])
 .ret)
 .skip))
 (.seq (.reg [⟨(some 3), none, .mov (.c (.int .i64 0))⟩])
 (.block 0 (.loop [0, 1, 3] [] (.seq (.seq (.reg [⟨(some 17), none, .mov (.t 3)⟩,
  ⟨(some 18), none, .load none (.t 1)⟩,
  ⟨(some 19), none, .len 1 (.t 18)⟩,
  ⟨(some 20), none, .bin .lss (.t 17) (.t 19)⟩])
 (.cond (.t 20) .skip
 (.exit 0)))
 (.block 1 (.seq (.seq (.reg [⟨(some 21), none, .load none (.t 1)⟩,
  ⟨(some 22), none, .mov (.t 3)⟩,
  ⟨(some 23), none, .slice 1 (.t 21) (some (.t 22)) none none⟩,
  ⟨(some 24), none, .call 0 [] (.c (.fn 35 [])) [(.t 23)]⟩,
  ⟨(some 4), none, .mov (.t 24)⟩])
 (.seq (.reg [⟨(some 25), none, .mov (.t 4)⟩,
  ⟨(some 26), none, .bin .gtr (.t 25) (.c (.int .i64 0))⟩])
 (.cond (.t 26) (.seq (.reg [⟨(some 27), none, .mov (.t 3)⟩,
  ⟨(some 28), none, .mov (.t 4)⟩,
  ⟨(some 29), none, .bin .add (.t 27) (.t 28)⟩,
  ⟨(some 3), none, .mov (.t 29)⟩])
 (.exit 1))
 .skip)))
 (.seq (.reg [⟨(some 31), none, .load none (.t 1)⟩,
  ⟨(some 32), none, .mov (.t 3)⟩,
  ⟨(some 33), none, .slice 1 (.t 31) (some (.t 32)) none none⟩,
  ⟨(some 34), none, .call 0 [] (.c (.fn 36 [])) [(.t 33)]⟩,
  ⟨(some 30), none, .mov (.t 34)⟩,
  ⟨(some 35), none, .extract (.t 30) 0⟩,
  ⟨(some 36), none, .extract (.t 30) 1⟩,
  ⟨(some 5), none, .alloc [(.int .i64 0), (.int .i64 0), (.str []), (.int .i64 0)] false⟩,
  ⟨none, none, .store 4 (.t 5) (.t 35)⟩,
  ⟨(some 6), none, .mov (.t 36)⟩])
 (.seq (.seq (.reg [⟨(some 37), none, .mov (.t 6)⟩,
  ⟨(some 38), none, .not (.t 37)⟩])
 (.cond (.t 38) (.seq (.reg [⟨(some 39), none, .mov (.t 0)⟩,
  ⟨(some 40), none, .build [(.int .i64 0), (.int .i64 0), (.str []), (.int .i64 0)] []⟩,
  ⟨(some 41), none, .mov (.t 3)⟩,
  ⟨(some 42), none, .gload 1⟩,
  ⟨(some 43), none, .build [(.int .i64 0), .nili] [(0, 1, (.t 41)), (1, 1, (.t 42))]⟩,
  ⟨(some 44), none, .box (.t 43) 2 true⟩,
  ⟨(some 45), none, .mkif 59 (.t 44)⟩,
  ⟨(some 46), none, .call 0 [] (.t 39) [(.t 40), (.t 45)]⟩])
 .ret)
 .skip))
 (.seq (.reg [⟨(some 47), none, .mov (.t 3)⟩,
  ⟨(some 48), none, .faddr 1 (.t 5)⟩,
  ⟨none, none, .store 1 (.t 48) (.t 47)⟩])
 (.seq (.seq (.reg [⟨(some 49), none, .mov (.t 0)⟩,
  ⟨(some 50), none, .load (some 4) (.t 5)⟩,
  ⟨(some 51), none, .call 0 [] (.t 49) [(.t 50), (.c .nili)]⟩,
  ⟨(some 52), none, .not (.t 51)⟩])
 (.cond (.t 52) .ret
 .skip))
 (.reg [⟨(some 53), none, .mov (.t 3)⟩,
  ⟨(some 54), none, .faddr 2 (.t 5)⟩,
  ⟨(some 55), none, .load none (.t 54)⟩,
  ⟨(some 56), none, .len 0 (.t 55)⟩,
  ⟨(some 57), none, .bin .add (.t 53) (.t 56)⟩,
  ⟨(some 3), none, .mov (.t 57)⟩])))))))))))),
  [], false, false, 58⟩
theorem co34 : compF Tryd.prog ⟨[14, 44], [(3, [0, 1, 3], [])], [], [0, 1], [], [], 34, [], [], []⟩ false false Tryd.f34 = some ac34 := by kernel_rfl

/-- paideia/lexer.blank -/
def ac35 : AF := ⟨(.seq (.reg [⟨(some 2), none, .mov (.c (.int .i64 0))⟩])
 (.seq (.block 0 (.seq (.reg [⟨(some 4), none, .mov (.t 0)⟩,
  ⟨(some 5), none, .iaddr 1 (.t 4) (.c (.int .i64 0))⟩,
  ⟨(some 6), none, .load none (.t 5)⟩,
  ⟨(some 7), none, .bin .eql (.t 6) (.c (.int .u8 32))⟩,
  ⟨(some 8), none, .mov (.t 7)⟩,
  ⟨(some 9), (some (8, false)), .mov (.t 0)⟩,
  ⟨(some 10), (some (8, false)), .iaddr 1 (.t 9) (.c (.int .i64 0))⟩,
  ⟨(some 11), (some (8, false)), .load none (.t 10)⟩,
  ⟨(some 12), (some (8, false)), .bin .eql (.t 11) (.c (.int .u8 9))⟩,
  ⟨(some 13), none, .pick (.t 8) (.c (.bool true)) (.t 12)⟩,
  ⟨(some 14), none, .mov (.t 13)⟩,
  ⟨(some 15), (some (14, false)), .mov (.t 0)⟩,
  ⟨(some 16), (some (14, false)), .iaddr 1 (.t 15) (.c (.int .i64 0))⟩,
  ⟨(some 17), (some (14, false)), .load none (.t 16)⟩,
  ⟨(some 18), (some (14, false)), .bin .eql (.t 17) (.c (.int .u8 10))⟩,
  ⟨(some 19), none, .pick (.t 14) (.c (.bool true)) (.t 18)⟩,
  ⟨(some 20), none, .mov (.t 19)⟩,
  ⟨(some 21), (some (20, false)), .mov (.t 0)⟩,
  ⟨(some 22), (some (20, false)), .iaddr 1 (.t 21) (.c (.int .i64 0))⟩,
  ⟨(some 23), (some (20, false)), .load none (.t 22)⟩,
  ⟨(some 24), (some (20, false)), .bin .eql (.t 23) (.c (.int .u8 13))⟩,
  ⟨(some 25), none, .pick (.t 20) (.c (.bool true)) (.t 24)⟩,
  ⟨(some 3), none, .mov (.t 25)⟩])
 (.cond (.t 3) (.seq (.reg [⟨(some 2), none, .mov (.c (.int .i64 1))⟩])
 .ret)
 (.seq (.reg [⟨(some 27), none, .mov (.t 0)⟩,
  ⟨(some 28), none, .len 1 (.t 27)⟩,
  ⟨(some 29), none, .bin .gtr (.t 28) (.c (.int .i64 1))⟩,
  ⟨(some 30), none, .mov (.t 29)⟩,
  ⟨(some 31), (some (30, true)), .mov (.t 0)⟩,
  ⟨(some 32), (some (30, true)), .iaddr 1 (.t 31) (.c (.int .i64 0))⟩,
  ⟨(some 33), (some (30, true)), .load none (.t 32)⟩,
  ⟨(some 34), (some (30, true)), .bin .eql (.t 33) (.c (.int .u8 45))⟩,
  ⟨(some 35), none, .pick (.t 30) (.t 34) (.c (.bool false))⟩,
  ⟨(some 36), none, .mov (.t 35)⟩,
  ⟨(some 37), (some (36, true)), .mov (.t 0)⟩,
  ⟨(some 38), (some (36, true)), .iaddr 1 (.t 37) (.c (.int .i64 1))⟩,
  ⟨(some 39), (some (36, true)), .load none (.t 38)⟩,
  ⟨(some 40), (some (36, true)), .bin .eql (.t 39) (.c (.int .u8 45))⟩,
  ⟨(some 41), none, .pick (.t 36) (.t 40) (.c (.bool false))⟩,
  ⟨(some 26), none, .mov (.t 41)⟩])
 (.cond (.t 26) (.seq (.reg [⟨(some 42), none, .mov (.t 0)⟩,
  ⟨(some 43), none, .call 0 [] (.c (.fn 51 [])) [(.t 42), (.c (.fn 52 []))]⟩,
  ⟨(some 2), none, .mov (.t 43)⟩])
 .ret)
 .skip)))))
 (.seq (.reg [⟨(some 2), none, .mov (.c (.int .i64 0))⟩])
 .ret))),
  [.t 2], false, true, 44⟩
theorem co35 : compF Tryd.prog ⟨[], [], [], [], [], [], 35, [], [], []⟩ false true Tryd.f35 = some ac35 := by kernel_rfl

/-- paideia/lexer.word -/
def ac36 : AF := ⟨(.seq (.reg [⟨(some 2), none, .alloc [(.int .i64 0), (.int .i64 0), (.str []), (.int .i64 0)] false⟩,
  ⟨(some 3), none, .mov (.c (.bool false))⟩])
 (.seq (.seq (.reg [⟨(some 5), none, .mov (.t 0)⟩,
  ⟨(some 6), none, .iaddr 1 (.t 5) (.c (.int .i64 0))⟩,
  ⟨(some 7), none, .load none (.t 6)⟩,
  ⟨(some 4), none, .mov (.t 7)⟩])
 (.block 0 (.seq (.reg [⟨(some 9), none, .mov (.t 4)⟩,
  ⟨(some 10), none, .call 0 [] (.c (.fn 29 [])) [(.t 9)]⟩,
  ⟨(some 11), none, .mov (.t 10)⟩,
  ⟨(some 12), (some (11, false)), .mov (.t 4)⟩,
  ⟨(some 13), (some (11, false)), .call 0 [] (.c (.fn 30 [])) [(.t 12)]⟩,
  ⟨(some 14), none, .pick (.t 11) (.c (.bool true)) (.t 13)⟩,
  ⟨(some 8), none, .mov (.t 14)⟩])
 (.cond (.t 8) (.seq (.reg [⟨(some 15), none, .mov (.t 0)⟩,
  ⟨(some 16), none, .call 0 [] (.c (.fn 53 [])) [(.t 15)]⟩,
  ⟨(some 17), none, .extract (.t 16) 0⟩,
  ⟨(some 18), none, .extract (.t 16) 1⟩,
  ⟨none, none, .store 4 (.t 2) (.t 17)⟩,
  ⟨(some 3), none, .mov (.t 18)⟩])
 .ret)
 (.seq (.reg [⟨(some 20), none, .mov (.t 4)⟩,
  ⟨(some 21), none, .call 0 [] (.c (.fn 54 [])) [(.t 20)]⟩,
  ⟨(some 19), none, .mov (.t 21)⟩])
 (.cond (.t 19) (.seq (.reg [⟨(some 22), none, .mov (.t 0)⟩,
  ⟨(some 23), none, .call 0 [] (.c (.fn 55 [])) [(.t 22)]⟩,
  ⟨(some 24), none, .extract (.t 23) 0⟩,
  ⟨(some 25), none, .extract (.t 23) 1⟩,
  ⟨none, none, .store 4 (.t 2) (.t 24)⟩,
  ⟨(some 3), none, .mov (.t 25)⟩])
 .ret)
 (.seq (.reg [⟨(some 27), none, .mov (.t 4)⟩,
  ⟨(some 28), none, .bin .eql (.t 27) (.c (.int .u8 39))⟩,
  ⟨(some 26), none, .mov (.t 28)⟩])
 (.cond (.t 26) (.seq (.reg [⟨(some 29), none, .mov (.t 0)⟩,
  ⟨(some 30), none, .call 0 [] (.c (.fn 56 [])) [(.t 29)]⟩,
  ⟨(some 31), none, .extract (.t 30) 0⟩,
  ⟨(some 32), none, .extract (.t 30) 1⟩,
  ⟨none, none, .store 4 (.t 2) (.t 31)⟩,
  ⟨(some 3), none, .mov (.t 32)⟩])
 .ret)
 .skip))))))))
 (.seq (.reg [⟨(some 33), none, .mov (.t 0)⟩,
  ⟨(some 34), none, .call 0 [] (.c (.fn 57 [])) [(.t 33)]⟩,
  ⟨(some 35), none, .extract (.t 34) 0⟩,
  ⟨(some 36), none, .extract (.t 34) 1⟩,
  ⟨none, none, .store 4 (.t 2) (.t 35)⟩,
  ⟨(some 3), none, .mov (.t 36)⟩])
 .ret))),
  [.cell 2 (some 4), .t 3], false, true, 37⟩
theorem co36 : compF Tryd.prog ⟨[], [], [], [], [], [], 36, [], [], []⟩ false true Tryd.f36 = some ac36 := by kernel_rfl

/-- paideia/paideiaref.Bare -/
def ac37 : AF := ⟨(.seq (.reg [⟨(some 2), none, .alloc [(.int .i64 0), (.bool false), (.int .i64 0)] false⟩])
 (.seq (.reg [⟨(some 3), none, .mov (.t 0)⟩,
  ⟨(some 4), none, .build [(.int .i64 0), (.bool false), (.int .i64 0)] [(0, 1, (.t 3))]⟩,
  ⟨none, none, .store 3 (.t 2) (.t 4)⟩])
 .ret)),
  [.cell 2 (some 3)], false, true, 5⟩
theorem co37 : compF Tryd.prog ⟨[], [], [], [], [], [], 37, [], [], []⟩ false true Tryd.f37 = some ac37 := by kernel_rfl

/-- paideia/paideiasee.sentinel -/
def ac38 : AF := ⟨(.seq (.reg [⟨(some 2), none, .mov (.c (.int .i64 0))⟩])
 (.seq (.reg [⟨(some 5), none, .call 0 [] (.c (.fn 58 [])) []⟩,
  ⟨(some 3), none, .mov (.t 5)⟩])
 (.seq (.seq (.reg [⟨(some 4), none, .mov (.c (.int .i64 0))⟩])
 (.block 0 (.loop [0, 3, 4] [] (.seq (.seq (.reg [⟨(some 6), none, .mov (.t 4)⟩,
  ⟨(some 7), none, .mov (.t 3)⟩,
  ⟨(some 8), none, .len 1 (.t 7)⟩,
  ⟨(some 9), none, .bin .lss (.t 6) (.t 8)⟩])
 (.cond (.t 9) .skip
 (.exit 0)))
 (.seq (.block 1 (.seq (.reg [⟨(some 12), none, .mov (.t 0)⟩,
  ⟨(some 13), none, .mov (.t 3)⟩,
  ⟨(some 14), none, .mov (.t 4)⟩,
  ⟨(some 15), none, .iaddr 1 (.t 13) (.t 14)⟩,
  ⟨(some 16), none, .load none (.t 15)⟩,
  ⟨(some 17), none, .call 0 [] (.c (.fn 59 [])) [(.t 12), (.t 16)]⟩])
 (.cond (.t 17) (.seq (.reg [⟨(some 18), none, .mov (.t 4)⟩,
  ⟨(some 19), none, .bin .add (.c (.int .i64 101)) (.t 18)⟩,
  ⟨(some 2), none, .mov (.t 19)⟩])
 .ret)
 .skip)))
 (.reg [⟨(some 10), none, .mov (.t 4)⟩,
  ⟨(some 11), none, .bin .add (.t 10) (.c (.int .i64 1))⟩,
  ⟨(some 4), none, .mov (.t 11)⟩]))))))
 (.seq (.reg [⟨(some 2), none, .mov (.c (.int .i64 (-1)))⟩])
 .ret)))),
  [.t 2], false, true, 20⟩
theorem co38 : compF Tryd.prog ⟨[], [(3, [0, 3, 4], [])], [], [], [], [], 38, [], [], []⟩ false true Tryd.f38 = some ac38 := by kernel_rfl

/-- paideia/lexer.goesOn -/
def ac46 : AF := ⟨(.seq (.reg [⟨(some 2), none, .mov (.c (.bool false))⟩])
 (.seq (.reg [⟨(some 3), none, .mov (.t 0)⟩,
  ⟨(some 4), none, .call 0 [] (.c (.fn 29 [])) [(.t 3)]⟩,
  ⟨(some 5), none, .mov (.t 4)⟩,
  ⟨(some 6), (some (5, false)), .mov (.t 0)⟩,
  ⟨(some 7), (some (5, false)), .call 0 [] (.c (.fn 30 [])) [(.t 6)]⟩,
  ⟨(some 8), none, .pick (.t 5) (.c (.bool true)) (.t 7)⟩,
  ⟨(some 9), none, .mov (.t 8)⟩,
  ⟨(some 10), (some (9, false)), .mov (.t 0)⟩,
  ⟨(some 11), (some (9, false)), .call 0 [] (.c (.fn 54 [])) [(.t 10)]⟩,
  ⟨(some 12), none, .pick (.t 9) (.c (.bool true)) (.t 11)⟩,
  ⟨(some 13), none, .mov (.t 12)⟩,
  ⟨(some 14), (some (13, false)), .mov (.t 0)⟩,
  ⟨(some 15), (some (13, false)), .bin .eql (.t 14) (.c (.int .u8 39))⟩,
  ⟨(some 16), none, .pick (.t 13) (.c (.bool true)) (.t 15)⟩,
  ⟨(some 2), none, .mov (.t 16)⟩])
 .ret)),
  [.t 2], false, true, 17⟩
theorem co46 : compF Tryd.prog ⟨[], [], [], [], [], [], 46, [], [], []⟩ false true Tryd.f46 = some ac46 := by kernel_rfl

/-- paideia/lexer.while -/
def ac51 : AF := ⟨(.seq (.reg [⟨(some 4), none, .mov (.c (.int .i64 0))⟩])
 (.seq (.reg [⟨(some 5), none, .mov (.c (.int .i64 0))⟩])
 (.seq (.block 0 (.loop [0, 1, 5] [] (.seq (.seq (.reg [⟨(some 6), none, .mov (.t 5)⟩,
  ⟨(some 7), none, .mov (.t 0)⟩,
  ⟨(some 8), none, .len 1 (.t 7)⟩,
  ⟨(some 9), none, .bin .lss (.t 6) (.t 8)⟩,
  ⟨(some 10), none, .mov (.t 9)⟩,
  ⟨(some 11), (some (10, true)), .mov (.t 1)⟩,
  ⟨(some 12), (some (10, true)), .mov (.t 0)⟩,
  ⟨(some 13), (some (10, true)), .mov (.t 5)⟩,
  ⟨(some 14), (some (10, true)), .iaddr 1 (.t 12) (.t 13)⟩,
  ⟨(some 15), (some (10, true)), .load none (.t 14)⟩,
  ⟨(some 16), (some (10, true)), .call 0 [] (.t 11) [(.t 15)]⟩,
  ⟨(some 17), none, .pick (.t 10) (.t 16) (.c (.bool false))⟩])
 (.cond (.t 17) .skip
 (.exit 0)))
 (.block 1 (.reg [⟨(some 18), none, .mov (.t 5)⟩,
  ⟨(some 19), none, .bin .add (.t 18) (.c (.int .i64 1))⟩,
  ⟨(some 5), none, .mov (.t 19)⟩])))))
 (.seq (.reg [⟨(some 20), none, .mov (.t 5)⟩,
  ⟨(some 4), none, .mov (.t 20)⟩])
 .ret)))),
  [.t 4], false, true, 21⟩
theorem co51 : compF Tryd.prog ⟨[], [(2, [0, 1, 5], [])], [], [], [], [], 51, [], [], []⟩ false true Tryd.f51 = some ac51 := by kernel_rfl

/-- paideia/lexer.blank$1 -/
def ac52 : AF := ⟨(.seq (.reg [⟨(some 2), none, .mov (.c (.bool false))⟩])
 (.seq (.reg [⟨(some 3), none, .mov (.t 0)⟩,
  ⟨(some 4), none, .bin .neq (.t 3) (.c (.int .u8 10))⟩,
  ⟨(some 2), none, .mov (.t 4)⟩])
 .ret)),
  [.t 2], false, true, 5⟩
theorem co52 : compF Tryd.prog ⟨[], [], [], [], [], [], 52, [], [], []⟩ false true Tryd.f52 = some ac52 := by kernel_rfl

/-- paideia/lexer.name -/
def ac53 : AF := ⟨(.seq (.reg [⟨(some 2), none, .alloc [(.int .i64 0), (.int .i64 0), (.str []), (.int .i64 0)] false⟩,
  ⟨(some 3), none, .mov (.c (.bool false))⟩])
 (.seq (.reg [⟨(some 5), none, .mov (.t 0)⟩,
  ⟨(some 6), none, .mov (.t 0)⟩,
  ⟨(some 7), none, .call 0 [] (.c (.fn 51 [])) [(.t 6), (.c (.fn 46 []))]⟩,
  ⟨(some 8), none, .slice 1 (.t 5) none (some (.t 7)) none⟩,
  ⟨(some 9), none, .textE (.t 8)⟩,
  ⟨(some 4), none, .mov (.t 9)⟩])
 (.seq (.block 0 (.seq (.reg [⟨(some 11), none, .mov (.t 4)⟩,
  ⟨(some 12), none, .bin .eql (.t 11) (.c (.str [95]))⟩,
  ⟨(some 13), none, .mov (.t 12)⟩,
  ⟨(some 14), (some (13, false)), .mov (.t 4)⟩,
  ⟨(some 15), (some (13, false)), .call 0 [] (.c (.fn 16 [])) [(.t 14)]⟩,
  ⟨(some 16), none, .pick (.t 13) (.c (.bool true)) (.t 15)⟩,
  ⟨(some 10), none, .mov (.t 16)⟩])
 (.cond (.t 10) (.seq (.reg [⟨(some 17), none, .mov (.t 4)⟩,
  ⟨(some 18), none, .build [(.int .i64 0), (.int .i64 0), (.str []), (.int .i64 0)] [(0, 1, (.c (.int .i64 6))), (2, 1, (.t 17))]⟩,
  ⟨none, none, .store 4 (.t 2) (.t 18)⟩,
  ⟨(some 3), none, .mov (.c (.bool true))⟩])
 .ret)
 (.seq (.reg [⟨(some 20), none, .mov (.t 4)⟩,
  ⟨(some 21), none, .call 0 [] (.c (.fn 14 [])) [(.t 20)]⟩,
  ⟨(some 19), none, .mov (.t 21)⟩])
 (.cond (.t 19) (.seq (.reg [⟨(some 22), none, .mov (.t 4)⟩,
  ⟨(some 23), none, .build [(.int .i64 0), (.int .i64 0), (.str []), (.int .i64 0)] [(0, 1, (.c (.int .i64 1))), (2, 1, (.t 22))]⟩,
  ⟨none, none, .store 4 (.t 2) (.t 23)⟩,
  ⟨(some 3), none, .mov (.c (.bool true))⟩])
 .ret)
 (.seq (.reg [⟨(some 25), none, .mov (.t 4)⟩,
  ⟨(some 26), none, .call 0 [] (.c (.fn 15 [])) [(.t 25)]⟩,
  ⟨(some 24), none, .mov (.t 26)⟩])
 (.cond (.t 24) (.seq (.reg [⟨(some 27), none, .mov (.t 4)⟩,
  ⟨(some 28), none, .build [(.int .i64 0), (.int .i64 0), (.str []), (.int .i64 0)] [(0, 1, (.c (.int .i64 2))), (2, 1, (.t 27))]⟩,
  ⟨none, none, .store 4 (.t 2) (.t 28)⟩,
  ⟨(some 3), none, .mov (.c (.bool true))⟩])
 .ret)
 .skip)))))))
 (.seq (.reg [⟨(some 29), none, .build [(.int .i64 0), (.int .i64 0), (.str []), (.int .i64 0)] []⟩,
  ⟨none, none, .store 4 (.t 2) (.t 29)⟩,
  ⟨(some 3), none, .mov (.c (.bool false))⟩])
 .ret)))),
  [.cell 2 (some 4), .t 3], false, true, 30⟩
theorem co53 : compF Tryd.prog ⟨[], [], [], [], [], [1000009], 53, [], [], []⟩ false true Tryd.f53 = some ac53 := by kernel_rfl

/-- paideia/lexer.isDigit -/
def ac54 : AF := ⟨(.seq (.reg [⟨(some 2), none, .mov (.c (.bool false))⟩])
 (.seq (.reg [⟨(some 3), none, .mov (.t 0)⟩,
  ⟨(some 4), none, .bin .geq (.t 3) (.c (.int .u8 48))⟩,
  ⟨(some 5), none, .mov (.t 4)⟩,
  ⟨(some 6), (some (5, true)), .mov (.t 0)⟩,
  ⟨(some 7), (some (5, true)), .bin .leq (.t 6) (.c (.int .u8 57))⟩,
  ⟨(some 8), none, .pick (.t 5) (.t 7) (.c (.bool false))⟩,
  ⟨(some 2), none, .mov (.t 8)⟩])
 .ret)),
  [.t 2], false, true, 9⟩
theorem co54 : compF Tryd.prog ⟨[], [], [], [], [], [], 54, [], [], []⟩ false true Tryd.f54 = some ac54 := by kernel_rfl

/-- paideia/lexer.number -/
def ac55 : AF := ⟨(.seq (.reg [⟨(some 2), none, .alloc [(.int .i64 0), (.int .i64 0), (.str []), (.int .i64 0)] false⟩,
  ⟨(some 3), none, .mov (.c (.bool false))⟩])
 (.seq (.reg [⟨(some 7), none, .mov (.t 0)⟩,
  ⟨(some 8), none, .mov (.t 0)⟩,
  ⟨(some 9), none, .call 0 [] (.c (.fn 51 [])) [(.t 8), (.c (.fn 54 []))]⟩,
  ⟨(some 10), none, .slice 1 (.t 7) none (some (.t 9)) none⟩,
  ⟨(some 11), none, .conv .text (.t 10)⟩,
  ⟨(some 4), none, .mov (.t 11)⟩])
 (.seq (.seq (.reg [⟨(some 12), none, .mov (.t 4)⟩,
  ⟨(some 13), none, .len 0 (.t 12)⟩,
  ⟨(some 14), none, .bin .gtr (.t 13) (.c (.int .i64 15))⟩])
 (.cond (.t 14) (.seq (.reg [⟨(some 15), none, .build [(.int .i64 0), (.int .i64 0), (.str []), (.int .i64 0)] []⟩,
  ⟨none, none, .store 4 (.t 2) (.t 15)⟩,
  ⟨(some 3), none, .mov (.c (.bool false))⟩])
 .ret)
 .skip))
 (.seq (.reg [⟨(some 17), none, .mov (.t 4)⟩,
  ⟨(some 18), none, .call 0 [] (.c (.fn 64 [])) [(.t 17), (.c (.int .i64 10)), (.c (.int .i64 64))]⟩,
  ⟨(some 16), none, .mov (.t 18)⟩,
  ⟨(some 19), none, .extract (.t 16) 0⟩,
  ⟨(some 20), none, .extract (.t 16) 1⟩,
  ⟨(some 5), none, .mov (.t 19)⟩,
  ⟨(some 6), none, .mov (.t 20)⟩])
 (.seq (.reg [⟨(some 21), none, .mov (.t 4)⟩,
  ⟨(some 22), none, .mov (.t 5)⟩,
  ⟨(some 23), none, .build [(.int .i64 0), (.int .i64 0), (.str []), (.int .i64 0)] [(0, 1, (.c (.int .i64 3))), (2, 1, (.t 21)), (3, 1, (.t 22))]⟩,
  ⟨(some 24), none, .mov (.t 6)⟩,
  ⟨(some 25), none, .eqnil .iface false (.t 24)⟩,
  ⟨none, none, .store 4 (.t 2) (.t 23)⟩,
  ⟨(some 3), none, .mov (.t 25)⟩])
 .ret))))),
  [.cell 2 (some 4), .t 3], false, true, 26⟩
theorem co55 : compF Tryd.prog ⟨[], [], [], [], [], [], 55, [], [], []⟩ false true Tryd.f55 = some ac55 := by kernel_rfl

/-- paideia/lexer.letter -/
def ac56 : AF := ⟨(.seq (.reg [⟨(some 2), none, .alloc [(.int .i64 0), (.int .i64 0), (.str []), (.int .i64 0)] false⟩,
  ⟨(some 3), none, .mov (.c (.bool false))⟩])
 (.seq (.seq (.reg [⟨(some 5), none, .mov (.t 0)⟩,
  ⟨(some 6), none, .len 1 (.t 5)⟩,
  ⟨(some 7), none, .bin .geq (.t 6) (.c (.int .i64 3))⟩,
  ⟨(some 8), none, .mov (.t 7)⟩,
  ⟨(some 9), (some (8, true)), .mov (.t 0)⟩,
  ⟨(some 10), (some (8, true)), .iaddr 1 (.t 9) (.c (.int .i64 1))⟩,
  ⟨(some 11), (some (8, true)), .load none (.t 10)⟩,
  ⟨(some 12), (some (8, true)), .call 0 [] (.c (.fn 65 [])) [(.t 11)]⟩,
  ⟨(some 13), none, .pick (.t 8) (.t 12) (.c (.bool false))⟩,
  ⟨(some 14), none, .mov (.t 13)⟩,
  ⟨(some 15), (some (14, true)), .mov (.t 0)⟩,
  ⟨(some 16), (some (14, true)), .iaddr 1 (.t 15) (.c (.int .i64 2))⟩,
  ⟨(some 17), (some (14, true)), .load none (.t 16)⟩,
  ⟨(some 18), (some (14, true)), .bin .eql (.t 17) (.c (.int .u8 39))⟩,
  ⟨(some 19), none, .pick (.t 14) (.t 18) (.c (.bool false))⟩])
 (.cond (.t 19) (.seq (.reg [⟨(some 20), none, .mov (.t 0)⟩,
  ⟨(some 21), none, .slice 1 (.t 20) none (some (.c (.int .i64 3))) none⟩,
  ⟨(some 22), none, .conv .text (.t 21)⟩,
  ⟨(some 23), none, .mov (.t 0)⟩,
  ⟨(some 24), none, .iaddr 1 (.t 23) (.c (.int .i64 1))⟩,
  ⟨(some 25), none, .load none (.t 24)⟩,
  ⟨(some 26), none, .conv (.int .i64) (.t 25)⟩,
  ⟨(some 27), none, .build [(.int .i64 0), (.int .i64 0), (.str []), (.int .i64 0)] [(0, 1, (.c (.int .i64 4))), (2, 1, (.t 22)), (3, 1, (.t 26))]⟩,
  ⟨none, none, .store 4 (.t 2) (.t 27)⟩,
  ⟨(some 3), none, .mov (.c (.bool true))⟩])
 .ret)
 .skip))
 (.seq (.seq (.reg [⟨(some 28), none, .mov (.t 0)⟩,
  ⟨(some 29), none, .len 1 (.t 28)⟩,
  ⟨(some 30), none, .bin .lss (.t 29) (.c (.int .i64 4))⟩,
  ⟨(some 31), none, .mov (.t 30)⟩,
  ⟨(some 32), (some (31, false)), .mov (.t 0)⟩,
  ⟨(some 33), (some (31, false)), .iaddr 1 (.t 32) (.c (.int .i64 1))⟩,
  ⟨(some 34), (some (31, false)), .load none (.t 33)⟩,
  ⟨(some 35), (some (31, false)), .bin .neq (.t 34) (.c (.int .u8 92))⟩,
  ⟨(some 36), none, .pick (.t 31) (.c (.bool true)) (.t 35)⟩,
  ⟨(some 37), none, .mov (.t 36)⟩,
  ⟨(some 38), (some (37, false)), .mov (.t 0)⟩,
  ⟨(some 39), (some (37, false)), .iaddr 1 (.t 38) (.c (.int .i64 3))⟩,
  ⟨(some 40), (some (37, false)), .load none (.t 39)⟩,
  ⟨(some 41), (some (37, false)), .bin .neq (.t 40) (.c (.int .u8 39))⟩,
  ⟨(some 42), none, .pick (.t 37) (.c (.bool true)) (.t 41)⟩])
 (.cond (.t 42) (.seq (.reg [⟨(some 43), none, .build [(.int .i64 0), (.int .i64 0), (.str []), (.int .i64 0)] []⟩,
  ⟨none, none, .store 4 (.t 2) (.t 43)⟩,
  ⟨(some 3), none, .mov (.c (.bool false))⟩])
 .ret)
 .skip))
 (.seq (.reg [⟨(some 44), none, .mov (.t 0)⟩,
  ⟨(some 45), none, .iaddr 1 (.t 44) (.c (.int .i64 2))⟩,
  ⟨(some 46), none, .load none (.t 45)⟩,
  ⟨(some 4), none, .mov (.t 46)⟩])
 (.seq (.seq (.reg [⟨(some 47), none, .mov (.t 4)⟩])
 (.block 0 (.seq (.reg [⟨(some 50), none, .bin .eql (.t 47) (.c (.int .u8 110))⟩,
  ⟨(some 49), none, .mov (.t 50)⟩])
 (.cond (.t 49) (.reg [⟨(some 4), none, .mov (.c (.int .u8 10))⟩])
 (.seq (.seq (.reg [⟨(some 52), none, .bin .eql (.t 47) (.c (.int .u8 39))⟩,
  ⟨(some 51), none, .mov (.t 52)⟩])
 (.cond (.t 51) .skip
 (.reg [⟨(some 53), none, .bin .eql (.t 47) (.c (.int .u8 92))⟩,
  ⟨(some 51), none, .mov (.t 53)⟩])))
 (.cond (.t 51) .skip
 (.seq (.reg [⟨(some 48), none, .build [(.int .i64 0), (.int .i64 0), (.str []), (.int .i64 0)] []⟩,
  ⟨none, none, .store 4 (.t 2) (.t 48)⟩,
  ⟨(some 3), none, .mov (.c (.bool false))⟩])
 .ret)))))))
 (.seq (.reg [⟨(some 54), none, .mov (.t 0)⟩,
  ⟨(some 55), none, .slice 1 (.t 54) none (some (.c (.int .i64 4))) none⟩,
  ⟨(some 56), none, .conv .text (.t 55)⟩,
  ⟨(some 57), none, .mov (.t 4)⟩,
  ⟨(some 58), none, .conv (.int .i64) (.t 57)⟩,
  ⟨(some 59), none, .build [(.int .i64 0), (.int .i64 0), (.str []), (.int .i64 0)] [(0, 1, (.c (.int .i64 4))), (2, 1, (.t 56)), (3, 1, (.t 58))]⟩,
  ⟨none, none, .store 4 (.t 2) (.t 59)⟩,
  ⟨(some 3), none, .mov (.c (.bool true))⟩])
 .ret)))))),
  [.cell 2 (some 4), .t 3], false, true, 60⟩
theorem co56 : compF Tryd.prog ⟨[], [], [], [], [], [], 56, [], [], []⟩ false true Tryd.f56 = some ac56 := by kernel_rfl

/-- paideia/lexer.sign -/
def ac57 : AF := ⟨(.seq (.reg [⟨(some 2), none, .alloc [(.int .i64 0), (.int .i64 0), (.str []), (.int .i64 0)] false⟩,
  ⟨(some 3), none, .mov (.c (.bool false))⟩])
 (.seq (.reg [⟨(some 4), none, .alloc [(.int .i64 0), (.int .i64 0), (.str []), (.int .i64 0)] false⟩])
 (.seq (.seq (.reg [⟨(some 9), none, .mkmap⟩,
  ⟨none, none, .mapset .int (.t 9) (.c (.int .i64 5)) (.c (.str [61, 61, 32, 47, 61, 32, 60, 61, 32, 62, 61, 32, 60, 32, 62, 32, 43, 32, 45, 32, 42]))⟩,
  ⟨none, none, .mapset .int (.t 9) (.c (.int .i64 6)) (.c (.str [45, 62, 32, 61, 62, 32, 58, 58, 32, 40, 32, 41, 32, 123, 32, 125, 32, 44, 32, 59, 32, 61, 32, 92, 32, 124]))⟩,
  ⟨(some 10), none, .mov (.t 9)⟩,
  ⟨(some 11), none, .range (.t 10)⟩])
 (.block 0 (.loop [0, 11] [2, 4] (.seq (.reg [⟨(some 12), none, .next (.t 11)⟩,
  ⟨(some 13), none, .extract (.t 12) 0⟩])
 (.seq (.cond (.t 13) .skip
 (.exit 0))
 (.block 1 (.seq (.reg [⟨(some 14), none, .entry (.t 11)⟩,
  ⟨(some 15), none, .extract (.t 14) 0⟩,
  ⟨(some 16), none, .extract (.t 14) 1⟩,
  ⟨(some 5), none, .mov (.t 15)⟩,
  ⟨(some 6), none, .mov (.t 16)⟩])
 (.seq (.reg [⟨(some 17), none, .mov (.t 6)⟩,
  ⟨(some 18), none, .call 0 [] (.c (.fn 42 [])) [(.t 17)]⟩,
  ⟨(some 19), none, .len 1 (.t 18)⟩,
  ⟨(some 20), none, .mov (.c (.int .i64 0))⟩])
 (.block 2 (.loop [0, 5, 11, 18, 19, 20] [2, 4] (.seq (.reg [⟨(some 21), none, .bin .lss (.t 20) (.t 19)⟩])
 (.seq (.cond (.t 21) .skip
 (.exit 2))
 (.seq (.block 3 (.seq (.reg [⟨(some 22), none, .iaddr 1 (.t 18) (.t 20)⟩,
  ⟨(some 23), none, .load none (.t 22)⟩,
  ⟨(some 8), none, .mov (.t 23)⟩])
 (.seq (.reg [⟨(some 24), none, .mov (.t 8)⟩,
  ⟨(some 25), none, .len 0 (.t 24)⟩,
  ⟨(some 26), none, .faddr 2 (.t 4)⟩,
  ⟨(some 27), none, .load none (.t 26)⟩,
  ⟨(some 28), none, .len 0 (.t 27)⟩,
  ⟨(some 29), none, .bin .gtr (.t 25) (.t 28)⟩,
  ⟨(some 30), none, .mov (.t 29)⟩,
  ⟨(some 31), (some (30, true)), .mov (.t 0)⟩,
  ⟨(some 32), (some (30, true)), .mov (.t 0)⟩,
  ⟨(some 33), (some (30, true)), .len 1 (.t 32)⟩,
  ⟨(some 34), (some (30, true)), .bmin (.t 33) (.c (.int .i64 2))⟩,
  ⟨(some 35), (some (30, true)), .slice 1 (.t 31) none (some (.t 34)) none⟩,
  ⟨(some 36), (some (30, true)), .conv .text (.t 35)⟩,
  ⟨(some 37), (some (30, true)), .mov (.t 8)⟩,
  ⟨(some 38), (some (30, true)), .call 0 [] (.c (.fn 66 [])) [(.t 36), (.t 37)]⟩,
  ⟨(some 39), none, .pick (.t 30) (.t 38) (.c (.bool false))⟩])
 (.cond (.t 39) (.reg [⟨(some 40), none, .mov (.t 5)⟩,
  ⟨(some 41), none, .mov (.t 8)⟩,
  ⟨(some 42), none, .build [(.int .i64 0), (.int .i64 0), (.str []), (.int .i64 0)] [(0, 1, (.t 40)), (2, 1, (.t 41))]⟩,
  ⟨none, none, .store 4 (.t 4) (.t 42)⟩])
 .skip))))
 (.reg [⟨(some 43), none, .bin .add (.t 20) (.c (.int .i64 1))⟩,
  ⟨(some 20), none, .mov (.t 43)⟩]))))))))))))))
 (.seq (.reg [⟨(some 44), none, .load (some 4) (.t 4)⟩,
  ⟨(some 45), none, .faddr 2 (.t 4)⟩,
  ⟨(some 46), none, .loadX true none (.t 45) [(.t 2)] [(.t 4)]⟩,
  ⟨(some 47), none, .bin .neq (.t 46) (.c (.str []))⟩,
  ⟨none, none, .storeX true 4 (.t 2) (.t 44) [(.t 4)] []⟩,
  ⟨(some 3), none, .mov (.t 47)⟩])
 .ret)))),
  [.cell 2 (some 4), .t 3], false, true, 48⟩
theorem co57 : compF Tryd.prog ⟨[], [(3, [0, 11], [2, 4]), (6, [0, 5, 11, 18, 19, 20], [2, 4])], [], [], [], [], 57, [], [], []⟩ false true Tryd.f57 = some ac57 := by kernel_rfl

/-- paideia/paideiasee.sentinels -/
def ac58 : AF := ⟨(.seq (.reg [⟨(some 0), none, .mov (.c (.sl .clip []))⟩])
 (.seq (.reg [⟨(some 1), none, .gload 1⟩,
  ⟨(some 2), none, .gload 3⟩,
  ⟨(some 3), none, .gload 4⟩,
  ⟨(some 4), none, .gload 5⟩,
  ⟨(some 5), none, .gload 6⟩,
  ⟨(some 6), none, .gload 7⟩,
  ⟨(some 7), none, .gload 8⟩,
  ⟨(some 8), none, .gload 9⟩,
  ⟨(some 9), none, .gload 10⟩,
  ⟨(some 10), none, .gload 11⟩,
  ⟨(some 11), none, .gload 0⟩,
  ⟨(some 12), none, .gload 12⟩,
  ⟨(some 13), none, .gload 13⟩,
  ⟨(some 14), none, .gload 14⟩,
  ⟨(some 15), none, .gload 15⟩,
  ⟨(some 16), none, .bslice [.nili] 15 [(0, (.t 1)), (1, (.t 2)), (2, (.t 3)), (3, (.t 4)), (4, (.t 5)), (5, (.t 6)), (6, (.t 7)), (7, (.t 8)), (8, (.t 9)), (9, (.t 10)), (10, (.t 11)), (11, (.t 12)), (12, (.t 13)), (13, (.t 14)), (14, (.t 15))]⟩,
  ⟨(some 0), none, .mov (.t 16)⟩])
 .ret)),
  [.t 0], false, true, 17⟩
theorem co58 : compF Tryd.prog ⟨[], [], [], [1, 3, 4, 5, 6, 7, 8, 9, 10, 11, 0, 12, 13, 14, 15], [], [], 58, [], [], []⟩ false true Tryd.f58 = some ac58 := by kernel_rfl

/-- paideia/paideiasee.Alike -/
def ac59 : AF := ⟨(.seq (.reg [⟨(some 4), none, .mov (.c (.bool false))⟩])
 (.seq (.seq (.reg [⟨(some 5), none, .mov (.t 0)⟩,
  ⟨(some 6), none, .eqnil .iface false (.t 5)⟩,
  ⟨(some 7), none, .mov (.t 6)⟩,
  ⟨(some 8), (some (7, false)), .mov (.t 1)⟩,
  ⟨(some 9), (some (7, false)), .eqnil .iface false (.t 8)⟩,
  ⟨(some 10), none, .pick (.t 7) (.c (.bool true)) (.t 9)⟩])
 (.cond (.t 10) (.seq (.reg [⟨(some 11), none, .mov (.t 0)⟩,
  ⟨(some 12), none, .eqnil .iface false (.t 11)⟩,
  ⟨(some 13), none, .mov (.t 12)⟩,
  ⟨(some 14), (some (13, true)), .mov (.t 1)⟩,
  ⟨(some 15), (some (13, true)), .eqnil .iface false (.t 14)⟩,
  ⟨(some 16), none, .pick (.t 13) (.t 15) (.c (.bool false))⟩,
  ⟨(some 4), none, .mov (.t 16)⟩])
 .ret)
 .skip))
 (.seq (.reg [⟨(some 17), none, .mov (.t 0)⟩,
  ⟨(some 18), none, .mov (.t 1)⟩,
  ⟨(some 19), none, .eqi [0, 1, 3, 4, 5, 6, 7, 8, 9, 10, 11, 12, 13, 14, 15] false (.t 17) (.t 18)⟩,
  ⟨(some 4), none, .mov (.t 19)⟩])
 .ret))),
  [.t 4], false, true, 20⟩
theorem co59 : compF Tryd.prog ⟨[], [], [], [0, 1, 3, 4, 5, 6, 7, 8, 9, 10, 11, 12, 13, 14, 15, 1000125, 3000002, 4000017], [], [], 59, [], [], []⟩ false true Tryd.f59 = some ac59 := by kernel_rfl

/-- paideia/lexer.Plain -/
def ac65 : AF := ⟨(.seq (.reg [⟨(some 2), none, .mov (.c (.bool false))⟩])
 (.seq (.reg [⟨(some 3), none, .mov (.t 0)⟩,
  ⟨(some 4), none, .bin .geq (.t 3) (.c (.int .u8 32))⟩,
  ⟨(some 5), none, .mov (.t 4)⟩,
  ⟨(some 6), (some (5, true)), .mov (.t 0)⟩,
  ⟨(some 7), (some (5, true)), .bin .leq (.t 6) (.c (.int .u8 126))⟩,
  ⟨(some 8), none, .pick (.t 5) (.t 7) (.c (.bool false))⟩,
  ⟨(some 9), none, .mov (.t 8)⟩,
  ⟨(some 10), (some (9, true)), .mov (.t 0)⟩,
  ⟨(some 11), (some (9, true)), .bin .neq (.t 10) (.c (.int .u8 39))⟩,
  ⟨(some 12), none, .pick (.t 9) (.t 11) (.c (.bool false))⟩,
  ⟨(some 13), none, .mov (.t 12)⟩,
  ⟨(some 14), (some (13, true)), .mov (.t 0)⟩,
  ⟨(some 15), (some (13, true)), .bin .neq (.t 14) (.c (.int .u8 92))⟩,
  ⟨(some 16), none, .pick (.t 13) (.t 15) (.c (.bool false))⟩,
  ⟨(some 2), none, .mov (.t 16)⟩])
 .ret)),
  [.t 2], false, true, 17⟩
theorem co65 : compF Tryd.prog ⟨[], [], [], [], [], [], 65, [], [], []⟩ false true Tryd.f65 = some ac65 := by kernel_rfl

/-- strings.HasPrefix -/
def ac66 : AF := ⟨(.seq (.reg [⟨(some 4), none, .mov (.c (.bool false))⟩])
 (.seq (.reg [⟨(some 5), none, .mov (.t 0)⟩,
  ⟨(some 6), none, .mov (.t 1)⟩,
  ⟨(some 7), none, .call 0 [] (.c (.fn 74 [])) [(.t 5), (.t 6)]⟩,
  ⟨(some 4), none, .mov (.t 7)⟩])
 .ret)),
  [.t 4], false, true, 8⟩
theorem co66 : compF Tryd.prog ⟨[], [], [], [], [], [], 66, [], [], []⟩ false true Tryd.f66 = some ac66 := by kernel_rfl

/-- internal/stringslite.HasPrefix -/
def ac74 : AF := ⟨(.seq (.reg [⟨(some 4), none, .mov (.c (.bool false))⟩])
 (.seq (.reg [⟨(some 5), none, .mov (.t 0)⟩,
  ⟨(some 6), none, .len 0 (.t 5)⟩,
  ⟨(some 7), none, .mov (.t 1)⟩,
  ⟨(some 8), none, .len 0 (.t 7)⟩,
  ⟨(some 9), none, .bin .geq (.t 6) (.t 8)⟩,
  ⟨(some 10), none, .mov (.t 9)⟩,
  ⟨(some 11), (some (10, true)), .mov (.t 0)⟩,
  ⟨(some 12), (some (10, true)), .mov (.t 1)⟩,
  ⟨(some 13), (some (10, true)), .len 0 (.t 12)⟩,
  ⟨(some 14), (some (10, true)), .slice 0 (.t 11) none (some (.t 13)) none⟩,
  ⟨(some 15), (some (10, true)), .mov (.t 1)⟩,
  ⟨(some 16), (some (10, true)), .bin .eql (.t 14) (.t 15)⟩,
  ⟨(some 17), none, .pick (.t 10) (.t 16) (.c (.bool false))⟩,
  ⟨(some 4), none, .mov (.t 17)⟩])
 .ret)),
  [.t 4], false, true, 18⟩
theorem co74 : compF Tryd.prog ⟨[], [], [], [], [], [], 74, [], [], []⟩ false true Tryd.f74 = some ac74 := by kernel_rfl


theorem prim42 : PrimOkG Tryd.prog [0,1,3,4,5,6,7,8,9,10,11,12,13,14,15,1000125,3000002,4000017] 42 fieldsP := fieldsP_ok (g := 2) (t := 9) Tryd.func42 (by kernel_rfl) (by kernel_rfl) (by kernel_rfl) (by simp) Tryd.strings_Fields
theorem prim31 : PrimOkG Tryd.prog [0,1,3,4,5,6,7,8,9,10,11,12,13,14,15,1000125,3000002,4000017] 31 contP := contP_ok (g := 17) Tryd.func31 (by kernel_rfl) (by kernel_rfl) (by simp) (fun s sub m w h1 h2 => Tryd.strings_Contains s sub m w h1 h2)
theorem prim64 : PrimOkG Tryd.prog [0,1,3,4,5,6,7,8,9,10,11,12,13,14,15,1000125,3000002,4000017] 64 parseP := parseP_ok (t := 5) Tryd.func64 (by kernel_rfl) (by kernel_rfl) (fun s h1 v h2 w => Tryd.strconv_ParseInt_10_at64_ok s h1 v h2 w)

def ap1 : AP := fun f vr => match f, vr with
  | 53, 0 => some (.code ac53)
  | 54, 0 => some (.code ac54)
  | 55, 0 => some (.code ac55)
  | 56, 0 => some (.code ac56)
  | 57, 0 => some (.code ac57)
  | 58, 0 => some (.code ac58)
  | 59, 0 => some (.code ac59)
  | 65, 0 => some (.code ac65)
  | 66, 0 => some (.code ac66)
  | 74, 0 => some (.code ac74)
  | 640, 77 => some (.body ab10_0)
  | 42, 0 => some (.prim fieldsP)
  | 31, 0 => some (.prim contP)
  | 64, 0 => some (.prim parseP)
  | _, _ => none

theorem table1 : TableOk Tryd.prog ap1 [0,1,3,4,5,6,7,8,9,10,11,12,13,14,15,1000125,3000002,4000017] := by
  intro f vr fd h
  unfold ap1 at h
  split at h
  · cases h; exact ⟨_, _, Tryd.func53, co53, by decide, rfl⟩
  · cases h; exact ⟨_, _, Tryd.func54, co54, by decide, rfl⟩
  · cases h; exact ⟨_, _, Tryd.func55, co55, by decide, rfl⟩
  · cases h; exact ⟨_, _, Tryd.func56, co56, by decide, rfl⟩
  · cases h; exact ⟨_, _, Tryd.func57, co57, by decide, rfl⟩
  · cases h; exact ⟨_, _, Tryd.func58, co58, by decide, rfl⟩
  · cases h; exact ⟨_, _, Tryd.func59, co59, by decide, rfl⟩
  · cases h; exact ⟨_, _, Tryd.func65, co65, by decide, rfl⟩
  · cases h; exact ⟨_, _, Tryd.func66, co66, by decide, rfl⟩
  · cases h; exact ⟨_, _, Tryd.func74, co74, by decide, rfl⟩
  · cases h; exact tab_body (key := 640) Tryd.func10 cb10_0 (by decide)
  · cases h; exact prim42
  · cases h; exact prim31
  · cases h; exact prim64
  · cases h

def ap0 : AP := fun f vr => match f, vr with
  | 5, 0 => some (.code ac5)
  | 6, 0 => some (.code ac6)
  | 9, 0 => some (.code ac9)
  | 10, 0 => some (.code ac10)
  | 11, 0 => some (.code ac11)
  | 12, 0 => some (.code ac12)
  | 13, 0 => some (.code ac13)
  | 14, 0 => some (.code ac14)
  | 15, 0 => some (.code ac15)
  | 16, 0 => some (.code ac16)
  | 19, 0 => some (.code ac19)
  | 20, 0 => some (.code ac20)
  | 21, 0 => some (.code ac21)
  | 22, 0 => some (.code ac22)
  | 28, 0 => some (.code ac28)
  | 29, 0 => some (.code ac29)
  | 30, 0 => some (.code ac30)
  | 34, 0 => some (.code ac34)
  | 35, 0 => some (.code ac35)
  | 36, 0 => some (.code ac36)
  | 37, 0 => some (.code ac37)
  | 38, 0 => some (.code ac38)
  | 46, 0 => some (.code ac46)
  | 51, 0 => some (.code ac51)
  | 52, 0 => some (.code ac52)
  | f, vr => ap1 f vr

theorem table0 : TableOk Tryd.prog ap0 [0,1,3,4,5,6,7,8,9,10,11,12,13,14,15,1000125,3000002,4000017] := by
  intro f vr fd h
  unfold ap0 at h
  split at h
  · cases h; exact ⟨_, _, Tryd.func5, co5, by decide, rfl⟩
  · cases h; exact ⟨_, _, Tryd.func6, co6, by decide, rfl⟩
  · cases h; exact ⟨_, _, Tryd.func9, co9, by decide, rfl⟩
  · cases h; exact ⟨_, _, Tryd.func10, co10, by decide, rfl⟩
  · cases h; exact ⟨_, _, Tryd.func11, co11, by decide, rfl⟩
  · cases h; exact ⟨_, _, Tryd.func12, co12, by decide, rfl⟩
  · cases h; exact ⟨_, _, Tryd.func13, co13, by decide, rfl⟩
  · cases h; exact ⟨_, _, Tryd.func14, co14, by decide, rfl⟩
  · cases h; exact ⟨_, _, Tryd.func15, co15, by decide, rfl⟩
  · cases h; exact ⟨_, _, Tryd.func16, co16, by decide, rfl⟩
  · cases h; exact ⟨_, _, Tryd.func19, co19, by decide, rfl⟩
  · cases h; exact ⟨_, _, Tryd.func20, co20, by decide, rfl⟩
  · cases h; exact ⟨_, _, Tryd.func21, co21, by decide, rfl⟩
  · cases h; exact ⟨_, _, Tryd.func22, co22, by decide, rfl⟩
  · cases h; exact ⟨_, _, Tryd.func28, co28, by decide, rfl⟩
  · cases h; exact ⟨_, _, Tryd.func29, co29, by decide, rfl⟩
  · cases h; exact ⟨_, _, Tryd.func30, co30, by decide, rfl⟩
  · cases h; exact ⟨_, _, Tryd.func34, co34, by decide, rfl⟩
  · cases h; exact ⟨_, _, Tryd.func35, co35, by decide, rfl⟩
  · cases h; exact ⟨_, _, Tryd.func36, co36, by decide, rfl⟩
  · cases h; exact ⟨_, _, Tryd.func37, co37, by decide, rfl⟩
  · cases h; exact ⟨_, _, Tryd.func38, co38, by decide, rfl⟩
  · cases h; exact ⟨_, _, Tryd.func46, co46, by decide, rfl⟩
  · cases h; exact ⟨_, _, Tryd.func51, co51, by decide, rfl⟩
  · cases h; exact ⟨_, _, Tryd.func52, co52, by decide, rfl⟩
  · exact table1 _ _ _ h

def ap : AP := ap0
theorem tableOk : TableOk Tryd.prog ap [0,1,3,4,5,6,7,8,9,10,11,12,13,14,15,1000125,3000002,4000017] := table0

end Go.Ut
