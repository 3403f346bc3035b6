/- The seat's functions on the abstract machine. -/
import Derived.Test.YtcnjiakndjgalaaGreatDoorAmX
import Derived.Test.YtcnjiakndjgalaaGreatDoorAmZ
import Derived.Test.YtcnjiakndjgalaaGreatDoorAmL
import Derived.Test.YtcnjiakndjgalaaGreatDoorAmQ
import Derived.Test.YtcnjiakndjgalaaGreatDoorAmU
import Derived.Test.YtcnjiakndjgalaaGreatDoorAmF
import Derived.Test.YtcnjiakndjgalaaGreatDoorAmK
import Derived.Test.YtcnjiakndjgalaaGreatDoorPtShelf
import Derived.Test.YtcnjiakndjgalaaGreatDoorProg
namespace Go.Qt
open Go.Am Go.Proofs

set_option maxRecDepth 100000
def cut5 : Nat := 3
def mid5 : AC := (.reg [⟨(some 15), none, .mov (.t 0)⟩,
  ⟨(some 16), none, .bin .rem (.t 15) (.c (.int .i64 30))⟩,
  ⟨(some 17), none, .bin .add (.t 16) (.c (.int .i64 30))⟩,
  ⟨(some 18), none, .bin .rem (.t 17) (.c (.int .i64 30))⟩,
  ⟨(some 0), none, .mov (.t 18)⟩])
def rest5 : AC := (.seq (.reg [⟨(some 4), none, .mov (.c (.sl .clip []))⟩])
 (.seq (.seq (.reg [⟨(some 5), none, .mov (.c (.int .i64 0))⟩])
 (.block 0 (.loop [0, 3, 4, 5] [] (.seq (.seq (.reg [⟨(some 19), none, .mov (.t 5)⟩,
  ⟨(some 20), none, .mov (.t 0)⟩,
  ⟨(some 21), none, .bin .lss (.t 19) (.t 20)⟩])
 (.cond (.t 21) .skip
 (.exit 0)))
 (.seq (.block 1 (.reg [⟨(some 24), none, .mov (.t 4)⟩,
  ⟨(some 25), none, .bslice [(.int .u8 0)] 1 [(0, (.c (.int .u8 32)))]⟩,
  ⟨(some 26), none, .append 1 (.t 24) (.t 25)⟩,
  ⟨(some 4), none, .mov (.t 26)⟩]))
 (.reg [⟨(some 22), none, .mov (.t 5)⟩,
  ⟨(some 23), none, .bin .add (.t 22) (.c (.int .i64 1))⟩,
  ⟨(some 5), none, .mov (.t 23)⟩]))))))
 (.seq (.reg [⟨(some 28), none, .bslice [(.int .u8 0)] 0 []⟩,
  ⟨(some 29), none, .mov (.t 4)⟩,
  ⟨(some 30), none, .append 1 (.t 28) (.t 29)⟩,
  ⟨(some 31), none, .append 1 (.t 30) (.c (.str [40, 102, 32, 120, 41, 32, 43, 32, 99, 97, 115, 101, 32, 121, 32, 111, 102, 32, 123, 32, 65, 32, 122, 32, 45, 62, 32, 119, 32, 125]))⟩,
  ⟨(some 32), none, .call 0 [] (.c (.fn 28 [])) [(.t 31)]⟩,
  ⟨(some 27), none, .mov (.t 32)⟩,
  ⟨(some 33), none, .extract (.t 27) 0⟩,
  ⟨(some 34), none, .extract (.t 27) 1⟩,
  ⟨(some 6), none, .alloc [(.int .i64 0), (.int .i64 0), (.str []), (.int .i64 0), (.sl .clip []), (.sl .clip []), (.sl .clip [])] false⟩,
  ⟨none, none, .store 7 (.t 6) (.t 33)⟩,
  ⟨(some 7), none, .mov (.t 34)⟩])
 (.seq (.seq (.reg [⟨(some 35), none, .mov (.t 7)⟩,
  ⟨(some 36), none, .eqnil .iface false (.t 35)⟩,
  ⟨(some 37), none, .mov (.t 36)⟩,
  ⟨(some 38), (some (37, false)), .faddr 0 (.t 6)⟩,
  ⟨(some 39), (some (37, false)), .load none (.t 38)⟩,
  ⟨(some 40), (some (37, false)), .bin .neq (.t 39) (.c (.int .i64 0))⟩,
  ⟨(some 41), none, .pick (.t 37) (.c (.bool true)) (.t 40)⟩])
 (.cond (.t 41) (.seq (.reg [⟨(some 2), none, .mov (.c (.bool false))⟩])
 .ret)
 .skip))
 (.seq (.reg [⟨(some 43), none, .bslice [(.int .u8 0)] 0 []⟩,
  ⟨(some 44), none, .mov (.t 4)⟩,
  ⟨(some 45), none, .append 1 (.t 43) (.t 44)⟩,
  ⟨(some 46), none, .append 1 (.t 45) (.c (.str [40, 102, 32, 120, 41, 32, 43, 32, 40, 99, 97, 115, 101, 32, 121, 32, 111, 102, 32, 123, 32, 65, 32, 122, 32, 45, 62, 32, 119, 32, 125, 41]))⟩,
  ⟨(some 47), none, .call 0 [] (.c (.fn 28 [])) [(.t 46)]⟩,
  ⟨(some 42), none, .mov (.t 47)⟩,
  ⟨(some 48), none, .extract (.t 42) 0⟩,
  ⟨(some 49), none, .extract (.t 42) 1⟩,
  ⟨none, none, .store 7 (.t 6) (.t 48)⟩,
  ⟨(some 7), none, .mov (.t 49)⟩])
 (.seq (.seq (.reg [⟨(some 50), none, .mov (.t 7)⟩,
  ⟨(some 51), none, .eqnil .iface true (.t 50)⟩,
  ⟨(some 52), none, .mov (.t 51)⟩,
  ⟨(some 53), (some (52, false)), .faddr 0 (.t 6)⟩,
  ⟨(some 54), (some (52, false)), .load none (.t 53)⟩,
  ⟨(some 55), (some (52, false)), .bin .neq (.t 54) (.c (.int .i64 5))⟩,
  ⟨(some 56), none, .pick (.t 52) (.c (.bool true)) (.t 55)⟩,
  ⟨(some 57), none, .mov (.t 56)⟩,
  ⟨(some 58), (some (57, false)), .faddr 1 (.t 6)⟩,
  ⟨(some 59), (some (57, false)), .load none (.t 58)⟩,
  ⟨(some 60), (some (57, false)), .mov (.t 0)⟩,
  ⟨(some 61), (some (57, false)), .bin .add (.t 60) (.c (.int .i64 6))⟩,
  ⟨(some 62), (some (57, false)), .bin .neq (.t 59) (.t 61)⟩,
  ⟨(some 63), none, .pick (.t 57) (.c (.bool true)) (.t 62)⟩,
  ⟨(some 64), none, .mov (.t 63)⟩,
  ⟨(some 65), (some (64, false)), .faddr 4 (.t 6)⟩,
  ⟨(some 66), (some (64, false)), .load none (.t 65)⟩,
  ⟨(some 67), (some (64, false)), .len 1 (.t 66)⟩,
  ⟨(some 68), (some (64, false)), .bin .neq (.t 67) (.c (.int .i64 2))⟩,
  ⟨(some 69), none, .pick (.t 64) (.c (.bool true)) (.t 68)⟩])
 (.cond (.t 69) (.seq (.reg [⟨(some 2), none, .mov (.c (.bool false))⟩])
 .ret)
 .skip))
 (.seq (.reg [⟨(some 70), none, .faddr 4 (.t 6)⟩,
  ⟨(some 71), none, .load none (.t 70)⟩,
  ⟨(some 72), none, .iaddr 7 (.t 71) (.c (.int .i64 1))⟩,
  ⟨(some 73), none, .load (some 7) (.t 72)⟩,
  ⟨(some 8), none, .alloc [(.int .i64 0), (.int .i64 0), (.str []), (.int .i64 0), (.sl .clip []), (.sl .clip []), (.sl .clip [])] false⟩,
  ⟨none, none, .store 7 (.t 8) (.t 73)⟩])
 (.seq (.reg [⟨(some 75), none, .bslice [(.int .u8 0)] 0 []⟩,
  ⟨(some 76), none, .mov (.t 4)⟩,
  ⟨(some 77), none, .append 1 (.t 75) (.t 76)⟩,
  ⟨(some 78), none, .append 1 (.t 77) (.c (.str [102, 32, 120, 32, 121, 32, 61, 32, 120, 59, 32, 100, 97, 116, 97, 32, 84, 32, 61, 32, 65]))⟩,
  ⟨(some 79), none, .call 0 [] (.c (.fn 30 [])) [(.t 78)]⟩,
  ⟨(some 74), none, .mov (.t 79)⟩,
  ⟨(some 80), none, .extract (.t 74) 0⟩,
  ⟨(some 81), none, .extract (.t 74) 1⟩,
  ⟨(some 9), none, .alloc [(.sl .clip []), (.sl .clip []), (.sl .clip []), (.sl .clip [])] false⟩,
  ⟨none, none, .store 4 (.t 9) (.t 80)⟩,
  ⟨(some 10), none, .mov (.t 81)⟩])
 (.seq (.seq (.reg [⟨(some 82), none, .mov (.t 10)⟩,
  ⟨(some 83), none, .eqnil .iface true (.t 82)⟩,
  ⟨(some 84), none, .mov (.t 83)⟩,
  ⟨(some 85), (some (84, false)), .faddr 3 (.t 9)⟩,
  ⟨(some 86), (some (84, false)), .load none (.t 85)⟩,
  ⟨(some 87), (some (84, false)), .len 1 (.t 86)⟩,
  ⟨(some 88), (some (84, false)), .bin .neq (.t 87) (.c (.int .i64 1))⟩,
  ⟨(some 89), none, .pick (.t 84) (.c (.bool true)) (.t 88)⟩,
  ⟨(some 90), none, .mov (.t 89)⟩,
  ⟨(some 91), (some (90, false)), .faddr 0 (.t 9)⟩,
  ⟨(some 92), (some (90, false)), .load none (.t 91)⟩,
  ⟨(some 93), (some (90, false)), .len 1 (.t 92)⟩,
  ⟨(some 94), (some (90, false)), .bin .neq (.t 93) (.c (.int .i64 1))⟩,
  ⟨(some 95), none, .pick (.t 90) (.c (.bool true)) (.t 94)⟩,
  ⟨(some 96), none, .mov (.t 95)⟩,
  ⟨(some 97), (some (96, false)), .faddr 0 (.t 8)⟩,
  ⟨(some 98), (some (96, false)), .load none (.t 97)⟩,
  ⟨(some 99), (some (96, false)), .bin .neq (.t 98) (.c (.int .i64 8))⟩,
  ⟨(some 100), none, .pick (.t 96) (.c (.bool true)) (.t 99)⟩,
  ⟨(some 101), none, .mov (.t 100)⟩,
  ⟨(some 102), (some (101, false)), .faddr 5 (.t 8)⟩,
  ⟨(some 103), (some (101, false)), .load none (.t 102)⟩,
  ⟨(some 104), (some (101, false)), .len 1 (.t 103)⟩,
  ⟨(some 105), (some (101, false)), .bin .neq (.t 104) (.c (.int .i64 1))⟩,
  ⟨(some 106), none, .pick (.t 101) (.c (.bool true)) (.t 105)⟩])
 (.cond (.t 106) (.seq (.reg [⟨(some 2), none, .mov (.c (.bool false))⟩])
 .ret)
 .skip))
 (.seq (.reg [⟨(some 107), none, .faddr 3 (.t 9)⟩,
  ⟨(some 108), none, .load none (.t 107)⟩,
  ⟨(some 109), none, .iaddr 15 (.t 108) (.c (.int .i64 0))⟩,
  ⟨(some 110), none, .faddr 7 (.t 109)⟩,
  ⟨(some 111), none, .load (some 7) (.t 110)⟩,
  ⟨(some 11), none, .alloc [(.int .i64 0), (.int .i64 0), (.str []), (.int .i64 0), (.sl .clip []), (.sl .clip []), (.sl .clip [])] false⟩,
  ⟨none, none, .store 7 (.t 11) (.t 111)⟩])
 (.seq (.reg [⟨(some 112), none, .mov (.t 3)⟩,
  ⟨(some 113), none, .mov (.t 112)⟩,
  ⟨(some 114), (some (113, true)), .faddr 4 (.t 6)⟩,
  ⟨(some 115), (some (113, true)), .load none (.t 114)⟩,
  ⟨(some 116), (some (113, true)), .iaddr 7 (.t 115) (.c (.int .i64 0))⟩,
  ⟨(some 117), (some (113, true)), .faddr 4 (.t 116)⟩,
  ⟨(some 118), (some (113, true)), .load none (.t 117)⟩,
  ⟨(some 119), (some (113, true)), .iaddr 7 (.t 118) (.c (.int .i64 0))⟩,
  ⟨(some 120), (some (113, true)), .faddr 1 (.t 119)⟩,
  ⟨(some 121), (some (113, true)), .load none (.t 120)⟩,
  ⟨(some 122), (some (113, true)), .mov (.t 0)⟩,
  ⟨(some 123), (some (113, true)), .bin .add (.t 122) (.c (.int .i64 6))⟩,
  ⟨(some 124), (some (113, true)), .bin .eql (.t 121) (.t 123)⟩,
  ⟨(some 125), none, .pick (.t 113) (.t 124) (.c (.bool false))⟩,
  ⟨(some 126), none, .mov (.t 125)⟩,
  ⟨(some 127), (some (126, true)), .faddr 4 (.t 6)⟩,
  ⟨(some 128), (some (126, true)), .load none (.t 127)⟩,
  ⟨(some 129), (some (126, true)), .iaddr 7 (.t 128) (.c (.int .i64 0))⟩,
  ⟨(some 130), (some (126, true)), .faddr 4 (.t 129)⟩,
  ⟨(some 131), (some (126, true)), .load none (.t 130)⟩,
  ⟨(some 132), (some (126, true)), .iaddr 7 (.t 131) (.c (.int .i64 1))⟩,
  ⟨(some 133), (some (126, true)), .faddr 1 (.t 132)⟩,
  ⟨(some 134), (some (126, true)), .load none (.t 133)⟩,
  ⟨(some 135), (some (126, true)), .mov (.t 0)⟩,
  ⟨(some 136), (some (126, true)), .bin .add (.t 135) (.c (.int .i64 1))⟩,
  ⟨(some 137), (some (126, true)), .bin .eql (.t 134) (.t 136)⟩,
  ⟨(some 138), none, .pick (.t 126) (.t 137) (.c (.bool false))⟩,
  ⟨(some 139), none, .mov (.t 138)⟩,
  ⟨(some 140), (some (139, true)), .faddr 1 (.t 8)⟩,
  ⟨(some 141), (some (139, true)), .load none (.t 140)⟩,
  ⟨(some 142), (some (139, true)), .mov (.t 0)⟩,
  ⟨(some 143), (some (139, true)), .bin .add (.t 142) (.c (.int .i64 9))⟩,
  ⟨(some 144), (some (139, true)), .bin .eql (.t 141) (.t 143)⟩,
  ⟨(some 145), none, .pick (.t 139) (.t 144) (.c (.bool false))⟩,
  ⟨(some 146), none, .mov (.t 145)⟩,
  ⟨(some 147), (some (146, true)), .faddr 5 (.t 8)⟩,
  ⟨(some 148), (some (146, true)), .load none (.t 147)⟩,
  ⟨(some 149), (some (146, true)), .iaddr 10 (.t 148) (.c (.int .i64 0))⟩,
  ⟨(some 150), (some (146, true)), .faddr 9 (.t 149)⟩,
  ⟨(some 151), (some (146, true)), .load none (.t 150)⟩,
  ⟨(some 152), (some (146, true)), .mov (.t 0)⟩,
  ⟨(some 153), (some (146, true)), .bin .add (.t 152) (.c (.int .i64 21))⟩,
  ⟨(some 154), (some (146, true)), .bin .eql (.t 151) (.t 153)⟩,
  ⟨(some 155), none, .pick (.t 146) (.t 154) (.c (.bool false))⟩,
  ⟨(some 156), none, .mov (.t 155)⟩,
  ⟨(some 157), (some (156, true)), .faddr 5 (.t 8)⟩,
  ⟨(some 158), (some (156, true)), .load none (.t 157)⟩,
  ⟨(some 159), (some (156, true)), .iaddr 10 (.t 158) (.c (.int .i64 0))⟩,
  ⟨(some 160), (some (156, true)), .faddr 2 (.t 159)⟩,
  ⟨(some 161), (some (156, true)), .faddr 1 (.t 160)⟩,
  ⟨(some 162), (some (156, true)), .load none (.t 161)⟩,
  ⟨(some 163), (some (156, true)), .mov (.t 0)⟩,
  ⟨(some 164), (some (156, true)), .bin .add (.t 163) (.c (.int .i64 28))⟩,
  ⟨(some 165), (some (156, true)), .bin .eql (.t 162) (.t 164)⟩,
  ⟨(some 166), none, .pick (.t 156) (.t 165) (.c (.bool false))⟩,
  ⟨(some 167), none, .mov (.t 166)⟩,
  ⟨(some 168), (some (167, true)), .faddr 3 (.t 9)⟩,
  ⟨(some 169), (some (167, true)), .load none (.t 168)⟩,
  ⟨(some 170), (some (167, true)), .iaddr 15 (.t 169) (.c (.int .i64 0))⟩,
  ⟨(some 171), (some (167, true)), .faddr 14 (.t 170)⟩,
  ⟨(some 172), (some (167, true)), .load none (.t 171)⟩,
  ⟨(some 173), (some (167, true)), .mov (.t 0)⟩,
  ⟨(some 174), (some (167, true)), .bin .eql (.t 172) (.t 173)⟩,
  ⟨(some 175), none, .pick (.t 167) (.t 174) (.c (.bool false))⟩,
  ⟨(some 176), none, .mov (.t 175)⟩,
  ⟨(some 177), (some (176, true)), .faddr 1 (.t 11)⟩,
  ⟨(some 178), (some (176, true)), .load none (.t 177)⟩,
  ⟨(some 179), (some (176, true)), .mov (.t 0)⟩,
  ⟨(some 180), (some (176, true)), .bin .eql (.t 178) (.t 179)⟩,
  ⟨(some 181), none, .pick (.t 176) (.t 180) (.c (.bool false))⟩,
  ⟨(some 182), none, .mov (.t 181)⟩,
  ⟨(some 183), (some (182, true)), .faddr 4 (.t 11)⟩,
  ⟨(some 184), (some (182, true)), .load none (.t 183)⟩,
  ⟨(some 185), (some (182, true)), .iaddr 7 (.t 184) (.c (.int .i64 0))⟩,
  ⟨(some 186), (some (182, true)), .faddr 1 (.t 185)⟩,
  ⟨(some 187), (some (182, true)), .load none (.t 186)⟩,
  ⟨(some 188), (some (182, true)), .mov (.t 0)⟩,
  ⟨(some 189), (some (182, true)), .bin .eql (.t 187) (.t 188)⟩,
  ⟨(some 190), none, .pick (.t 182) (.t 189) (.c (.bool false))⟩,
  ⟨(some 191), none, .mov (.t 190)⟩,
  ⟨(some 192), (some (191, true)), .faddr 4 (.t 11)⟩,
  ⟨(some 193), (some (191, true)), .load none (.t 192)⟩,
  ⟨(some 194), (some (191, true)), .iaddr 7 (.t 193) (.c (.int .i64 0))⟩,
  ⟨(some 195), (some (191, true)), .faddr 4 (.t 194)⟩,
  ⟨(some 196), (some (191, true)), .load none (.t 195)⟩,
  ⟨(some 197), (some (191, true)), .iaddr 7 (.t 196) (.c (.int .i64 0))⟩,
  ⟨(some 198), (some (191, true)), .faddr 1 (.t 197)⟩,
  ⟨(some 199), (some (191, true)), .load none (.t 198)⟩,
  ⟨(some 200), (some (191, true)), .mov (.t 0)⟩,
  ⟨(some 201), (some (191, true)), .bin .add (.t 200) (.c (.int .i64 8))⟩,
  ⟨(some 202), (some (191, true)), .bin .eql (.t 199) (.t 201)⟩,
  ⟨(some 203), none, .pick (.t 191) (.t 202) (.c (.bool false))⟩,
  ⟨(some 204), none, .mov (.t 203)⟩,
  ⟨(some 205), (some (204, true)), .faddr 0 (.t 9)⟩,
  ⟨(some 206), (some (204, true)), .load none (.t 205)⟩,
  ⟨(some 207), (some (204, true)), .iaddr 5 (.t 206) (.c (.int .i64 0))⟩,
  ⟨(some 208), (some (204, true)), .faddr 4 (.t 207)⟩,
  ⟨(some 209), (some (204, true)), .load none (.t 208)⟩,
  ⟨(some 210), (some (204, true)), .mov (.t 0)⟩,
  ⟨(some 211), (some (204, true)), .bin .add (.t 210) (.c (.int .i64 11))⟩,
  ⟨(some 212), (some (204, true)), .bin .eql (.t 209) (.t 211)⟩,
  ⟨(some 213), none, .pick (.t 204) (.t 212) (.c (.bool false))⟩,
  ⟨(some 2), none, .mov (.t 213)⟩])
 .ret)))))))))))
/-- paideia/paideialaw3.ParserPlaces -/
def ac5 : AF := ⟨(.seq (.reg [⟨(some 2), none, .mov (.c (.bool false))⟩])
 (.seq (.reg [⟨(some 12), none, .call 0 [] (.c (.fn 27 [])) []⟩,
  ⟨(some 3), none, .mov (.t 12)⟩])
 (.seq (.seq (.reg [⟨(some 13), none, .mov (.t 3)⟩,
  ⟨(some 14), none, .not (.t 13)⟩])
 (.cond (.t 14) (.seq (.reg [⟨(some 2), none, .mov (.c (.bool false))⟩])
 .ret)
 .skip))
 (.seq mid5 rest5)))),
  [.t 2], false, true, 214⟩
theorem co5 : compF Tryz.prog ⟨[], [(7, [0, 3, 4, 5], [])], [], [], [], [], 5, [], [], []⟩ false true Tryz.f5 = some ac5 := by kernel_rfl

def cut6 : Nat := 4
def mid6 : AC := (.reg [⟨(some 21), none, .mov (.t 0)⟩,
  ⟨(some 22), none, .bin .rem (.t 21) (.c (.int .i64 3))⟩,
  ⟨(some 23), none, .bin .add (.t 22) (.c (.int .i64 3))⟩,
  ⟨(some 24), none, .bin .rem (.t 23) (.c (.int .i64 3))⟩,
  ⟨(some 7), none, .mov (.t 24)⟩])
def rest6 : AC := (.seq (.reg [⟨(some 25), none, .mov (.t 6)⟩,
  ⟨(some 26), none, .mov (.t 7)⟩,
  ⟨(some 27), none, .iaddr 1 (.t 25) (.t 26)⟩,
  ⟨(some 28), none, .load none (.t 27)⟩,
  ⟨(some 8), none, .mov (.t 28)⟩])
 (.seq (.seq (.reg [⟨(some 29), none, .mov (.t 1)⟩])
 (.cond (.t 29) (.seq (.reg [⟨(some 31), none, .mov (.t 8)⟩,
  ⟨(some 32), none, .bin .add (.c (.str [108, 101, 116, 32, 123, 32])) (.t 31)⟩,
  ⟨(some 33), none, .bin .add (.t 32) (.c (.str [32, 125, 32, 105, 110, 32, 102]))⟩,
  ⟨(some 34), none, .conv .bytes (.t 33)⟩,
  ⟨(some 35), none, .call 0 [] (.c (.fn 28 [])) [(.t 34)]⟩,
  ⟨(some 30), none, .mov (.t 35)⟩,
  ⟨(some 36), none, .extract (.t 30) 0⟩,
  ⟨(some 37), none, .extract (.t 30) 1⟩,
  ⟨(some 9), none, .alloc [(.int .i64 0), (.int .i64 0), (.str []), (.int .i64 0), (.sl .clip []), (.sl .clip []), (.sl .clip [])] false⟩,
  ⟨none, none, .store 7 (.t 9) (.t 36)⟩,
  ⟨(some 10), none, .mov (.t 37)⟩])
 (.seq (.seq (.reg [⟨(some 38), none, .mov (.t 10)⟩,
  ⟨(some 39), none, .eqnil .iface true (.t 38)⟩,
  ⟨(some 40), none, .mov (.t 39)⟩,
  ⟨(some 41), (some (40, false)), .faddr 6 (.t 9)⟩,
  ⟨(some 42), (some (40, false)), .load none (.t 41)⟩,
  ⟨(some 43), (some (40, false)), .len 1 (.t 42)⟩,
  ⟨(some 44), (some (40, false)), .bin .neq (.t 43) (.c (.int .i64 2))⟩,
  ⟨(some 45), none, .pick (.t 40) (.c (.bool true)) (.t 44)⟩])
 (.cond (.t 45) (.seq (.reg [⟨(some 4), none, .mov (.c (.bool false))⟩])
 .ret)
 .skip))
 (.seq (.reg [⟨(some 46), none, .mov (.t 5)⟩,
  ⟨(some 47), none, .mov (.t 46)⟩,
  ⟨(some 48), (some (47, true)), .faddr 6 (.t 9)⟩,
  ⟨(some 49), (some (47, true)), .load none (.t 48)⟩,
  ⟨(some 50), (some (47, true)), .call 0 [] (.c (.fn 31 [])) [(.t 49)]⟩,
  ⟨(some 51), none, .pick (.t 47) (.t 50) (.c (.bool false))⟩,
  ⟨(some 4), none, .mov (.t 51)⟩])
 .ret)))
 .skip))
 (.seq (.reg [⟨(some 53), none, .mov (.t 8)⟩,
  ⟨(some 54), none, .conv .bytes (.t 53)⟩,
  ⟨(some 55), none, .call 0 [] (.c (.fn 30 [])) [(.t 54)]⟩,
  ⟨(some 52), none, .mov (.t 55)⟩,
  ⟨(some 56), none, .extract (.t 52) 0⟩,
  ⟨(some 57), none, .extract (.t 52) 1⟩,
  ⟨(some 11), none, .alloc [(.sl .clip []), (.sl .clip []), (.sl .clip []), (.sl .clip [])] false⟩,
  ⟨none, none, .store 4 (.t 11) (.t 56)⟩,
  ⟨(some 12), none, .mov (.t 57)⟩])
 (.seq (.reg [⟨(some 59), none, .bslice [(.int .u8 0)] 25 [(0, (.c (.int .u8 102))), (1, (.c (.int .u8 32))), (2, (.c (.int .u8 61))), (3, (.c (.int .u8 32))), (4, (.c (.int .u8 108))), (5, (.c (.int .u8 101))), (6, (.c (.int .u8 116))), (7, (.c (.int .u8 32))), (8, (.c (.int .u8 123))), (9, (.c (.int .u8 32))), (10, (.c (.int .u8 102))), (11, (.c (.int .u8 32))), (12, (.c (.int .u8 58))), (13, (.c (.int .u8 58))), (14, (.c (.int .u8 32))), (15, (.c (.int .u8 73))), (16, (.c (.int .u8 110))), (17, (.c (.int .u8 116))), (18, (.c (.int .u8 32))), (19, (.c (.int .u8 125))), (20, (.c (.int .u8 32))), (21, (.c (.int .u8 105))), (22, (.c (.int .u8 110))), (23, (.c (.int .u8 32))), (24, (.c (.int .u8 49)))]⟩,
  ⟨(some 60), none, .mov (.t 59)⟩,
  ⟨(some 61), none, .call 0 [] (.c (.fn 30 [])) [(.t 60)]⟩,
  ⟨(some 58), none, .mov (.t 61)⟩,
  ⟨(some 62), none, .extract (.t 58) 0⟩,
  ⟨(some 63), none, .extract (.t 58) 1⟩,
  ⟨(some 13), none, .alloc [(.sl .clip []), (.sl .clip []), (.sl .clip []), (.sl .clip [])] false⟩,
  ⟨none, none, .store 4 (.t 13) (.t 62)⟩,
  ⟨(some 14), none, .mov (.t 63)⟩])
 (.seq (.reg [⟨(some 65), none, .bslice [(.int .u8 0)] 32 [(0, (.c (.int .u8 102))), (1, (.c (.int .u8 32))), (2, (.c (.int .u8 58))), (3, (.c (.int .u8 58))), (4, (.c (.int .u8 32))), (5, (.c (.int .u8 73))), (6, (.c (.int .u8 110))), (7, (.c (.int .u8 116))), (8, (.c (.int .u8 59))), (9, (.c (.int .u8 32))), (10, (.c (.int .u8 120))), (11, (.c (.int .u8 32))), (12, (.c (.int .u8 61))), (13, (.c (.int .u8 32))), (14, (.c (.int .u8 108))), (15, (.c (.int .u8 101))), (16, (.c (.int .u8 116))), (17, (.c (.int .u8 32))), (18, (.c (.int .u8 123))), (19, (.c (.int .u8 32))), (20, (.c (.int .u8 102))), (21, (.c (.int .u8 32))), (22, (.c (.int .u8 61))), (23, (.c (.int .u8 32))), (24, (.c (.int .u8 49))), (25, (.c (.int .u8 32))), (26, (.c (.int .u8 125))), (27, (.c (.int .u8 32))), (28, (.c (.int .u8 105))), (29, (.c (.int .u8 110))), (30, (.c (.int .u8 32))), (31, (.c (.int .u8 102)))]⟩,
  ⟨(some 66), none, .mov (.t 65)⟩,
  ⟨(some 67), none, .call 0 [] (.c (.fn 30 [])) [(.t 66)]⟩,
  ⟨(some 64), none, .mov (.t 67)⟩,
  ⟨(some 68), none, .extract (.t 64) 0⟩,
  ⟨(some 69), none, .extract (.t 64) 1⟩,
  ⟨(some 15), none, .alloc [(.sl .clip []), (.sl .clip []), (.sl .clip []), (.sl .clip [])] false⟩,
  ⟨none, none, .store 4 (.t 15) (.t 68)⟩,
  ⟨(some 16), none, .mov (.t 69)⟩])
 (.seq (.reg [⟨(some 70), none, .mov (.t 5)⟩,
  ⟨(some 71), none, .mov (.t 70)⟩,
  ⟨(some 72), (some (71, true)), .mov (.t 12)⟩,
  ⟨(some 73), (some (71, true)), .eqnil .iface false (.t 72)⟩,
  ⟨(some 74), none, .pick (.t 71) (.t 73) (.c (.bool false))⟩,
  ⟨(some 75), none, .mov (.t 74)⟩,
  ⟨(some 76), (some (75, true)), .faddr 3 (.t 11)⟩,
  ⟨(some 77), (some (75, true)), .load none (.t 76)⟩,
  ⟨(some 78), (some (75, true)), .len 1 (.t 77)⟩,
  ⟨(some 79), (some (75, true)), .bin .eql (.t 78) (.c (.int .i64 2))⟩,
  ⟨(some 80), none, .pick (.t 75) (.t 79) (.c (.bool false))⟩,
  ⟨(some 81), none, .mov (.t 80)⟩,
  ⟨(some 82), (some (81, true)), .faddr 3 (.t 11)⟩,
  ⟨(some 83), (some (81, true)), .load none (.t 82)⟩,
  ⟨(some 84), (some (81, true)), .call 0 [] (.c (.fn 31 [])) [(.t 83)]⟩,
  ⟨(some 85), none, .pick (.t 81) (.t 84) (.c (.bool false))⟩,
  ⟨(some 86), none, .mov (.t 85)⟩,
  ⟨(some 87), (some (86, true)), .mov (.t 14)⟩,
  ⟨(some 88), (some (86, true)), .eqnil .iface true (.t 87)⟩,
  ⟨(some 89), none, .pick (.t 86) (.t 88) (.c (.bool false))⟩,
  ⟨(some 90), none, .mov (.t 89)⟩,
  ⟨(some 91), (some (90, true)), .mov (.t 16)⟩,
  ⟨(some 92), (some (90, true)), .eqnil .iface true (.t 91)⟩,
  ⟨(some 93), none, .pick (.t 90) (.t 92) (.c (.bool false))⟩,
  ⟨(some 4), none, .mov (.t 93)⟩])
 .ret))))))
/-- paideia/paideialaw3.ParserSigs -/
def ac6 : AF := ⟨(.seq (.reg [⟨(some 4), none, .mov (.c (.bool false))⟩])
 (.seq (.reg [⟨(some 17), none, .call 0 [] (.c (.fn 27 [])) []⟩,
  ⟨(some 5), none, .mov (.t 17)⟩])
 (.seq (.seq (.reg [⟨(some 18), none, .mov (.t 5)⟩,
  ⟨(some 19), none, .not (.t 18)⟩])
 (.cond (.t 19) (.seq (.reg [⟨(some 4), none, .mov (.c (.bool false))⟩])
 .ret)
 .skip))
 (.seq (.reg [⟨(some 20), none, .bslice [(.str [])] 3 [(0, (.c (.str [102, 32, 58, 58, 32, 73, 110, 116, 59, 32, 102, 32, 61, 32, 49, 59, 32, 103, 32, 61, 32, 50]))), (1, (.c (.str [103, 32, 61, 32, 50, 59, 32, 102, 32, 61, 32, 49, 59, 32, 102, 32, 58, 58, 32, 73, 110, 116]))), (2, (.c (.str [102, 32, 61, 32, 49, 59, 32, 103, 32, 61, 32, 50, 59, 32, 102, 32, 58, 58, 32, 73, 110, 116, 59, 59])))]⟩,
  ⟨(some 6), none, .mov (.t 20)⟩])
 (.seq mid6 rest6))))),
  [.t 4], false, true, 94⟩
theorem co6 : compF Tryz.prog ⟨[], [], [], [], [], [], 6, [], [], []⟩ false true Tryz.f6 = some ac6 := by kernel_rfl

/-- paideia/paideialaw3.first -/
def ac27 : AF := ⟨(.seq (.reg [⟨(some 0), none, .mov (.c (.bool false))⟩])
 (.seq (.reg [⟨(some 4), none, .bslice [(.int .u8 0)] 3 [(0, (.c (.int .u8 102))), (1, (.c (.int .u8 32))), (2, (.c (.int .u8 120)))]⟩,
  ⟨(some 5), none, .mov (.t 4)⟩,
  ⟨(some 6), none, .call 0 [] (.c (.fn 28 [])) [(.t 5)]⟩,
  ⟨(some 3), none, .mov (.t 6)⟩,
  ⟨(some 7), none, .extract (.t 3) 0⟩,
  ⟨(some 8), none, .extract (.t 3) 1⟩,
  ⟨(some 1), none, .alloc [(.int .i64 0), (.int .i64 0), (.str []), (.int .i64 0), (.sl .clip []), (.sl .clip []), (.sl .clip [])] false⟩,
  ⟨none, none, .store 7 (.t 1) (.t 7)⟩,
  ⟨(some 2), none, .mov (.t 8)⟩])
 (.seq (.reg [⟨(some 9), none, .mov (.t 2)⟩,
  ⟨(some 10), none, .eqnil .iface false (.t 9)⟩,
  ⟨(some 11), none, .mov (.t 10)⟩,
  ⟨(some 12), (some (11, true)), .faddr 0 (.t 1)⟩,
  ⟨(some 13), (some (11, true)), .load none (.t 12)⟩,
  ⟨(some 14), (some (11, true)), .bin .eql (.t 13) (.c (.int .i64 5))⟩,
  ⟨(some 15), none, .pick (.t 11) (.t 14) (.c (.bool false))⟩,
  ⟨(some 0), none, .mov (.t 15)⟩])
 .ret))),
  [.t 0], false, true, 16⟩
theorem co27 : compF Tryz.prog ⟨[], [], [], [], [], [], 27, [], [], []⟩ false true Tryz.f27 = some ac27 := by kernel_rfl

/-- paideia/parser.Expr -/
def ac28 : AF := ⟨(.seq (.reg [⟨(some 2), none, .alloc [(.int .i64 0), (.int .i64 0), (.str []), (.int .i64 0), (.sl .clip []), (.sl .clip []), (.sl .clip [])] false⟩,
  ⟨(some 3), none, .mov (.c .nili)⟩])
 (.seq (.reg [⟨(some 4), none, .mov (.t 0)⟩,
  ⟨(some 5), none, .call 0 [] (.c (.fn 61 [])) [(.t 4), (.c (.fn 62 []))]⟩,
  ⟨(some 6), none, .extract (.t 5) 0⟩,
  ⟨(some 7), none, .extract (.t 5) 1⟩,
  ⟨none, none, .store 7 (.t 2) (.t 6)⟩,
  ⟨(some 3), none, .mov (.t 7)⟩])
 .ret)),
  [.cell 2 (some 7), .t 3], false, false, 8⟩
theorem co28 : compF Tryz.prog ⟨[], [], [], [], [], [], 28, [], [], []⟩ false false Tryz.f28 = some ac28 := by kernel_rfl

/-- paideia/printer.Same -/
def ac29 : AF := ⟨(.seq (.reg [⟨(some 2), none, .box (.t 0) 7 false⟩,
  ⟨(some 3), none, .box (.t 1) 7 false⟩,
  ⟨(some 4), none, .mov (.c (.bool false))⟩])
 (.seq (.reg [⟨(some 5), none, .faddr 0 (.t 2)⟩,
  ⟨(some 6), none, .load none (.t 5)⟩,
  ⟨(some 7), none, .faddr 0 (.t 3)⟩,
  ⟨(some 8), none, .load none (.t 7)⟩,
  ⟨(some 9), none, .bin .eql (.t 6) (.t 8)⟩,
  ⟨(some 10), none, .mov (.t 9)⟩,
  ⟨(some 11), (some (10, true)), .faddr 2 (.t 2)⟩,
  ⟨(some 12), (some (10, true)), .load none (.t 11)⟩,
  ⟨(some 13), (some (10, true)), .faddr 2 (.t 3)⟩,
  ⟨(some 14), (some (10, true)), .load none (.t 13)⟩,
  ⟨(some 15), (some (10, true)), .bin .eql (.t 12) (.t 14)⟩,
  ⟨(some 16), none, .pick (.t 10) (.t 15) (.c (.bool false))⟩,
  ⟨(some 17), none, .mov (.t 16)⟩,
  ⟨(some 18), (some (17, true)), .faddr 3 (.t 2)⟩,
  ⟨(some 19), (some (17, true)), .load none (.t 18)⟩,
  ⟨(some 20), (some (17, true)), .faddr 3 (.t 3)⟩,
  ⟨(some 21), (some (17, true)), .load none (.t 20)⟩,
  ⟨(some 22), (some (17, true)), .bin .eql (.t 19) (.t 21)⟩,
  ⟨(some 23), none, .pick (.t 17) (.t 22) (.c (.bool false))⟩,
  ⟨(some 24), none, .mov (.t 23)⟩,
  ⟨(some 25), (some (24, true)), .faddr 4 (.t 2)⟩,
  ⟨(some 26), (some (24, true)), .load none (.t 25)⟩,
  ⟨(some 27), (some (24, true)), .faddr 4 (.t 3)⟩,
  ⟨(some 28), (some (24, true)), .load none (.t 27)⟩,
  ⟨(some 29), (some (24, true)), .call 0 [] (.c (.fn 63 [])) [(.t 26), (.t 28), (.c (.fn 29 []))]⟩,
  ⟨(some 30), none, .pick (.t 24) (.t 29) (.c (.bool false))⟩,
  ⟨(some 31), none, .mov (.t 30)⟩,
  ⟨(some 32), (some (31, true)), .faddr 5 (.t 2)⟩,
  ⟨(some 33), (some (31, true)), .load none (.t 32)⟩,
  ⟨(some 34), (some (31, true)), .faddr 5 (.t 3)⟩,
  ⟨(some 35), (some (31, true)), .load none (.t 34)⟩,
  ⟨(some 36), (some (31, true)), .call 0 [] (.c (.fn 64 [])) [(.t 33), (.t 35), (.c (.fn 65 []))]⟩,
  ⟨(some 37), none, .pick (.t 31) (.t 36) (.c (.bool false))⟩,
  ⟨(some 38), none, .mov (.t 37)⟩,
  ⟨(some 39), (some (38, true)), .faddr 6 (.t 2)⟩,
  ⟨(some 40), (some (38, true)), .load none (.t 39)⟩,
  ⟨(some 41), (some (38, true)), .faddr 6 (.t 3)⟩,
  ⟨(some 42), (some (38, true)), .load none (.t 41)⟩,
  ⟨(some 43), (some (38, true)), .call 0 [] (.c (.fn 66 [])) [(.t 40), (.t 42), (.c (.fn 67 []))]⟩,
  ⟨(some 44), none, .pick (.t 38) (.t 43) (.c (.bool false))⟩,
  ⟨(some 4), none, .mov (.t 44)⟩])
 .ret)),
  [.t 4], false, true, 45⟩
theorem co29 : compF Tryz.prog ⟨[], [], [], [], [], [], 29, [], [], []⟩ false true Tryz.f29 = some ac29 := by kernel_rfl

/-- paideia/parser.Program -/
def ac30 : AF := ⟨(.seq (.reg [⟨(some 2), none, .alloc [(.sl .clip []), (.sl .clip []), (.sl .clip []), (.sl .clip [])] false⟩,
  ⟨(some 3), none, .mov (.c .nili)⟩])
 (.seq (.reg [⟨(some 4), none, .mov (.t 0)⟩,
  ⟨(some 5), none, .call 0 [] (.c (.fn 68 [])) [(.t 4), (.c (.fn 69 []))]⟩,
  ⟨(some 6), none, .extract (.t 5) 0⟩,
  ⟨(some 7), none, .extract (.t 5) 1⟩,
  ⟨none, none, .store 4 (.t 2) (.t 6)⟩,
  ⟨(some 3), none, .mov (.t 7)⟩])
 .ret)),
  [.cell 2 (some 4), .t 3], false, false, 8⟩
theorem co30 : compF Tryz.prog ⟨[], [], [], [], [], [], 30, [], [], []⟩ false false Tryz.f30 = some ac30 := by kernel_rfl

/-- paideia/paideialaw3.signed -/
def ac31 : AF := ⟨(.seq (.reg [⟨(some 2), none, .mov (.c (.bool false))⟩])
 (.seq (.seq (.reg [⟨(some 3), none, .mov (.c (.int .i64 0))⟩])
 (.block 0 (.loop [0, 3] [] (.seq (.seq (.reg [⟨(some 4), none, .mov (.t 3)⟩,
  ⟨(some 5), none, .mov (.t 0)⟩,
  ⟨(some 6), none, .len 1 (.t 5)⟩,
  ⟨(some 7), none, .bin .lss (.t 4) (.t 6)⟩])
 (.cond (.t 7) .skip
 (.exit 0)))
 (.seq (.block 1 (.seq (.reg [⟨(some 10), none, .mov (.t 0)⟩,
  ⟨(some 11), none, .mov (.t 3)⟩,
  ⟨(some 12), none, .iaddr 15 (.t 10) (.t 11)⟩,
  ⟨(some 13), none, .faddr 1 (.t 12)⟩,
  ⟨(some 14), none, .load none (.t 13)⟩,
  ⟨(some 15), none, .mov (.t 0)⟩,
  ⟨(some 16), none, .mov (.t 3)⟩,
  ⟨(some 17), none, .iaddr 15 (.t 15) (.t 16)⟩,
  ⟨(some 18), none, .faddr 0 (.t 17)⟩,
  ⟨(some 19), none, .load none (.t 18)⟩,
  ⟨(some 20), none, .bin .eql (.t 19) (.c (.str [102]))⟩,
  ⟨(some 21), none, .eqb true (.t 14) (.t 20)⟩,
  ⟨(some 22), none, .mov (.t 21)⟩,
  ⟨(some 23), (some (22, false)), .mov (.t 0)⟩,
  ⟨(some 24), (some (22, false)), .mov (.t 3)⟩,
  ⟨(some 25), (some (22, false)), .iaddr 15 (.t 23) (.t 24)⟩,
  ⟨(some 26), (some (22, false)), .faddr 1 (.t 25)⟩,
  ⟨(some 27), (some (22, false)), .load none (.t 26)⟩,
  ⟨(some 28), (some (22, false)), .mov (.t 27)⟩,
  ⟨(some 29), (some (28, true)), .mov (.t 0)⟩,
  ⟨(some 30), (some (28, true)), .mov (.t 3)⟩,
  ⟨(some 31), (some (28, true)), .iaddr 15 (.t 29) (.t 30)⟩,
  ⟨(some 32), (some (28, true)), .faddr 2 (.t 31)⟩,
  ⟨(some 33), (some (28, true)), .load (some 5) (.t 32)⟩,
  ⟨(some 34), (some (28, true)), .call 0 [] (.c (.fn 75 [])) [(.t 33)]⟩,
  ⟨(some 35), (some (28, true)), .bin .neq (.t 34) (.c (.str [73, 110, 116]))⟩,
  ⟨(some 36), (some (22, false)), .pick (.t 28) (.t 35) (.c (.bool false))⟩,
  ⟨(some 37), none, .pick (.t 22) (.c (.bool true)) (.t 36)⟩])
 (.cond (.t 37) (.seq (.reg [⟨(some 2), none, .mov (.c (.bool false))⟩])
 .ret)
 .skip)))
 (.reg [⟨(some 8), none, .mov (.t 3)⟩,
  ⟨(some 9), none, .bin .add (.t 8) (.c (.int .i64 1))⟩,
  ⟨(some 3), none, .mov (.t 9)⟩]))))))
 (.seq (.reg [⟨(some 2), none, .mov (.c (.bool true))⟩])
 .ret))),
  [.t 2], false, true, 38⟩
theorem co31 : compF Tryz.prog ⟨[], [(2, [0, 3], [])], [], [], [], [], 31, [], [], [0]⟩ false true Tryz.f31 = some ac31 := by kernel_rfl

/-- paideia/types.Fun -/
def ac54 : AF := ⟨(.seq (.reg [⟨(some 2), none, .alloc [(.int .i64 0), (.str []), (.sl .clip [])] false⟩])
 (.seq (.seq (.reg [⟨(some 5), none, .mov (.t 0)⟩,
  ⟨(some 6), none, .len 1 (.t 5)⟩,
  ⟨(some 7), none, .bin .eql (.t 6) (.c (.int .i64 0))⟩])
 (.cond (.t 7) (.seq (.reg [⟨(some 8), none, .call 0 [] (.c (.fn 94 [])) [(.c (.str [85, 110, 105, 116])), (.c (.sl .clip []))]⟩,
  ⟨none, none, .store 3 (.t 2) (.t 8)⟩])
 .ret)
 .skip))
 (.seq (.reg [⟨(some 9), none, .mov (.t 0)⟩,
  ⟨(some 10), none, .mov (.t 0)⟩,
  ⟨(some 11), none, .len 1 (.t 10)⟩,
  ⟨(some 12), none, .bin .sub (.t 11) (.c (.int .i64 1))⟩,
  ⟨(some 13), none, .iaddr 3 (.t 9) (.t 12)⟩,
  ⟨(some 14), none, .load (some 3) (.t 13)⟩,
  ⟨(some 3), none, .alloc [(.int .i64 0), (.str []), (.sl .clip [])] false⟩,
  ⟨none, none, .store 3 (.t 3) (.t 14)⟩])
 (.seq (.seq (.reg [⟨(some 15), none, .mov (.t 0)⟩,
  ⟨(some 16), none, .len 1 (.t 15)⟩,
  ⟨(some 17), none, .bin .sub (.t 16) (.c (.int .i64 2))⟩,
  ⟨(some 4), none, .mov (.t 17)⟩])
 (.block 0 (.loop [0, 4] [2, 3] (.seq (.seq (.reg [⟨(some 18), none, .mov (.t 4)⟩,
  ⟨(some 19), none, .bin .geq (.t 18) (.c (.int .i64 0))⟩])
 (.cond (.t 19) .skip
 (.exit 0)))
 (.seq (.block 1 (.reg [⟨(some 22), none, .mov (.t 0)⟩,
  ⟨(some 23), none, .mov (.t 4)⟩,
  ⟨(some 24), none, .iaddr 3 (.t 22) (.t 23)⟩,
  ⟨(some 25), none, .load (some 3) (.t 24)⟩,
  ⟨(some 26), none, .load (some 3) (.t 3)⟩,
  ⟨(some 27), none, .bslice [(.int .i64 0), (.str []), (.sl .clip [])] 2 [(0, (.t 25)), (1, (.t 26))]⟩,
  ⟨(some 28), none, .build [(.int .i64 0), (.str []), (.sl .clip [])] [(0, 1, (.c (.int .i64 3))), (2, 1, (.t 27))]⟩,
  ⟨none, none, .store 3 (.t 3) (.t 28)⟩]))
 (.reg [⟨(some 20), none, .mov (.t 4)⟩,
  ⟨(some 21), none, .bin .sub (.t 20) (.c (.int .i64 1))⟩,
  ⟨(some 4), none, .mov (.t 21)⟩]))))))
 (.seq (.reg [⟨(some 29), none, .load (some 3) (.t 3)⟩,
  ⟨none, none, .store 3 (.t 2) (.t 29)⟩])
 .ret))))),
  [.cell 2 (some 3)], false, true, 30⟩
theorem co54 : compF Tryz.prog ⟨[], [(5, [0, 4], [2, 3])], [], [], [], [], 54, [], [], [0]⟩ false true Tryz.f54 = some ac54 := by kernel_rfl

/-- paideia/parser.of[paideia/api.Expr] -/
def ac61 : AF := ⟨(.seq (.reg [⟨(some 4), none, .alloc [(.int .i64 0), (.int .i64 0), (.str []), (.int .i64 0), (.sl .clip []), (.sl .clip []), (.sl .clip [])] false⟩,
  ⟨(some 5), none, .mov (.c .nili)⟩])
 (.seq (.reg [⟨(some 6), none, .alloc [(.int .i64 0), (.int .i64 0), (.str []), (.int .i64 0), (.sl .clip []), (.sl .clip []), (.sl .clip [])] false⟩])
 (.seq (.reg [⟨(some 12), none, .mov (.t 0)⟩,
  ⟨(some 13), none, .call 0 [] (.c (.fn 97 [])) [(.t 12)]⟩,
  ⟨(some 11), none, .mov (.t 13)⟩,
  ⟨(some 14), none, .extract (.t 11) 0⟩,
  ⟨(some 15), none, .extract (.t 11) 1⟩,
  ⟨(some 7), none, .mov (.t 14)⟩,
  ⟨(some 8), none, .mov (.t 15)⟩])
 (.seq (.seq (.reg [⟨(some 16), none, .mov (.t 8)⟩,
  ⟨(some 17), none, .eqnil .iface true (.t 16)⟩])
 (.cond (.t 17) (.seq (.reg [⟨(some 18), none, .load (some 7) (.t 6)⟩,
  ⟨(some 19), none, .mov (.t 8)⟩,
  ⟨none, none, .store 7 (.t 4) (.t 18)⟩,
  ⟨(some 5), none, .mov (.t 19)⟩])
 .ret)
 .skip))
 (.seq (.reg [⟨(some 20), none, .mov (.t 7)⟩,
  ⟨(some 21), none, .mov (.t 0)⟩,
  ⟨(some 22), none, .len 1 (.t 21)⟩,
  ⟨(some 23), none, .build [(.sl .clip []), (.int .i64 0), (.int .i64 0), (.int .i64 0), .nili] [(0, 1, (.t 20)), (2, 1, (.t 22))]⟩,
  ⟨(some 24), none, .box (.t 23) 5 true⟩,
  ⟨(some 9), none, .mov (.t 24)⟩])
 (.seq (.reg [⟨(some 25), none, .mov (.t 1)⟩,
  ⟨(some 26), none, .mov (.t 9)⟩,
  ⟨(some 27), none, .call 0 [] (.t 25) [(.t 26)]⟩,
  ⟨(some 10), none, .alloc [(.int .i64 0), (.int .i64 0), (.str []), (.int .i64 0), (.sl .clip []), (.sl .clip []), (.sl .clip [])] false⟩,
  ⟨none, none, .store 7 (.t 10) (.t 27)⟩])
 (.seq (.seq (.reg [⟨(some 28), none, .mov (.t 9)⟩,
  ⟨(some 29), none, .nilck (.t 28)⟩,
  ⟨(some 30), none, .faddr 1 (.t 29)⟩,
  ⟨(some 31), none, .load none (.t 30)⟩,
  ⟨(some 32), none, .mov (.t 9)⟩,
  ⟨(some 33), none, .nilck (.t 32)⟩,
  ⟨(some 34), none, .faddr 0 (.t 33)⟩,
  ⟨(some 35), none, .load none (.t 34)⟩,
  ⟨(some 36), none, .len 1 (.t 35)⟩,
  ⟨(some 37), none, .bin .lss (.t 31) (.t 36)⟩])
 (.cond (.t 37) (.reg [⟨(some 38), none, .mov (.t 9)⟩,
  ⟨(some 39), none, .call 0 [] (.c (.fn 98 [])) [(.t 38)]⟩])
 .skip))
 (.seq (.seq (.reg [⟨(some 40), none, .mov (.t 9)⟩,
  ⟨(some 41), none, .nilck (.t 40)⟩,
  ⟨(some 42), none, .faddr 4 (.t 41)⟩,
  ⟨(some 43), none, .load none (.t 42)⟩,
  ⟨(some 44), none, .eqnil .iface true (.t 43)⟩])
 (.cond (.t 44) (.seq (.reg [⟨(some 45), none, .load (some 7) (.t 6)⟩,
  ⟨(some 46), none, .mov (.t 9)⟩,
  ⟨(some 47), none, .nilck (.t 46)⟩,
  ⟨(some 48), none, .faddr 4 (.t 47)⟩,
  ⟨(some 49), none, .loadX false none (.t 48) [(.t 4)] [(.t 9)]⟩,
  ⟨none, none, .storeX true 7 (.t 4) (.t 45) [(.t 9)] []⟩,
  ⟨(some 5), none, .mov (.t 49)⟩])
 .ret)
 .skip))
 (.seq (.reg [⟨(some 50), none, .load (some 7) (.t 10)⟩,
  ⟨none, none, .store 7 (.t 4) (.t 50)⟩,
  ⟨(some 5), none, .mov (.c .nili)⟩])
 .ret))))))))),
  [.cell 4 (some 7), .t 5], false, false, 51⟩
theorem co61 : compF Tryz.prog ⟨[24], [], [], [], [], [], 61, [], [], [0, 1, 9]⟩ false false Tryz.f61 = some ac61 := by kernel_rfl

/-- (*paideia/parser.parser).expr -/
def ac62 : AF := ⟨(.seq (.reg [⟨(some 2), none, .alloc [(.int .i64 0), (.int .i64 0), (.str []), (.int .i64 0), (.sl .clip []), (.sl .clip []), (.sl .clip [])] false⟩])
 (.seq (.reg [⟨(some 6), none, .mov (.t 0)⟩,
  ⟨(some 7), none, .call 0 [] (.c (.fn 99 [])) [(.t 6)]⟩,
  ⟨(some 3), none, .mov (.t 7)⟩])
 (.seq (.reg [⟨(some 4), none, .mov (.c .nilfn)⟩])
 (.seq (.block 0 (.seq (.reg [⟨(some 11), none, .mov (.t 0)⟩,
  ⟨(some 12), none, .call 0 [] (.c (.fn 100 [])) [(.t 11), (.c (.str [92]))]⟩,
  ⟨(some 10), none, .mov (.t 12)⟩])
 (.cond (.t 10) (.reg [⟨(some 13), none, .mov (.t 0)⟩,
  ⟨(some 14), none, .mkmet 101 [(.t 13)]⟩,
  ⟨(some 4), none, .mov (.t 14)⟩])
 (.seq (.reg [⟨(some 16), none, .mov (.t 0)⟩,
  ⟨(some 17), none, .call 0 [] (.c (.fn 100 [])) [(.t 16), (.c (.str [108, 101, 116]))]⟩,
  ⟨(some 15), none, .mov (.t 17)⟩])
 (.cond (.t 15) (.reg [⟨(some 18), none, .mov (.t 0)⟩,
  ⟨(some 19), none, .mkmet 102 [(.t 18)]⟩,
  ⟨(some 4), none, .mov (.t 19)⟩])
 (.seq (.reg [⟨(some 21), none, .mov (.t 0)⟩,
  ⟨(some 22), none, .call 0 [] (.c (.fn 100 [])) [(.t 21), (.c (.str [99, 97, 115, 101]))]⟩,
  ⟨(some 20), none, .mov (.t 22)⟩])
 (.cond (.t 20) (.reg [⟨(some 23), none, .mov (.t 0)⟩,
  ⟨(some 24), none, .mkmet 103 [(.t 23)]⟩,
  ⟨(some 4), none, .mov (.t 24)⟩])
 (.seq (.reg [⟨(some 26), none, .mov (.t 0)⟩,
  ⟨(some 27), none, .call 0 [] (.c (.fn 100 [])) [(.t 26), (.c (.str [105, 102]))]⟩,
  ⟨(some 25), none, .mov (.t 27)⟩])
 (.cond (.t 25) (.reg [⟨(some 28), none, .mov (.t 0)⟩,
  ⟨(some 29), none, .mkmet 104 [(.t 28)]⟩,
  ⟨(some 4), none, .mov (.t 29)⟩])
 (.seq (.reg [⟨(some 8), none, .mov (.t 0)⟩,
  ⟨(some 9), none, .call 0 [] (.c (.fn 105 [])) [(.t 8)]⟩,
  ⟨none, none, .store 7 (.t 2) (.t 9)⟩])
 .ret))))))))))
 (.seq (.seq (.reg [⟨(some 30), none, .mov (.t 0)⟩,
  ⟨(some 31), none, .mov (.t 3)⟩,
  ⟨(some 32), none, .call 0 [] (.c (.fn 106 [])) [(.t 30), (.t 31)]⟩,
  ⟨(some 33), none, .not (.t 32)⟩])
 (.cond (.t 33) (.seq (.reg [⟨(some 34), none, .build [(.int .i64 0), (.int .i64 0), (.str []), (.int .i64 0), (.sl .clip []), (.sl .clip []), (.sl .clip [])] []⟩,
  ⟨none, none, .store 7 (.t 2) (.t 34)⟩])
 .ret)
 .skip))
 (.seq (.reg [⟨(some 35), none, .mov (.t 0)⟩,
  ⟨(some 36), none, .nilck (.t 35)⟩,
  ⟨(some 37), none, .faddr 1 (.t 36)⟩,
  ⟨(some 38), none, .load none (.t 37)⟩,
  ⟨(some 39), none, .bin .add (.t 38) (.c (.int .i64 1))⟩,
  ⟨(some 40), none, .nilck (.t 35)⟩,
  ⟨(some 41), none, .faddr 1 (.t 40)⟩,
  ⟨none, none, .store 1 (.t 41) (.t 39)⟩])
 (.seq (.reg [⟨(some 42), none, .mov (.t 4)⟩,
  ⟨(some 43), none, .mov (.t 3)⟩,
  ⟨(some 44), none, .call 0 [] (.t 42) [(.t 43)]⟩,
  ⟨(some 5), none, .alloc [(.int .i64 0), (.int .i64 0), (.str []), (.int .i64 0), (.sl .clip []), (.sl .clip []), (.sl .clip [])] false⟩,
  ⟨none, none, .store 7 (.t 5) (.t 44)⟩])
 (.seq (.reg [⟨(some 45), none, .mov (.t 0)⟩,
  ⟨(some 46), none, .nilck (.t 45)⟩,
  ⟨(some 47), none, .faddr 3 (.t 46)⟩,
  ⟨(some 48), none, .load none (.t 47)⟩,
  ⟨(some 49), none, .bin .sub (.t 48) (.c (.int .i64 1))⟩,
  ⟨(some 50), none, .nilck (.t 45)⟩,
  ⟨(some 51), none, .faddr 3 (.t 50)⟩,
  ⟨none, none, .store 1 (.t 51) (.t 49)⟩])
 (.seq (.reg [⟨(some 52), none, .load (some 7) (.t 5)⟩,
  ⟨none, none, .store 7 (.t 2) (.t 52)⟩])
 .ret))))))))),
  [.cell 2 (some 7)], false, false, 53⟩
theorem co62 : compF Tryz.prog ⟨[], [], [], [], [], [], 62, [], [], []⟩ false false Tryz.f62 = some ac62 := by kernel_rfl

/-- slices.EqualFunc[[]paideia/api.Expr,[]paideia/api.Expr,paideia/api.Expr,paideia/api.Expr] -/
def ac63 : AF := ⟨(.seq (.reg [⟨(some 6), none, .mov (.c (.bool false))⟩])
 (.seq (.seq (.reg [⟨(some 10), none, .mov (.t 0)⟩,
  ⟨(some 11), none, .len 1 (.t 10)⟩,
  ⟨(some 12), none, .mov (.t 1)⟩,
  ⟨(some 13), none, .len 1 (.t 12)⟩,
  ⟨(some 14), none, .bin .neq (.t 11) (.t 13)⟩])
 (.cond (.t 14) (.seq (.reg [⟨(some 6), none, .mov (.c (.bool false))⟩])
 .ret)
 .skip))
 (.seq (.seq (.reg [⟨(some 15), none, .mov (.t 0)⟩,
  ⟨(some 16), none, .len 1 (.t 15)⟩,
  ⟨(some 17), none, .mov (.c (.int .i64 0))⟩])
 (.block 0 (.loop [1, 2, 15, 16, 17] [] (.seq (.reg [⟨(some 18), none, .bin .lss (.t 17) (.t 16)⟩])
 (.seq (.cond (.t 18) .skip
 (.exit 0))
 (.seq (.block 1 (.seq (.reg [⟨(some 19), none, .mov (.t 17)⟩,
  ⟨(some 20), none, .iaddr 7 (.t 15) (.t 17)⟩,
  ⟨(some 21), none, .load (some 7) (.t 20)⟩,
  ⟨(some 8), none, .alloc [(.int .i64 0), (.int .i64 0), (.str []), (.int .i64 0), (.sl .clip []), (.sl .clip []), (.sl .clip [])] false⟩,
  ⟨(some 7), none, .mov (.t 19)⟩,
  ⟨none, none, .store 7 (.t 8) (.t 21)⟩])
 (.seq (.reg [⟨(some 22), none, .mov (.t 1)⟩,
  ⟨(some 23), none, .mov (.t 7)⟩,
  ⟨(some 24), none, .iaddr 7 (.t 22) (.t 23)⟩,
  ⟨(some 25), none, .load (some 7) (.t 24)⟩,
  ⟨(some 9), none, .alloc [(.int .i64 0), (.int .i64 0), (.str []), (.int .i64 0), (.sl .clip []), (.sl .clip []), (.sl .clip [])] false⟩,
  ⟨none, none, .store 7 (.t 9) (.t 25)⟩])
 (.seq (.reg [⟨(some 26), none, .mov (.t 2)⟩,
  ⟨(some 27), none, .load (some 7) (.t 8)⟩,
  ⟨(some 28), none, .load (some 7) (.t 9)⟩,
  ⟨(some 29), none, .call 0 [] (.t 26) [(.t 27), (.t 28)]⟩,
  ⟨(some 30), none, .not (.t 29)⟩])
 (.cond (.t 30) (.seq (.reg [⟨(some 6), none, .mov (.c (.bool false))⟩])
 .ret)
 .skip)))))
 (.reg [⟨(some 31), none, .bin .add (.t 17) (.c (.int .i64 1))⟩,
  ⟨(some 17), none, .mov (.t 31)⟩])))))))
 (.seq (.reg [⟨(some 6), none, .mov (.c (.bool true))⟩])
 .ret)))),
  [.t 6], false, true, 32⟩
theorem co63 : compF Tryz.prog ⟨[], [(4, [1, 2, 15, 16, 17], [])], [], [], [], [], 63, [], [], []⟩ false true Tryz.f63 = some ac63 := by kernel_rfl

/-- slices.EqualFunc[[]paideia/api.Alt,[]paideia/api.Alt,paideia/api.Alt,paideia/api.Alt] -/
def ac64 : AF := ⟨(.seq (.reg [⟨(some 6), none, .mov (.c (.bool false))⟩])
 (.seq (.seq (.reg [⟨(some 10), none, .mov (.t 0)⟩,
  ⟨(some 11), none, .len 1 (.t 10)⟩,
  ⟨(some 12), none, .mov (.t 1)⟩,
  ⟨(some 13), none, .len 1 (.t 12)⟩,
  ⟨(some 14), none, .bin .neq (.t 11) (.t 13)⟩])
 (.cond (.t 14) (.seq (.reg [⟨(some 6), none, .mov (.c (.bool false))⟩])
 .ret)
 .skip))
 (.seq (.seq (.reg [⟨(some 15), none, .mov (.t 0)⟩,
  ⟨(some 16), none, .len 1 (.t 15)⟩,
  ⟨(some 17), none, .mov (.c (.int .i64 0))⟩])
 (.block 0 (.loop [1, 2, 15, 16, 17] [] (.seq (.reg [⟨(some 18), none, .bin .lss (.t 17) (.t 16)⟩])
 (.seq (.cond (.t 18) .skip
 (.exit 0))
 (.seq (.block 1 (.seq (.reg [⟨(some 19), none, .mov (.t 17)⟩,
  ⟨(some 20), none, .iaddr 10 (.t 15) (.t 17)⟩,
  ⟨(some 21), none, .load (some 10) (.t 20)⟩,
  ⟨(some 8), none, .alloc [(.str []), (.sl .clip []), (.int .i64 0), (.int .i64 0), (.str []), (.int .i64 0), (.sl .clip []), (.sl .clip []), (.sl .clip []), (.int .i64 0)] false⟩,
  ⟨(some 7), none, .mov (.t 19)⟩,
  ⟨none, none, .store 10 (.t 8) (.t 21)⟩])
 (.seq (.reg [⟨(some 22), none, .mov (.t 1)⟩,
  ⟨(some 23), none, .mov (.t 7)⟩,
  ⟨(some 24), none, .iaddr 10 (.t 22) (.t 23)⟩,
  ⟨(some 25), none, .load (some 10) (.t 24)⟩,
  ⟨(some 9), none, .alloc [(.str []), (.sl .clip []), (.int .i64 0), (.int .i64 0), (.str []), (.int .i64 0), (.sl .clip []), (.sl .clip []), (.sl .clip []), (.int .i64 0)] false⟩,
  ⟨none, none, .store 10 (.t 9) (.t 25)⟩])
 (.seq (.reg [⟨(some 26), none, .mov (.t 2)⟩,
  ⟨(some 27), none, .load (some 10) (.t 8)⟩,
  ⟨(some 28), none, .load (some 10) (.t 9)⟩,
  ⟨(some 29), none, .call 0 [] (.t 26) [(.t 27), (.t 28)]⟩,
  ⟨(some 30), none, .not (.t 29)⟩])
 (.cond (.t 30) (.seq (.reg [⟨(some 6), none, .mov (.c (.bool false))⟩])
 .ret)
 .skip)))))
 (.reg [⟨(some 31), none, .bin .add (.t 17) (.c (.int .i64 1))⟩,
  ⟨(some 17), none, .mov (.t 31)⟩])))))))
 (.seq (.reg [⟨(some 6), none, .mov (.c (.bool true))⟩])
 .ret)))),
  [.t 6], false, true, 32⟩
theorem co64 : compF Tryz.prog ⟨[], [(4, [1, 2, 15, 16, 17], [])], [], [], [], [], 64, [], [], []⟩ false true Tryz.f64 = some ac64 := by kernel_rfl

/-- slices.EqualFunc[[]paideia/api.Bind,[]paideia/api.Bind,paideia/api.Bind,paideia/api.Bind] -/
def ac66 : AF := ⟨(.seq (.reg [⟨(some 6), none, .mov (.c (.bool false))⟩])
 (.seq (.seq (.reg [⟨(some 10), none, .mov (.t 0)⟩,
  ⟨(some 11), none, .len 1 (.t 10)⟩,
  ⟨(some 12), none, .mov (.t 1)⟩,
  ⟨(some 13), none, .len 1 (.t 12)⟩,
  ⟨(some 14), none, .bin .neq (.t 11) (.t 13)⟩])
 (.cond (.t 14) (.seq (.reg [⟨(some 6), none, .mov (.c (.bool false))⟩])
 .ret)
 .skip))
 (.seq (.seq (.reg [⟨(some 15), none, .mov (.t 0)⟩,
  ⟨(some 16), none, .len 1 (.t 15)⟩,
  ⟨(some 17), none, .mov (.c (.int .i64 0))⟩])
 (.block 0 (.loop [1, 2, 15, 16, 17] [] (.seq (.reg [⟨(some 18), none, .bin .lss (.t 17) (.t 16)⟩])
 (.seq (.cond (.t 18) .skip
 (.exit 0))
 (.seq (.block 1 (.seq (.reg [⟨(some 19), none, .mov (.t 17)⟩,
  ⟨(some 20), none, .iaddr 15 (.t 15) (.t 17)⟩,
  ⟨(some 21), none, .load (some 15) (.t 20)⟩,
  ⟨(some 8), none, .alloc [(.str []), (.bool false), (.sl .clip []), (.sl .clip []), (.int .i64 0), (.str []), (.sl .clip []), (.int .i64 0), (.int .i64 0), (.str []), (.int .i64 0), (.sl .clip []), (.sl .clip []), (.sl .clip []), (.int .i64 0)] false⟩,
  ⟨(some 7), none, .mov (.t 19)⟩,
  ⟨none, none, .store 15 (.t 8) (.t 21)⟩])
 (.seq (.reg [⟨(some 22), none, .mov (.t 1)⟩,
  ⟨(some 23), none, .mov (.t 7)⟩,
  ⟨(some 24), none, .iaddr 15 (.t 22) (.t 23)⟩,
  ⟨(some 25), none, .load (some 15) (.t 24)⟩,
  ⟨(some 9), none, .alloc [(.str []), (.bool false), (.sl .clip []), (.sl .clip []), (.int .i64 0), (.str []), (.sl .clip []), (.int .i64 0), (.int .i64 0), (.str []), (.int .i64 0), (.sl .clip []), (.sl .clip []), (.sl .clip []), (.int .i64 0)] false⟩,
  ⟨none, none, .store 15 (.t 9) (.t 25)⟩])
 (.seq (.reg [⟨(some 26), none, .mov (.t 2)⟩,
  ⟨(some 27), none, .load (some 15) (.t 8)⟩,
  ⟨(some 28), none, .load (some 15) (.t 9)⟩,
  ⟨(some 29), none, .call 0 [] (.t 26) [(.t 27), (.t 28)]⟩,
  ⟨(some 30), none, .not (.t 29)⟩])
 (.cond (.t 30) (.seq (.reg [⟨(some 6), none, .mov (.c (.bool false))⟩])
 .ret)
 .skip)))))
 (.reg [⟨(some 31), none, .bin .add (.t 17) (.c (.int .i64 1))⟩,
  ⟨(some 17), none, .mov (.t 31)⟩])))))))
 (.seq (.reg [⟨(some 6), none, .mov (.c (.bool true))⟩])
 .ret)))),
  [.t 6], false, true, 32⟩
theorem co66 : compF Tryz.prog ⟨[], [(4, [1, 2, 15, 16, 17], [])], [], [], [], [], 66, [], [], []⟩ false true Tryz.f66 = some ac66 := by kernel_rfl

/-- paideia/parser.of[paideia/api.Program] -/
def ac68 : AF := ⟨(.seq (.reg [⟨(some 4), none, .alloc [(.sl .clip []), (.sl .clip []), (.sl .clip []), (.sl .clip [])] false⟩,
  ⟨(some 5), none, .mov (.c .nili)⟩])
 (.seq (.reg [⟨(some 6), none, .alloc [(.sl .clip []), (.sl .clip []), (.sl .clip []), (.sl .clip [])] false⟩])
 (.seq (.reg [⟨(some 12), none, .mov (.t 0)⟩,
  ⟨(some 13), none, .call 0 [] (.c (.fn 97 [])) [(.t 12)]⟩,
  ⟨(some 11), none, .mov (.t 13)⟩,
  ⟨(some 14), none, .extract (.t 11) 0⟩,
  ⟨(some 15), none, .extract (.t 11) 1⟩,
  ⟨(some 7), none, .mov (.t 14)⟩,
  ⟨(some 8), none, .mov (.t 15)⟩])
 (.seq (.seq (.reg [⟨(some 16), none, .mov (.t 8)⟩,
  ⟨(some 17), none, .eqnil .iface true (.t 16)⟩])
 (.cond (.t 17) (.seq (.reg [⟨(some 18), none, .load (some 4) (.t 6)⟩,
  ⟨(some 19), none, .mov (.t 8)⟩,
  ⟨none, none, .store 4 (.t 4) (.t 18)⟩,
  ⟨(some 5), none, .mov (.t 19)⟩])
 .ret)
 .skip))
 (.seq (.reg [⟨(some 20), none, .mov (.t 7)⟩,
  ⟨(some 21), none, .mov (.t 0)⟩,
  ⟨(some 22), none, .len 1 (.t 21)⟩,
  ⟨(some 23), none, .build [(.sl .clip []), (.int .i64 0), (.int .i64 0), (.int .i64 0), .nili] [(0, 1, (.t 20)), (2, 1, (.t 22))]⟩,
  ⟨(some 24), none, .box (.t 23) 5 true⟩,
  ⟨(some 9), none, .mov (.t 24)⟩])
 (.seq (.reg [⟨(some 25), none, .mov (.t 1)⟩,
  ⟨(some 26), none, .mov (.t 9)⟩,
  ⟨(some 27), none, .call 0 [] (.t 25) [(.t 26)]⟩,
  ⟨(some 10), none, .alloc [(.sl .clip []), (.sl .clip []), (.sl .clip []), (.sl .clip [])] false⟩,
  ⟨none, none, .store 4 (.t 10) (.t 27)⟩])
 (.seq (.seq (.reg [⟨(some 28), none, .mov (.t 9)⟩,
  ⟨(some 29), none, .nilck (.t 28)⟩,
  ⟨(some 30), none, .faddr 1 (.t 29)⟩,
  ⟨(some 31), none, .load none (.t 30)⟩,
  ⟨(some 32), none, .mov (.t 9)⟩,
  ⟨(some 33), none, .nilck (.t 32)⟩,
  ⟨(some 34), none, .faddr 0 (.t 33)⟩,
  ⟨(some 35), none, .load none (.t 34)⟩,
  ⟨(some 36), none, .len 1 (.t 35)⟩,
  ⟨(some 37), none, .bin .lss (.t 31) (.t 36)⟩])
 (.cond (.t 37) (.reg [⟨(some 38), none, .mov (.t 9)⟩,
  ⟨(some 39), none, .call 0 [] (.c (.fn 98 [])) [(.t 38)]⟩])
 .skip))
 (.seq (.seq (.reg [⟨(some 40), none, .mov (.t 9)⟩,
  ⟨(some 41), none, .nilck (.t 40)⟩,
  ⟨(some 42), none, .faddr 4 (.t 41)⟩,
  ⟨(some 43), none, .load none (.t 42)⟩,
  ⟨(some 44), none, .eqnil .iface true (.t 43)⟩])
 (.cond (.t 44) (.seq (.reg [⟨(some 45), none, .load (some 4) (.t 6)⟩,
  ⟨(some 46), none, .mov (.t 9)⟩,
  ⟨(some 47), none, .nilck (.t 46)⟩,
  ⟨(some 48), none, .faddr 4 (.t 47)⟩,
  ⟨(some 49), none, .loadX false none (.t 48) [(.t 4)] [(.t 9)]⟩,
  ⟨none, none, .storeX true 4 (.t 4) (.t 45) [(.t 9)] []⟩,
  ⟨(some 5), none, .mov (.t 49)⟩])
 .ret)
 .skip))
 (.seq (.reg [⟨(some 50), none, .load (some 4) (.t 10)⟩,
  ⟨none, none, .store 4 (.t 4) (.t 50)⟩,
  ⟨(some 5), none, .mov (.c .nili)⟩])
 .ret))))))))),
  [.cell 4 (some 4), .t 5], false, false, 51⟩
theorem co68 : compF Tryz.prog ⟨[24], [], [], [], [], [], 68, [], [], [0, 1, 9]⟩ false false Tryz.f68 = some ac68 := by kernel_rfl

/-- paideia/parser.Program$1 -/
def ac69 : AF := ⟨(.seq (.reg [⟨(some 1), none, .box (.t 0) 1 true⟩,
  ⟨(some 2), none, .alloc [(.sl .clip []), (.sl .clip []), (.sl .clip []), (.sl .clip [])] false⟩])
 (.seq (.reg [⟨(some 3), none, .alloc [(.sl .clip []), (.sl .clip []), (.sl .clip []), (.sl .clip [])] true⟩])
 (.seq (.reg [⟨(some 4), none, .alloc [(.sl .clip []), (.sl .clip [])] true⟩])
 (.seq (.reg [⟨(some 5), none, .load none (.t 1)⟩,
  ⟨(some 6), none, .mkfn 71 [(.t 1), (.t 3), (.t 4)]⟩,
  ⟨(some 7), none, .mkfn 73 [(.t 1)]⟩,
  ⟨(some 8), none, .call 0 [] (.c (.fn 70 [])) [(.t 5), (.t 6), (.t 7)]⟩])
 (.seq (.reg [⟨(some 9), none, .load none (.t 1)⟩,
  ⟨(some 10), none, .load (some 2) (.t 4)⟩,
  ⟨(some 11), none, .call 0 [] (.c (.fn 74 [])) [(.t 9), (.t 10)]⟩,
  ⟨(some 12), none, .faddr 3 (.t 3)⟩,
  ⟨none, none, .store 1 (.t 12) (.t 11)⟩])
 (.seq (.reg [⟨(some 13), none, .load (some 4) (.t 3)⟩,
  ⟨none, none, .store 4 (.t 2) (.t 13)⟩])
 .ret)))))),
  [.cell 2 (some 4)], false, false, 14⟩
theorem co69 : compF Tryz.prog ⟨[1, 3, 4], [], [], [], [], [], 69, [], [], []⟩ false false Tryz.f69 = some ac69 := by kernel_rfl

/-- (*paideia/parser.parser).rows -/
def ac70 : AF := ⟨(.block 0 (.loop [0, 1, 2] [] (.seq (.seq (.reg [⟨(some 6), none, .mov (.t 0)⟩,
  ⟨(some 7), none, .nilck (.t 6)⟩,
  ⟨(some 8), none, .faddr 4 (.t 7)⟩,
  ⟨(some 9), none, .load none (.t 8)⟩,
  ⟨(some 10), none, .eqnil .iface false (.t 9)⟩])
 (.cond (.t 10) .skip
 (.exit 0)))
 (.block 1 (.seq (.block 2 (.loop [0, 1, 2] [] (.seq (.seq (.reg [⟨(some 11), none, .mov (.t 0)⟩,
  ⟨(some 12), none, .call 0 [] (.c (.fn 109 [])) [(.t 11), (.c (.str [59]))]⟩])
 (.cond (.t 12) .skip
 (.exit 2)))
 (.block 3 .skip))))
 (.seq (.seq (.reg [⟨(some 13), none, .mov (.t 2)⟩,
  ⟨(some 14), none, .call 0 [] (.t 13) []⟩])
 (.cond (.t 14) .ret
 .skip))
 (.seq (.reg [⟨(some 15), none, .mov (.t 1)⟩,
  ⟨(some 16), none, .call 0 [] (.t 15) []⟩])
 (.seq (.reg [⟨(some 17), none, .mov (.t 0)⟩,
  ⟨(some 18), none, .call 0 [] (.c (.fn 100 [])) [(.t 17), (.c (.str [59]))]⟩,
  ⟨(some 19), none, .not (.t 18)⟩,
  ⟨(some 20), none, .mov (.t 19)⟩,
  ⟨(some 21), (some (20, true)), .mov (.t 2)⟩,
  ⟨(some 22), (some (20, true)), .call 0 [] (.t 21) []⟩,
  ⟨(some 23), (some (20, true)), .not (.t 22)⟩,
  ⟨(some 24), none, .pick (.t 20) (.t 23) (.c (.bool false))⟩])
 (.cond (.t 24) (.reg [⟨(some 25), none, .mov (.t 0)⟩,
  ⟨(some 26), none, .call 0 [] (.c (.fn 98 [])) [(.t 25)]⟩])
 .skip))))))))),
  [], false, false, 27⟩
theorem co70 : compF Tryz.prog ⟨[], [(0, [0, 1, 2], []), (1, [0, 1, 2], [])], [], [], [], [], 70, [], [], []⟩ false false Tryz.f70 = some ac70 := by kernel_rfl

/-- paideia/parser.Program$1$1 -/
def ac71 : AF := ⟨(.reg [⟨(some 3), none, .load none (.t 0)⟩,
  ⟨(some 4), none, .call 0 [] (.c (.fn 72 [])) [(.t 3), (.t 1), (.t 2)]⟩]),
  [], false, false, 5⟩
theorem co71 : compF Tryz.prog ⟨[], [], [], [], [], [], 71, [], [], []⟩ false false Tryz.f71 = some ac71 := by kernel_rfl

/-- (*paideia/parser.parser).declaration -/
def ac72 : AF := ⟨(.seq (.reg [⟨(some 7), none, .mov (.t 0)⟩,
  ⟨(some 8), none, .call 0 [] (.c (.fn 99 [])) [(.t 7)]⟩,
  ⟨(some 6), none, .mov (.t 8)⟩])
 (.block 0 (.seq (.reg [⟨(some 13), none, .mov (.t 0)⟩,
  ⟨(some 14), none, .call 0 [] (.c (.fn 109 [])) [(.t 13), (.c (.str [100, 97, 116, 97]))]⟩,
  ⟨(some 12), none, .mov (.t 14)⟩])
 (.cond (.t 12) (.reg [⟨(some 15), none, .mov (.t 1)⟩,
  ⟨(some 16), none, .mov (.t 1)⟩,
  ⟨(some 17), none, .nilck (.t 16)⟩,
  ⟨(some 18), none, .faddr 0 (.t 17)⟩,
  ⟨(some 19), none, .loadX false none (.t 18) [] [(.t 1)]⟩,
  ⟨(some 20), none, .mov (.t 0)⟩,
  ⟨(some 21), none, .mov (.t 6)⟩,
  ⟨(some 22), none, .callK 0 [] (.c (.fn 110 [])) [(.t 20), (.t 21)] [(.t 1)]⟩,
  ⟨(some 23), none, .bslice [(.str []), (.sl .clip []), (.sl .clip []), (.sl .clip []), (.int .i64 0)] 1 [(0, (.t 22))]⟩,
  ⟨(some 24), none, .append 5 (.t 19) (.t 23)⟩,
  ⟨(some 25), none, .nilck (.t 15)⟩,
  ⟨(some 26), none, .faddr 0 (.t 25)⟩,
  ⟨none, none, .store 1 (.t 26) (.t 24)⟩])
 (.seq (.reg [⟨(some 28), none, .mov (.t 0)⟩,
  ⟨(some 29), none, .call 0 [] (.c (.fn 109 [])) [(.t 28), (.c (.str [99, 108, 97, 115, 115]))]⟩,
  ⟨(some 27), none, .mov (.t 29)⟩])
 (.cond (.t 27) (.reg [⟨(some 30), none, .mov (.t 1)⟩,
  ⟨(some 31), none, .mov (.t 1)⟩,
  ⟨(some 32), none, .nilck (.t 31)⟩,
  ⟨(some 33), none, .faddr 1 (.t 32)⟩,
  ⟨(some 34), none, .loadX false none (.t 33) [] [(.t 1)]⟩,
  ⟨(some 35), none, .mov (.t 0)⟩,
  ⟨(some 36), none, .mov (.t 6)⟩,
  ⟨(some 37), none, .callK 0 [] (.c (.fn 111 [])) [(.t 35), (.t 36)] [(.t 1)]⟩,
  ⟨(some 38), none, .bslice [(.str []), (.str []), (.sl .clip []), (.sl .clip []), (.sl .clip []), (.int .i64 0)] 1 [(0, (.t 37))]⟩,
  ⟨(some 39), none, .append 6 (.t 34) (.t 38)⟩,
  ⟨(some 40), none, .nilck (.t 30)⟩,
  ⟨(some 41), none, .faddr 1 (.t 40)⟩,
  ⟨none, none, .store 1 (.t 41) (.t 39)⟩])
 (.seq (.reg [⟨(some 43), none, .mov (.t 0)⟩,
  ⟨(some 44), none, .call 0 [] (.c (.fn 109 [])) [(.t 43), (.c (.str [105, 110, 115, 116, 97, 110, 99, 101]))]⟩,
  ⟨(some 42), none, .mov (.t 44)⟩])
 (.cond (.t 42) (.reg [⟨(some 45), none, .mov (.t 1)⟩,
  ⟨(some 46), none, .mov (.t 1)⟩,
  ⟨(some 47), none, .nilck (.t 46)⟩,
  ⟨(some 48), none, .faddr 2 (.t 47)⟩,
  ⟨(some 49), none, .loadX false none (.t 48) [] [(.t 1)]⟩,
  ⟨(some 50), none, .mov (.t 0)⟩,
  ⟨(some 51), none, .mov (.t 6)⟩,
  ⟨(some 52), none, .callK 0 [] (.c (.fn 112 [])) [(.t 50), (.t 51)] [(.t 1)]⟩,
  ⟨(some 53), none, .bslice [(.str []), (.str []), (.sl .clip []), (.sl .clip []), (.sl .clip []), (.int .i64 0)] 1 [(0, (.t 52))]⟩,
  ⟨(some 54), none, .append 6 (.t 49) (.t 53)⟩,
  ⟨(some 55), none, .nilck (.t 45)⟩,
  ⟨(some 56), none, .faddr 2 (.t 55)⟩,
  ⟨none, none, .store 1 (.t 56) (.t 54)⟩])
 (.reg [⟨(some 9), none, .mov (.t 0)⟩,
  ⟨(some 10), none, .mov (.t 2)⟩,
  ⟨(some 11), none, .call 0 [] (.c (.fn 113 [])) [(.t 9), (.t 10), (.c (.bool true))]⟩]))))))))),
  [], false, false, 57⟩
theorem co72 : compF Tryz.prog ⟨[], [], [], [], [], [], 72, [], [], [0, 1, 2]⟩ false false Tryz.f72 = some ac72 := by kernel_rfl

/-- paideia/parser.Program$1$2 -/
def ac73 : AF := ⟨(.seq (.reg [⟨(some 1), none, .mov (.c (.bool false))⟩])
 (.seq (.reg [⟨(some 2), none, .load none (.t 0)⟩,
  ⟨(some 3), none, .nilck (.t 2)⟩,
  ⟨(some 4), none, .faddr 1 (.t 3)⟩,
  ⟨(some 5), none, .load none (.t 4)⟩,
  ⟨(some 6), none, .load none (.t 0)⟩,
  ⟨(some 7), none, .nilck (.t 6)⟩,
  ⟨(some 8), none, .faddr 0 (.t 7)⟩,
  ⟨(some 9), none, .load none (.t 8)⟩,
  ⟨(some 10), none, .len 1 (.t 9)⟩,
  ⟨(some 11), none, .bin .geq (.t 5) (.t 10)⟩,
  ⟨(some 1), none, .mov (.t 11)⟩])
 .ret)),
  [.t 1], false, false, 12⟩
theorem co73 : compF Tryz.prog ⟨[], [], [], [], [], [], 73, [], [], [0]⟩ false false Tryz.f73 = some ac73 := by kernel_rfl

/-- (*paideia/parser.parser).signed -/
def ac74 : AF := ⟨(.seq (.reg [⟨(some 3), none, .box (.t 1) 2 false⟩,
  ⟨(some 4), none, .mov (.c (.sl .clip []))⟩])
 (.seq (.seq (.reg [⟨(some 8), none, .mov (.t 0)⟩,
  ⟨(some 9), none, .nilck (.t 8)⟩,
  ⟨(some 10), none, .faddr 4 (.t 9)⟩,
  ⟨(some 11), none, .load none (.t 10)⟩,
  ⟨(some 12), none, .eqnil .iface true (.t 11)⟩])
 (.cond (.t 12) (.seq (.reg [⟨(some 4), none, .mov (.c (.sl .clip []))⟩])
 .ret)
 .skip))
 (.seq (.seq (.reg [⟨(some 13), none, .faddr 0 (.t 3)⟩,
  ⟨(some 14), none, .load none (.t 13)⟩,
  ⟨(some 15), none, .len 1 (.t 14)⟩,
  ⟨(some 16), none, .mov (.c (.int .i64 0))⟩])
 (.block 0 (.loop [0, 14, 15, 16] [3] (.seq (.reg [⟨(some 17), none, .bin .lss (.t 16) (.t 15)⟩])
 (.seq (.cond (.t 17) .skip
 (.exit 0))
 (.seq (.block 1 (.seq (.reg [⟨(some 18), none, .mov (.t 16)⟩,
  ⟨(some 19), none, .iaddr 7 (.t 14) (.t 16)⟩,
  ⟨(some 20), none, .load (some 7) (.t 19)⟩,
  ⟨(some 6), none, .alloc [(.str []), (.int .i64 0), (.sl .clip []), (.sl .clip []), (.int .i64 0), (.str []), (.sl .clip [])] true⟩,
  ⟨(some 5), none, .mov (.t 18)⟩,
  ⟨none, none, .store 7 (.t 6) (.t 20)⟩])
 (.seq (.reg [⟨(some 21), none, .faddr 1 (.t 3)⟩,
  ⟨(some 22), none, .load none (.t 21)⟩,
  ⟨(some 23), none, .mkfn 115 [(.t 6)]⟩,
  ⟨(some 24), none, .call 0 [] (.c (.fn 114 [])) [(.t 22), (.t 23)]⟩,
  ⟨(some 7), none, .mov (.t 24)⟩])
 (.seq (.seq (.reg [⟨(some 25), none, .mov (.t 7)⟩,
  ⟨(some 26), none, .bin .lss (.t 25) (.c (.int .i64 0))⟩,
  ⟨(some 27), none, .mov (.t 26)⟩,
  ⟨(some 28), (some (27, false)), .faddr 0 (.t 3)⟩,
  ⟨(some 29), (some (27, false)), .load none (.t 28)⟩,
  ⟨(some 30), (some (27, false)), .mov (.t 5)⟩,
  ⟨(some 31), (some (27, false)), .slice 7 (.t 29) none (some (.t 30)) none⟩,
  ⟨(some 32), (some (27, false)), .mkfn 117 [(.t 6)]⟩,
  ⟨(some 33), (some (27, false)), .call 0 [] (.c (.fn 116 [])) [(.t 31), (.t 32)]⟩,
  ⟨(some 34), none, .pick (.t 27) (.c (.bool true)) (.t 33)⟩])
 (.cond (.t 34) (.seq (.reg [⟨(some 35), none, .mov (.t 0)⟩,
  ⟨(some 36), none, .faddr 1 (.t 6)⟩,
  ⟨(some 37), none, .load none (.t 36)⟩,
  ⟨(some 38), none, .gload 3⟩,
  ⟨(some 39), none, .call 0 [] (.c (.fn 118 [])) [(.t 35), (.t 37), (.t 38)]⟩])
 (.seq (.reg [⟨(some 4), none, .mov (.c (.sl .clip []))⟩])
 .ret))
 .skip))
 (.reg [⟨(some 40), none, .faddr 1 (.t 3)⟩,
  ⟨(some 41), none, .load none (.t 40)⟩,
  ⟨(some 42), none, .mov (.t 7)⟩,
  ⟨(some 43), none, .faddr 1 (.t 3)⟩,
  ⟨(some 44), none, .loadX true none (.t 43) [] [(.t 3)]⟩,
  ⟨(some 45), none, .mov (.t 7)⟩,
  ⟨(some 46), none, .faddr 2 (.t 6)⟩,
  ⟨(some 47), none, .loadX false (some 5) (.t 46) [] [(.t 6)]⟩,
  ⟨(some 48), none, .iaddr 15 (.t 41) (.t 42)⟩,
  ⟨(some 49), none, .faddr 1 (.t 48)⟩,
  ⟨none, none, .storeX false 1 (.t 49) (.c (.bool true)) [(.t 3), (.t 6)] []⟩,
  ⟨(some 50), none, .iaddr 15 (.t 44) (.t 45)⟩,
  ⟨(some 51), none, .faddr 2 (.t 50)⟩,
  ⟨none, none, .store 5 (.t 51) (.t 47)⟩])))))
 (.reg [⟨(some 52), none, .bin .add (.t 16) (.c (.int .i64 1))⟩,
  ⟨(some 16), none, .mov (.t 52)⟩])))))))
 (.seq (.reg [⟨(some 53), none, .faddr 1 (.t 3)⟩,
  ⟨(some 54), none, .load none (.t 53)⟩,
  ⟨(some 4), none, .mov (.t 54)⟩])
 .ret)))),
  [.t 4], false, false, 55⟩
theorem co74 : compF Tryz.prog ⟨[6], [(4, [0, 14, 15, 16], [3])], [], [3], [], [], 74, [], [], [0, 1, 48, 50]⟩ false false Tryz.f74 = some ac74 := by kernel_rfl

/-- paideia/printer.Scheme -/
def ac75 : AF := ⟨(.seq (.reg [⟨(some 1), none, .box (.t 0) 5 false⟩,
  ⟨(some 2), none, .mov (.c (.str []))⟩])
 (.seq (.reg [⟨(some 3), none, .faddr 1 (.t 1)⟩,
  ⟨(some 4), none, .load none (.t 3)⟩,
  ⟨(some 5), none, .call 0 [] (.c (.fn 119 [])) [(.t 4)]⟩,
  ⟨(some 6), none, .faddr 2 (.t 1)⟩,
  ⟨(some 7), none, .loadL (some 3) (.t 6)⟩,
  ⟨(some 8), none, .call 0 [] (.c (.fn 120 [])) [(.t 7)]⟩,
  ⟨(some 9), none, .bin .add (.t 5) (.t 8)⟩,
  ⟨(some 2), none, .mov (.t 9)⟩])
 .ret)),
  [.t 2], false, true, 10⟩
theorem co75 : compF Tryz.prog ⟨[], [], [], [], [], [], 75, [], [], [0]⟩ false true Tryz.f75 = some ac75 := by kernel_rfl

/-- slices.Contains[[]string,string] -/
def ac88 : AF := ⟨(.seq (.reg [⟨(some 4), none, .mov (.c (.bool false))⟩])
 (.seq (.reg [⟨(some 5), none, .mov (.t 0)⟩,
  ⟨(some 6), none, .mov (.t 1)⟩,
  ⟨(some 7), none, .call 0 [] (.c (.fn 136 [])) [(.t 5), (.t 6)]⟩,
  ⟨(some 8), none, .bin .geq (.t 7) (.c (.int .i64 0))⟩,
  ⟨(some 4), none, .mov (.t 8)⟩])
 .ret)),
  [.t 4], false, true, 9⟩
theorem co88 : compF Tryz.prog ⟨[], [], [], [], [], [], 88, [], [], []⟩ false true Tryz.f88 = some ac88 := by kernel_rfl

/-- paideia/types.Con -/
def ac94 : AF := ⟨(.seq (.reg [⟨(some 4), none, .alloc [(.int .i64 0), (.str []), (.sl .clip [])] false⟩])
 (.seq (.reg [⟨(some 5), none, .mov (.t 0)⟩,
  ⟨(some 6), none, .mov (.t 1)⟩,
  ⟨(some 7), none, .call 0 [] (.c (.fn 139 [])) [(.t 6)]⟩,
  ⟨(some 8), none, .build [(.int .i64 0), (.str []), (.sl .clip [])] [(0, 1, (.c (.int .i64 2))), (1, 1, (.t 5)), (2, 1, (.t 7))]⟩,
  ⟨none, none, .store 3 (.t 4) (.t 8)⟩])
 .ret)),
  [.cell 4 (some 3)], false, true, 9⟩
theorem co94 : compF Tryz.prog ⟨[], [], [], [], [], [], 94, [], [], []⟩ false true Tryz.f94 = some ac94 := by kernel_rfl

/-- paideia/lexer.Split: round 0 -/
def ab97_0 : AB := ⟨[9, 10], (.seq (.reg [⟨(some 5), none, .alloc [(.int .i64 0), (.int .i64 0), (.str []), (.int .i64 0)] false⟩,
  ⟨none, none, .store 4 (.t 5) (.t 9)⟩])
 (.reg [⟨(some 6), none, .mov (.t 10)⟩])),
 (.block 1 (.seq (.seq (.reg [⟨(some 11), none, .mov (.t 6)⟩,
  ⟨(some 12), none, .eqnil .iface true (.t 11)⟩])
 (.cond (.t 12) (.seq (.reg [⟨(some 13), none, .mov (.t 6)⟩,
  ⟨none, none, .store 1 (.t 2) (.c (.sl .clip []))⟩,
  ⟨none, none, .store 1 (.t 3) (.t 13)⟩])
 .ret)
 .skip))
 (.reg [⟨(some 14), none, .load none (.t 4)⟩,
  ⟨(some 15), none, .load (some 4) (.t 5)⟩,
  ⟨(some 16), none, .bslice [(.int .i64 0), (.int .i64 0), (.str []), (.int .i64 0)] 1 [(0, (.t 15))]⟩,
  ⟨(some 17), none, .append 4 (.t 14) (.t 16)⟩,
  ⟨none, none, .store 1 (.t 4) (.t 17)⟩])))⟩
theorem cb97_0 : ((Tryz.f97.body.bind fun c => ((rfs c)[6208 % 64]?).map fun t => (t.1, t.2.1, t.2.2, Tryz.f97.ntmps)).bind (compB Tryz.prog ⟨[], [], [], [], [], [], 97, [], [], []⟩)) = some ab97_0 := by kernel_rfl

/-- paideia/lexer.Split -/
def ac97 : AF := ⟨(.seq (.reg [⟨(some 2), none, .alloc [(.sl .clip [])] true⟩,
  ⟨(some 3), none, .alloc [.nili] true⟩])
 (.seq (.reg [⟨(some 4), none, .alloc [(.sl .clip [])] true⟩])
 (.seq (.seq (.reg [⟨(some 7), none, .mov (.t 0)⟩,
  ⟨(some 8), none, .call 0 [] (.c (.fn 140 [])) [(.t 7)]⟩])
 (.block 0 (.rfunc (.t 8) 6208 [2, 3, 4] [189])))
 (.seq (.reg [⟨(some 18), none, .load none (.t 4)⟩,
  ⟨none, none, .store 1 (.t 2) (.t 18)⟩,
  ⟨none, none, .store 1 (.t 3) (.c .nili)⟩])
 .ret)))),
  [.cell 2 none, .cell 3 none], false, false, 19⟩
theorem co97 : compF Tryz.prog ⟨[2, 3, 4], [], [], [], [], [], 97, [(0, [2, 3, 4])], [189], []⟩ false false Tryz.f97 = some ac97 := by kernel_rfl

/-- (*paideia/parser.parser).amiss -/
def ac98 : AF := ⟨(.reg [⟨(some 2), none, .mov (.t 0)⟩,
  ⟨(some 3), none, .mov (.t 0)⟩,
  ⟨(some 4), none, .call 0 [] (.c (.fn 99 [])) [(.t 3)]⟩,
  ⟨(some 5), none, .gload 3⟩,
  ⟨(some 6), none, .call 0 [] (.c (.fn 118 [])) [(.t 2), (.t 4), (.t 5)]⟩]),
  [], false, false, 7⟩
theorem co98 : compF Tryz.prog ⟨[], [], [], [3], [], [], 98, [], [], [0]⟩ false false Tryz.f98 = some ac98 := by kernel_rfl

/-- (*paideia/parser.parser).pos -/
def ac99 : AF := ⟨(.seq (.reg [⟨(some 2), none, .mov (.c (.int .i64 0))⟩])
 (.seq (.seq (.reg [⟨(some 3), none, .mov (.t 0)⟩,
  ⟨(some 4), none, .nilck (.t 3)⟩,
  ⟨(some 5), none, .faddr 1 (.t 4)⟩,
  ⟨(some 6), none, .load none (.t 5)⟩,
  ⟨(some 7), none, .mov (.t 0)⟩,
  ⟨(some 8), none, .nilck (.t 7)⟩,
  ⟨(some 9), none, .faddr 0 (.t 8)⟩,
  ⟨(some 10), none, .load none (.t 9)⟩,
  ⟨(some 11), none, .len 1 (.t 10)⟩,
  ⟨(some 12), none, .bin .lss (.t 6) (.t 11)⟩])
 (.cond (.t 12) (.seq (.reg [⟨(some 13), none, .mov (.t 0)⟩,
  ⟨(some 14), none, .nilck (.t 13)⟩,
  ⟨(some 15), none, .faddr 0 (.t 14)⟩,
  ⟨(some 16), none, .load none (.t 15)⟩,
  ⟨(some 17), none, .mov (.t 0)⟩,
  ⟨(some 18), none, .nilck (.t 17)⟩,
  ⟨(some 19), none, .faddr 1 (.t 18)⟩,
  ⟨(some 20), none, .load none (.t 19)⟩,
  ⟨(some 21), none, .iaddr 4 (.t 16) (.t 20)⟩,
  ⟨(some 22), none, .faddr 1 (.t 21)⟩,
  ⟨(some 23), none, .load none (.t 22)⟩,
  ⟨(some 2), none, .mov (.t 23)⟩])
 .ret)
 .skip))
 (.seq (.reg [⟨(some 24), none, .mov (.t 0)⟩,
  ⟨(some 25), none, .nilck (.t 24)⟩,
  ⟨(some 26), none, .faddr 2 (.t 25)⟩,
  ⟨(some 27), none, .load none (.t 26)⟩,
  ⟨(some 2), none, .mov (.t 27)⟩])
 .ret))),
  [.t 2], false, false, 28⟩
theorem co99 : compF Tryz.prog ⟨[], [], [], [], [], [], 99, [], [], [0]⟩ false false Tryz.f99 = some ac99 := by kernel_rfl

/-- (*paideia/parser.parser).is -/
def ac100 : AF := ⟨(.seq (.reg [⟨(some 4), none, .mov (.c (.bool false))⟩])
 (.seq (.reg [⟨(some 5), none, .mov (.t 0)⟩,
  ⟨(some 6), none, .call 0 [] (.c (.fn 142 [])) [(.t 5), (.c (.int .i64 0))]⟩,
  ⟨(some 7), none, .mov (.t 1)⟩,
  ⟨(some 8), none, .call 0 [] (.c (.fn 141 [])) [(.t 6), (.t 7)]⟩,
  ⟨(some 4), none, .mov (.t 8)⟩])
 .ret)),
  [.t 4], false, false, 9⟩
theorem co100 : compF Tryz.prog ⟨[], [], [], [], [], [], 100, [], [], []⟩ false false Tryz.f100 = some ac100 := by kernel_rfl

/-- (*paideia/parser.parser).lambda -/
def ac101 : AF := ⟨(.seq (.reg [⟨(some 4), none, .alloc [(.int .i64 0), (.int .i64 0), (.str []), (.int .i64 0), (.sl .clip []), (.sl .clip []), (.sl .clip [])] false⟩])
 (.seq (.reg [⟨(some 6), none, .mov (.t 0)⟩,
  ⟨(some 7), none, .call 0 [] (.c (.fn 143 [])) [(.t 6), (.c (.int .i64 1))]⟩,
  ⟨(some 8), none, .field 2 none (.t 7)⟩,
  ⟨(some 9), none, .bslice [(.str [])] 1 [(0, (.t 8))]⟩,
  ⟨(some 5), none, .mov (.t 9)⟩])
 (.seq (.reg [⟨(some 10), none, .mov (.t 5)⟩,
  ⟨(some 11), none, .mov (.t 0)⟩,
  ⟨(some 12), none, .call 0 [] (.c (.fn 144 [])) [(.t 11)]⟩,
  ⟨(some 13), none, .append 1 (.t 10) (.t 12)⟩,
  ⟨(some 5), none, .mov (.t 13)⟩])
 (.seq (.reg [⟨(some 14), none, .mov (.t 0)⟩,
  ⟨(some 15), none, .call 0 [] (.c (.fn 145 [])) [(.t 14), (.c (.str [45, 62]))]⟩])
 (.seq (.reg [⟨(some 16), none, .mov (.t 1)⟩,
  ⟨(some 17), none, .mov (.t 5)⟩,
  ⟨(some 18), none, .mov (.t 0)⟩,
  ⟨(some 19), none, .call 0 [] (.c (.fn 62 [])) [(.t 18)]⟩,
  ⟨(some 20), none, .call 0 [] (.c (.fn 146 [])) [(.t 16), (.t 17), (.t 19)]⟩,
  ⟨none, none, .store 7 (.t 4) (.t 20)⟩])
 .ret))))),
  [.cell 4 (some 7)], false, false, 21⟩
theorem co101 : compF Tryz.prog ⟨[], [], [], [], [], [], 101, [], [], []⟩ false false Tryz.f101 = some ac101 := by kernel_rfl

/-- (*paideia/parser.parser).let -/
def ac102 : AF := ⟨(.seq (.reg [⟨(some 2), none, .box (.t 0) 1 true⟩,
  ⟨(some 4), none, .alloc [(.int .i64 0), (.int .i64 0), (.str []), (.int .i64 0), (.sl .clip []), (.sl .clip []), (.sl .clip [])] false⟩])
 (.seq (.reg [⟨(some 5), none, .alloc [(.sl .clip []), (.sl .clip [])] true⟩])
 (.seq (.reg [⟨(some 7), none, .load none (.t 2)⟩,
  ⟨(some 8), none, .mkfn 148 [(.t 2), (.t 5)]⟩,
  ⟨(some 9), none, .call 0 [] (.c (.fn 147 [])) [(.t 7), (.t 8)]⟩])
 (.seq (.reg [⟨(some 10), none, .load none (.t 2)⟩,
  ⟨(some 11), none, .load (some 2) (.t 5)⟩,
  ⟨(some 12), none, .call 0 [] (.c (.fn 74 [])) [(.t 10), (.t 11)]⟩,
  ⟨(some 6), none, .mov (.t 12)⟩])
 (.seq (.reg [⟨(some 13), none, .load none (.t 2)⟩,
  ⟨(some 14), none, .call 0 [] (.c (.fn 145 [])) [(.t 13), (.c (.str [105, 110]))]⟩])
 (.seq (.reg [⟨(some 15), none, .mov (.t 1)⟩,
  ⟨(some 16), none, .load none (.t 2)⟩,
  ⟨(some 17), none, .call 0 [] (.c (.fn 62 [])) [(.t 16)]⟩,
  ⟨(some 18), none, .bslice [(.int .i64 0), (.int .i64 0), (.str []), (.int .i64 0), (.sl .clip []), (.sl .clip []), (.sl .clip [])] 1 [(0, (.t 17))]⟩,
  ⟨(some 19), none, .mov (.t 6)⟩,
  ⟨(some 20), none, .build [(.int .i64 0), (.int .i64 0), (.str []), (.int .i64 0), (.sl .clip []), (.sl .clip []), (.sl .clip [])] [(0, 1, (.c (.int .i64 7))), (1, 1, (.t 15)), (4, 1, (.t 18)), (6, 1, (.t 19))]⟩,
  ⟨none, none, .store 7 (.t 4) (.t 20)⟩])
 .ret)))))),
  [.cell 4 (some 7)], false, false, 21⟩
theorem co102 : compF Tryz.prog ⟨[2, 5], [], [], [], [], [], 102, [], [], []⟩ false false Tryz.f102 = some ac102 := by kernel_rfl

/-- (*paideia/parser.parser).cases -/
def ac103 : AF := ⟨(.seq (.reg [⟨(some 2), none, .box (.t 0) 1 true⟩,
  ⟨(some 4), none, .alloc [(.int .i64 0), (.int .i64 0), (.str []), (.int .i64 0), (.sl .clip []), (.sl .clip []), (.sl .clip [])] false⟩])
 (.seq (.reg [⟨(some 7), none, .load none (.t 2)⟩,
  ⟨(some 8), none, .call 0 [] (.c (.fn 62 [])) [(.t 7)]⟩,
  ⟨(some 5), none, .alloc [(.int .i64 0), (.int .i64 0), (.str []), (.int .i64 0), (.sl .clip []), (.sl .clip []), (.sl .clip [])] false⟩,
  ⟨none, none, .store 7 (.t 5) (.t 8)⟩])
 (.seq (.reg [⟨(some 9), none, .load none (.t 2)⟩,
  ⟨(some 10), none, .call 0 [] (.c (.fn 145 [])) [(.t 9), (.c (.str [111, 102]))]⟩])
 (.seq (.reg [⟨(some 6), none, .alloc [(.sl .clip [])] true⟩])
 (.seq (.reg [⟨(some 11), none, .load none (.t 2)⟩,
  ⟨(some 12), none, .mkfn 149 [(.t 6), (.t 2)]⟩,
  ⟨(some 13), none, .call 0 [] (.c (.fn 147 [])) [(.t 11), (.t 12)]⟩])
 (.seq (.reg [⟨(some 14), none, .mov (.t 1)⟩,
  ⟨(some 15), none, .load (some 7) (.t 5)⟩,
  ⟨(some 16), none, .bslice [(.int .i64 0), (.int .i64 0), (.str []), (.int .i64 0), (.sl .clip []), (.sl .clip []), (.sl .clip [])] 1 [(0, (.t 15))]⟩,
  ⟨(some 17), none, .load none (.t 6)⟩,
  ⟨(some 18), none, .build [(.int .i64 0), (.int .i64 0), (.str []), (.int .i64 0), (.sl .clip []), (.sl .clip []), (.sl .clip [])] [(0, 1, (.c (.int .i64 8))), (1, 1, (.t 14)), (4, 1, (.t 16)), (5, 1, (.t 17))]⟩,
  ⟨none, none, .store 7 (.t 4) (.t 18)⟩])
 .ret)))))),
  [.cell 4 (some 7)], false, false, 19⟩
theorem co103 : compF Tryz.prog ⟨[2, 6], [], [], [], [], [], 103, [], [], []⟩ false false Tryz.f103 = some ac103 := by kernel_rfl

/-- (*paideia/parser.parser).compared -/
def ac105 : AF := ⟨(.seq (.reg [⟨(some 2), none, .alloc [(.int .i64 0), (.int .i64 0), (.str []), (.int .i64 0), (.sl .clip []), (.sl .clip []), (.sl .clip [])] false⟩])
 (.seq (.reg [⟨(some 4), none, .mov (.t 0)⟩,
  ⟨(some 5), none, .call 0 [] (.c (.fn 151 [])) [(.t 4)]⟩,
  ⟨(some 3), none, .alloc [(.int .i64 0), (.int .i64 0), (.str []), (.int .i64 0), (.sl .clip []), (.sl .clip []), (.sl .clip [])] false⟩,
  ⟨none, none, .store 7 (.t 3) (.t 5)⟩])
 (.seq (.seq (.reg [⟨(some 6), none, .mov (.t 0)⟩,
  ⟨(some 7), none, .bslice [(.str [])] 6 [(0, (.c (.str [61, 61]))), (1, (.c (.str [47, 61]))), (2, (.c (.str [60]))), (3, (.c (.str [60, 61]))), (4, (.c (.str [62]))), (5, (.c (.str [62, 61])))]⟩,
  ⟨(some 8), none, .call 0 [] (.c (.fn 152 [])) [(.t 6), (.t 7)]⟩])
 (.cond (.t 8) (.reg [⟨(some 9), none, .mov (.t 0)⟩,
  ⟨(some 10), none, .load (some 7) (.t 3)⟩,
  ⟨(some 11), none, .mov (.t 0)⟩,
  ⟨(some 12), none, .mkmet 151 [(.t 11)]⟩,
  ⟨(some 13), none, .call 0 [] (.c (.fn 153 [])) [(.t 9), (.t 10), (.t 12)]⟩,
  ⟨none, none, .store 7 (.t 3) (.t 13)⟩])
 .skip))
 (.seq (.reg [⟨(some 14), none, .load (some 7) (.t 3)⟩,
  ⟨none, none, .store 7 (.t 2) (.t 14)⟩])
 .ret)))),
  [.cell 2 (some 7)], false, false, 15⟩
theorem co105 : compF Tryz.prog ⟨[], [], [], [], [], [], 105, [], [], []⟩ false false Tryz.f105 = some ac105 := by kernel_rfl

/-- (*paideia/parser.parser).opens -/
def ac106 : AF := ⟨(.seq (.reg [⟨(some 4), none, .mov (.c (.bool false))⟩])
 (.seq (.seq (.reg [⟨(some 5), none, .mov (.t 0)⟩,
  ⟨(some 6), none, .nilck (.t 5)⟩,
  ⟨(some 7), none, .faddr 3 (.t 6)⟩,
  ⟨(some 8), none, .load none (.t 7)⟩,
  ⟨(some 9), none, .bin .geq (.t 8) (.c (.int .i64 200))⟩])
 (.cond (.t 9) (.seq (.reg [⟨(some 10), none, .mov (.t 0)⟩,
  ⟨(some 11), none, .mov (.t 1)⟩,
  ⟨(some 12), none, .gload 4⟩,
  ⟨(some 13), none, .call 0 [] (.c (.fn 118 [])) [(.t 10), (.t 11), (.t 12)]⟩])
 (.seq (.reg [⟨(some 4), none, .mov (.c (.bool false))⟩])
 .ret))
 .skip))
 (.seq (.reg [⟨(some 14), none, .mov (.t 0)⟩,
  ⟨(some 15), none, .nilck (.t 14)⟩,
  ⟨(some 16), none, .faddr 3 (.t 15)⟩,
  ⟨(some 17), none, .load none (.t 16)⟩,
  ⟨(some 18), none, .bin .add (.t 17) (.c (.int .i64 1))⟩,
  ⟨(some 19), none, .nilck (.t 14)⟩,
  ⟨(some 20), none, .faddr 3 (.t 19)⟩,
  ⟨none, none, .store 1 (.t 20) (.t 18)⟩])
 (.seq (.reg [⟨(some 4), none, .mov (.c (.bool true))⟩])
 .ret)))),
  [.t 4], false, false, 21⟩
theorem co106 : compF Tryz.prog ⟨[], [], [], [4], [], [], 106, [], [], []⟩ false false Tryz.f106 = some ac106 := by kernel_rfl

/-- (*paideia/parser.parser).may -/
def ac109 : AF := ⟨(.seq (.reg [⟨(some 4), none, .mov (.c (.bool false))⟩])
 (.seq (.seq (.reg [⟨(some 5), none, .mov (.t 0)⟩,
  ⟨(some 6), none, .mov (.t 1)⟩,
  ⟨(some 7), none, .call 0 [] (.c (.fn 100 [])) [(.t 5), (.t 6)]⟩,
  ⟨(some 8), none, .not (.t 7)⟩])
 (.cond (.t 8) (.seq (.reg [⟨(some 4), none, .mov (.c (.bool false))⟩])
 .ret)
 .skip))
 (.seq (.reg [⟨(some 9), none, .mov (.t 0)⟩,
  ⟨(some 10), none, .nilck (.t 9)⟩,
  ⟨(some 11), none, .faddr 1 (.t 10)⟩,
  ⟨(some 12), none, .load none (.t 11)⟩,
  ⟨(some 13), none, .bin .add (.t 12) (.c (.int .i64 1))⟩,
  ⟨(some 14), none, .nilck (.t 9)⟩,
  ⟨(some 15), none, .faddr 1 (.t 14)⟩,
  ⟨none, none, .store 1 (.t 15) (.t 13)⟩])
 (.seq (.reg [⟨(some 4), none, .mov (.c (.bool true))⟩])
 .ret)))),
  [.t 4], false, false, 16⟩
theorem co109 : compF Tryz.prog ⟨[], [], [], [], [], [], 109, [], [], []⟩ false false Tryz.f109 = some ac109 := by kernel_rfl

/-- (*paideia/parser.parser).data -/
def ac110 : AF := ⟨(.seq (.reg [⟨(some 2), none, .box (.t 0) 1 true⟩,
  ⟨(some 4), none, .alloc [(.str []), (.sl .clip []), (.sl .clip []), (.sl .clip []), (.int .i64 0)] false⟩])
 (.seq (.reg [⟨(some 7), none, .load none (.t 2)⟩,
  ⟨(some 8), none, .call 0 [] (.c (.fn 143 [])) [(.t 7), (.c (.int .i64 2))]⟩,
  ⟨(some 9), none, .field 2 none (.t 8)⟩,
  ⟨(some 10), none, .mov (.t 1)⟩,
  ⟨(some 11), none, .build [(.str []), (.sl .clip []), (.sl .clip []), (.sl .clip []), (.int .i64 0)] [(0, 1, (.t 9)), (4, 1, (.t 10))]⟩,
  ⟨(some 5), none, .alloc [(.str []), (.sl .clip []), (.sl .clip []), (.sl .clip []), (.int .i64 0)] false⟩,
  ⟨none, none, .store 5 (.t 5) (.t 11)⟩])
 (.seq (.reg [⟨(some 12), none, .load none (.t 2)⟩,
  ⟨(some 13), none, .call 0 [] (.c (.fn 144 [])) [(.t 12)]⟩,
  ⟨(some 14), none, .faddr 1 (.t 5)⟩,
  ⟨none, none, .store 1 (.t 14) (.t 13)⟩])
 (.seq (.reg [⟨(some 15), none, .load none (.t 2)⟩,
  ⟨(some 16), none, .call 0 [] (.c (.fn 145 [])) [(.t 15), (.c (.str [61]))]⟩])
 (.seq (.reg [⟨(some 17), none, .mkfn 157 [(.t 2)]⟩,
  ⟨(some 6), none, .mov (.t 17)⟩])
 (.seq (.reg [⟨(some 18), none, .mov (.t 6)⟩,
  ⟨(some 19), none, .call 0 [] (.t 18) []⟩,
  ⟨(some 20), none, .bslice [(.str []), (.sl .clip [])] 1 [(0, (.t 19))]⟩,
  ⟨(some 21), none, .faddr 2 (.t 5)⟩,
  ⟨none, none, .store 1 (.t 21) (.t 20)⟩])
 (.seq (.block 0 (.loop [2, 6] [4, 5] (.seq (.seq (.reg [⟨(some 22), none, .load none (.t 2)⟩,
  ⟨(some 23), none, .call 0 [] (.c (.fn 109 [])) [(.t 22), (.c (.str [124]))]⟩])
 (.cond (.t 23) .skip
 (.exit 0)))
 (.block 1 (.reg [⟨(some 24), none, .faddr 2 (.t 5)⟩,
  ⟨(some 25), none, .loadL none (.t 24)⟩,
  ⟨(some 26), none, .mov (.t 6)⟩,
  ⟨(some 27), none, .call 0 [] (.t 26) []⟩,
  ⟨(some 28), none, .bslice [(.str []), (.sl .clip [])] 1 [(0, (.t 27))]⟩,
  ⟨(some 29), none, .append 2 (.t 25) (.t 28)⟩,
  ⟨(some 30), none, .faddr 2 (.t 5)⟩,
  ⟨none, none, .store 1 (.t 30) (.t 29)⟩])))))
 (.seq (.seq (.reg [⟨(some 31), none, .load none (.t 2)⟩,
  ⟨(some 32), none, .call 0 [] (.c (.fn 109 [])) [(.t 31), (.c (.str [100, 101, 114, 105, 118, 105, 110, 103]))]⟩,
  ⟨(some 33), none, .not (.t 32)⟩])
 (.cond (.t 33) (.seq (.reg [⟨(some 34), none, .load (some 5) (.t 5)⟩,
  ⟨none, none, .store 5 (.t 4) (.t 34)⟩])
 .ret)
 .skip))
 (.seq (.seq (.reg [⟨(some 35), none, .load none (.t 2)⟩,
  ⟨(some 36), none, .call 0 [] (.c (.fn 109 [])) [(.t 35), (.c (.str [40]))]⟩,
  ⟨(some 37), none, .not (.t 36)⟩])
 (.cond (.t 37) (.seq (.reg [⟨(some 38), none, .load none (.t 2)⟩,
  ⟨(some 39), none, .call 0 [] (.c (.fn 143 [])) [(.t 38), (.c (.int .i64 2))]⟩,
  ⟨(some 40), none, .field 2 none (.t 39)⟩,
  ⟨(some 41), none, .bslice [(.str [])] 1 [(0, (.t 40))]⟩,
  ⟨(some 42), none, .faddr 3 (.t 5)⟩,
  ⟨none, none, .store 1 (.t 42) (.t 41)⟩])
 (.seq (.reg [⟨(some 43), none, .load (some 5) (.t 5)⟩,
  ⟨none, none, .store 5 (.t 4) (.t 43)⟩])
 .ret))
 .skip))
 (.seq (.seq (.reg [⟨(some 44), none, .load none (.t 2)⟩,
  ⟨(some 45), none, .call 0 [] (.c (.fn 109 [])) [(.t 44), (.c (.str [41]))]⟩])
 (.cond (.t 45) (.seq (.reg [⟨(some 46), none, .load (some 5) (.t 5)⟩,
  ⟨none, none, .store 5 (.t 4) (.t 46)⟩])
 .ret)
 .skip))
 (.seq (.reg [⟨(some 47), none, .load none (.t 2)⟩,
  ⟨(some 48), none, .call 0 [] (.c (.fn 143 [])) [(.t 47), (.c (.int .i64 2))]⟩,
  ⟨(some 49), none, .field 2 none (.t 48)⟩,
  ⟨(some 50), none, .bslice [(.str [])] 1 [(0, (.t 49))]⟩,
  ⟨(some 51), none, .faddr 3 (.t 5)⟩,
  ⟨none, none, .store 1 (.t 51) (.t 50)⟩])
 (.seq (.block 2 (.loop [2] [4, 5] (.seq (.seq (.reg [⟨(some 52), none, .load none (.t 2)⟩,
  ⟨(some 53), none, .call 0 [] (.c (.fn 109 [])) [(.t 52), (.c (.str [44]))]⟩])
 (.cond (.t 53) .skip
 (.exit 2)))
 (.block 3 (.reg [⟨(some 54), none, .faddr 3 (.t 5)⟩,
  ⟨(some 55), none, .loadL none (.t 54)⟩,
  ⟨(some 56), none, .load none (.t 2)⟩,
  ⟨(some 57), none, .call 0 [] (.c (.fn 143 [])) [(.t 56), (.c (.int .i64 2))]⟩,
  ⟨(some 58), none, .field 2 none (.t 57)⟩,
  ⟨(some 59), none, .bslice [(.str [])] 1 [(0, (.t 58))]⟩,
  ⟨(some 60), none, .append 1 (.t 55) (.t 59)⟩,
  ⟨(some 61), none, .faddr 3 (.t 5)⟩,
  ⟨none, none, .store 1 (.t 61) (.t 60)⟩])))))
 (.seq (.reg [⟨(some 62), none, .load none (.t 2)⟩,
  ⟨(some 63), none, .call 0 [] (.c (.fn 145 [])) [(.t 62), (.c (.str [41]))]⟩])
 (.seq (.reg [⟨(some 64), none, .load (some 5) (.t 5)⟩,
  ⟨none, none, .store 5 (.t 4) (.t 64)⟩])
 .ret)))))))))))))),
  [.cell 4 (some 5)], false, false, 65⟩
theorem co110 : compF Tryz.prog ⟨[2], [(6, [2, 6], [4, 5]), (16, [2], [4, 5])], [], [], [], [], 110, [], [], [0, 1]⟩ false false Tryz.f110 = some ac110 := by kernel_rfl

/-- (*paideia/parser.parser).item -/
def ac113 : AF := ⟨(.seq (.reg [⟨(some 11), none, .mov (.t 0)⟩,
  ⟨(some 12), none, .call 0 [] (.c (.fn 163 [])) [(.t 11)]⟩,
  ⟨(some 10), none, .mov (.t 12)⟩,
  ⟨(some 13), none, .extract (.t 10) 0⟩,
  ⟨(some 14), none, .extract (.t 10) 1⟩,
  ⟨(some 6), none, .mov (.t 13)⟩,
  ⟨(some 7), none, .mov (.t 14)⟩])
 (.seq (.seq (.reg [⟨(some 15), none, .mov (.t 2)⟩,
  ⟨(some 16), none, .mov (.t 15)⟩,
  ⟨(some 17), (some (16, true)), .mov (.t 0)⟩,
  ⟨(some 18), (some (16, true)), .call 0 [] (.c (.fn 109 [])) [(.t 17), (.c (.str [58, 58]))]⟩,
  ⟨(some 19), none, .pick (.t 16) (.t 18) (.c (.bool false))⟩])
 (.cond (.t 19) (.seq (.reg [⟨(some 20), none, .mov (.t 1)⟩,
  ⟨(some 21), none, .mov (.t 1)⟩,
  ⟨(some 22), none, .nilck (.t 21)⟩,
  ⟨(some 23), none, .faddr 0 (.t 22)⟩,
  ⟨(some 24), none, .loadX false none (.t 23) [] [(.t 1)]⟩,
  ⟨(some 25), none, .mov (.t 6)⟩,
  ⟨(some 26), none, .mov (.t 7)⟩,
  ⟨(some 27), none, .mov (.t 0)⟩,
  ⟨(some 28), none, .callK 0 [] (.c (.fn 164 [])) [(.t 27)] [(.t 1)]⟩,
  ⟨(some 29), none, .build [(.str []), (.int .i64 0), (.sl .clip []), (.sl .clip []), (.int .i64 0), (.str []), (.sl .clip [])] [(0, 1, (.t 25)), (1, 1, (.t 26)), (2, 5, (.t 28))]⟩,
  ⟨(some 30), none, .bslice [(.str []), (.int .i64 0), (.sl .clip []), (.sl .clip []), (.int .i64 0), (.str []), (.sl .clip [])] 1 [(0, (.t 29))]⟩,
  ⟨(some 31), none, .append 7 (.t 24) (.t 30)⟩,
  ⟨(some 32), none, .nilck (.t 20)⟩,
  ⟨(some 33), none, .faddr 0 (.t 32)⟩,
  ⟨none, none, .store 1 (.t 33) (.t 31)⟩])
 .ret)
 .skip))
 (.seq (.reg [⟨(some 34), none, .mov (.t 0)⟩,
  ⟨(some 35), none, .call 0 [] (.c (.fn 144 [])) [(.t 34)]⟩,
  ⟨(some 8), none, .mov (.t 35)⟩])
 (.seq (.reg [⟨(some 36), none, .mov (.t 0)⟩,
  ⟨(some 37), none, .call 0 [] (.c (.fn 145 [])) [(.t 36), (.c (.str [61]))]⟩])
 (.seq (.reg [⟨(some 38), none, .mov (.t 0)⟩,
  ⟨(some 39), none, .call 0 [] (.c (.fn 62 [])) [(.t 38)]⟩,
  ⟨(some 9), none, .alloc [(.int .i64 0), (.int .i64 0), (.str []), (.int .i64 0), (.sl .clip []), (.sl .clip []), (.sl .clip [])] false⟩,
  ⟨none, none, .store 7 (.t 9) (.t 39)⟩])
 (.reg [⟨(some 40), none, .mov (.t 1)⟩,
  ⟨(some 41), none, .nilck (.t 40)⟩,
  ⟨(some 42), none, .faddr 1 (.t 41)⟩,
  ⟨(some 43), none, .loadX false none (.t 42) [] [(.t 1)]⟩,
  ⟨(some 44), none, .mov (.t 6)⟩,
  ⟨(some 45), none, .mov (.t 7)⟩,
  ⟨(some 46), none, .mov (.t 7)⟩,
  ⟨(some 47), none, .mov (.t 8)⟩,
  ⟨(some 48), none, .load (some 7) (.t 9)⟩,
  ⟨(some 49), none, .callK 0 [] (.c (.fn 146 [])) [(.t 46), (.t 47), (.t 48)] [(.t 1)]⟩,
  ⟨(some 50), none, .build [(.str []), (.bool false), (.sl .clip []), (.sl .clip []), (.int .i64 0), (.str []), (.sl .clip []), (.int .i64 0), (.int .i64 0), (.str []), (.int .i64 0), (.sl .clip []), (.sl .clip []), (.sl .clip []), (.int .i64 0)] [(0, 1, (.t 44)), (14, 1, (.t 45)), (7, 7, (.t 49))]⟩,
  ⟨(some 51), none, .len 1 (.t 43)⟩,
  ⟨(some 52), none, .bslice [(.str []), (.bool false), (.sl .clip []), (.sl .clip []), (.int .i64 0), (.str []), (.sl .clip []), (.int .i64 0), (.int .i64 0), (.str []), (.int .i64 0), (.sl .clip []), (.sl .clip []), (.sl .clip []), (.int .i64 0)] 1 [(0, (.c (.agg [(.str []), (.bool false), (.sl .clip []), (.sl .clip []), (.int .i64 0), (.str []), (.sl .clip []), (.int .i64 0), (.int .i64 0), (.str []), (.int .i64 0), (.sl .clip []), (.sl .clip []), (.sl .clip []), (.int .i64 0)])))]⟩,
  ⟨(some 53), none, .appV 15 (.t 43) (.t 52)⟩,
  ⟨(some 54), none, .iaddr 15 (.t 53) (.t 51)⟩,
  ⟨none, none, .storeX false 15 (.t 54) (.t 50) [(.t 1)] []⟩,
  ⟨(some 55), none, .nilck (.t 40)⟩,
  ⟨(some 56), none, .faddr 1 (.t 55)⟩,
  ⟨none, none, .storeX false 1 (.t 56) (.t 53) [] [(.t 1)]⟩])))))),
  [], false, false, 57⟩
theorem co113 : compF Tryz.prog ⟨[], [], [], [], [], [2000053], 113, [], [], [0, 1, 2]⟩ false false Tryz.f113 = some ac113 := by kernel_rfl

/-- slices.IndexFunc[[]paideia/api.Bind,paideia/api.Bind] -/
def ac114 : AF := ⟨(.seq (.reg [⟨(some 4), none, .mov (.c (.int .i64 0))⟩])
 (.seq (.seq (.reg [⟨(some 6), none, .mov (.t 0)⟩,
  ⟨(some 7), none, .len 1 (.t 6)⟩,
  ⟨(some 8), none, .mov (.c (.int .i64 0))⟩])
 (.block 0 (.loop [0, 1, 7, 8] [] (.seq (.reg [⟨(some 9), none, .bin .lss (.t 8) (.t 7)⟩])
 (.seq (.cond (.t 9) .skip
 (.exit 0))
 (.seq (.block 1 (.seq (.reg [⟨(some 10), none, .mov (.t 8)⟩,
  ⟨(some 5), none, .mov (.t 10)⟩])
 (.seq (.reg [⟨(some 11), none, .mov (.t 1)⟩,
  ⟨(some 12), none, .mov (.t 0)⟩,
  ⟨(some 13), none, .mov (.t 5)⟩,
  ⟨(some 14), none, .iaddr 15 (.t 12) (.t 13)⟩,
  ⟨(some 15), none, .load (some 15) (.t 14)⟩,
  ⟨(some 16), none, .call 0 [] (.t 11) [(.t 15)]⟩])
 (.cond (.t 16) (.seq (.reg [⟨(some 17), none, .mov (.t 5)⟩,
  ⟨(some 4), none, .mov (.t 17)⟩])
 .ret)
 .skip))))
 (.reg [⟨(some 18), none, .bin .add (.t 8) (.c (.int .i64 1))⟩,
  ⟨(some 8), none, .mov (.t 18)⟩])))))))
 (.seq (.reg [⟨(some 4), none, .mov (.c (.int .i64 (-1)))⟩])
 .ret))),
  [.t 4], false, true, 19⟩
theorem co114 : compF Tryz.prog ⟨[], [(2, [0, 1, 7, 8], [])], [], [], [], [], 114, [], [], []⟩ false true Tryz.f114 = some ac114 := by kernel_rfl

/-- (*paideia/parser.parser).signed$1 -/
def ac115 : AF := ⟨(.seq (.reg [⟨(some 2), none, .box (.t 0) 15 false⟩,
  ⟨(some 3), none, .mov (.c (.bool false))⟩])
 (.seq (.reg [⟨(some 4), none, .faddr 0 (.t 2)⟩,
  ⟨(some 5), none, .load none (.t 4)⟩,
  ⟨(some 6), none, .faddr 0 (.t 1)⟩,
  ⟨(some 7), none, .load none (.t 6)⟩,
  ⟨(some 8), none, .bin .eql (.t 5) (.t 7)⟩,
  ⟨(some 3), none, .mov (.t 8)⟩])
 .ret)),
  [.t 3], false, false, 9⟩
theorem co115 : compF Tryz.prog ⟨[], [], [], [], [], [], 115, [], [], []⟩ false false Tryz.f115 = some ac115 := by kernel_rfl

/-- slices.ContainsFunc[[]paideia/parser.signature,paideia/parser.signature] -/
def ac116 : AF := ⟨(.seq (.reg [⟨(some 4), none, .mov (.c (.bool false))⟩])
 (.seq (.reg [⟨(some 5), none, .mov (.t 0)⟩,
  ⟨(some 6), none, .mov (.t 1)⟩,
  ⟨(some 7), none, .call 0 [] (.c (.fn 165 [])) [(.t 5), (.t 6)]⟩,
  ⟨(some 8), none, .bin .geq (.t 7) (.c (.int .i64 0))⟩,
  ⟨(some 4), none, .mov (.t 8)⟩])
 .ret)),
  [.t 4], false, true, 9⟩
theorem co116 : compF Tryz.prog ⟨[], [], [], [], [], [], 116, [], [], []⟩ false true Tryz.f116 = some ac116 := by kernel_rfl

/-- (*paideia/parser.parser).fails -/
def ac118 : AF := ⟨(.seq (.reg [⟨(some 6), none, .mov (.t 0)⟩,
  ⟨(some 7), none, .nilck (.t 6)⟩,
  ⟨(some 8), none, .faddr 4 (.t 7)⟩,
  ⟨(some 9), none, .load none (.t 8)⟩,
  ⟨(some 10), none, .eqnil .iface false (.t 9)⟩])
 (.cond (.t 10) (.reg [⟨(some 11), none, .mov (.t 0)⟩,
  ⟨(some 12), none, .mov (.t 1)⟩,
  ⟨(some 13), none, .mov (.t 2)⟩,
  ⟨(some 14), none, .build [(.int .i64 0), .nili] [(0, 1, (.t 12)), (1, 1, (.t 13))]⟩,
  ⟨(some 15), none, .box (.t 14) 2 true⟩,
  ⟨(some 16), none, .mkif 103 (.t 15)⟩,
  ⟨(some 17), none, .nilck (.t 11)⟩,
  ⟨(some 18), none, .faddr 4 (.t 17)⟩,
  ⟨none, none, .store 1 (.t 18) (.t 16)⟩])
 .skip)),
  [], false, false, 19⟩
theorem co118 : compF Tryz.prog ⟨[15], [], [], [], [], [], 118, [], [], []⟩ false false Tryz.f118 = some ac118 := by kernel_rfl

/-- paideia/printer.context -/
def ac119 : AF := ⟨(.seq (.reg [⟨(some 2), none, .mov (.c (.str []))⟩])
 (.seq (.reg [⟨(some 4), none, .mov (.t 0)⟩,
  ⟨(some 5), none, .call 0 [] (.c (.fn 166 [])) [(.t 4), (.c (.str [44, 32])), (.c (.fn 167 []))]⟩,
  ⟨(some 3), none, .mov (.t 5)⟩])
 (.seq (.seq (.reg [⟨(some 6), none, .mov (.t 0)⟩,
  ⟨(some 7), none, .len 1 (.t 6)⟩])
 (.block 0 (.seq (.reg [⟨(some 9), none, .bin .eql (.t 7) (.c (.int .i64 0))⟩,
  ⟨(some 8), none, .mov (.t 9)⟩])
 (.cond (.t 8) (.seq (.reg [⟨(some 2), none, .mov (.c (.str []))⟩])
 .ret)
 (.seq (.reg [⟨(some 11), none, .bin .eql (.t 7) (.c (.int .i64 1))⟩,
  ⟨(some 10), none, .mov (.t 11)⟩])
 (.cond (.t 10) (.seq (.reg [⟨(some 12), none, .mov (.t 3)⟩,
  ⟨(some 13), none, .bin .add (.t 12) (.c (.str [32, 61, 62, 32]))⟩,
  ⟨(some 2), none, .mov (.t 13)⟩])
 .ret)
 .skip))))))
 (.seq (.reg [⟨(some 14), none, .mov (.t 3)⟩,
  ⟨(some 15), none, .bin .add (.c (.str [40])) (.t 14)⟩,
  ⟨(some 16), none, .bin .add (.t 15) (.c (.str [41, 32, 61, 62, 32]))⟩,
  ⟨(some 2), none, .mov (.t 16)⟩])
 .ret)))),
  [.t 2], false, true, 17⟩
theorem co119 : compF Tryz.prog ⟨[], [], [], [], [], [], 119, [], [], []⟩ false true Tryz.f119 = some ac119 := by kernel_rfl

/-- paideia/printer.Type -/
def ac120 : AF := ⟨(.seq (.reg [⟨(some 1), none, .box (.t 0) 3 false⟩,
  ⟨(some 2), none, .mov (.c (.str []))⟩])
 (.seq (.seq (.reg [⟨(some 6), none, .faddr 0 (.t 1)⟩,
  ⟨(some 7), none, .load none (.t 6)⟩])
 (.block 0 (.seq (.reg [⟨(some 9), none, .bin .eql (.t 7) (.c (.int .i64 3))⟩,
  ⟨(some 8), none, .mov (.t 9)⟩])
 (.cond (.t 8) (.seq (.reg [⟨(some 10), none, .load (some 3) (.t 1)⟩,
  ⟨(some 11), none, .call 0 [] (.c (.fn 170 [])) [(.t 10), (.c (.int .i64 0))]⟩,
  ⟨(some 12), none, .call 0 [] (.c (.fn 169 [])) [(.t 11)]⟩,
  ⟨(some 13), none, .bin .add (.t 12) (.c (.str [32, 45, 62, 32]))⟩,
  ⟨(some 14), none, .loadL (some 3) (.t 1)⟩,
  ⟨(some 15), none, .call 0 [] (.c (.fn 170 [])) [(.t 14), (.c (.int .i64 1))]⟩,
  ⟨(some 16), none, .call 0 [] (.c (.fn 120 [])) [(.t 15)]⟩,
  ⟨(some 17), none, .bin .add (.t 13) (.t 16)⟩,
  ⟨(some 2), none, .mov (.t 17)⟩])
 .ret)
 (.seq (.reg [⟨(some 19), none, .bin .eql (.t 7) (.c (.int .i64 4))⟩,
  ⟨(some 18), none, .mov (.t 19)⟩])
 (.cond (.t 18) (.seq (.reg [⟨(some 20), none, .faddr 1 (.t 1)⟩,
  ⟨(some 21), none, .loadL none (.t 20)⟩,
  ⟨(some 22), none, .bin .add (.c (.str [102, 111, 114, 97, 108, 108, 32])) (.t 21)⟩,
  ⟨(some 23), none, .bin .add (.t 22) (.c (.str [46, 32]))⟩,
  ⟨(some 24), none, .load (some 3) (.t 1)⟩,
  ⟨(some 25), none, .call 0 [] (.c (.fn 170 [])) [(.t 24), (.c (.int .i64 0))]⟩,
  ⟨(some 26), none, .call 0 [] (.c (.fn 120 [])) [(.t 25)]⟩,
  ⟨(some 27), none, .bin .add (.t 23) (.t 26)⟩,
  ⟨(some 2), none, .mov (.t 27)⟩])
 .ret)
 .skip))))))
 (.seq (.reg [⟨(some 28), none, .faddr 1 (.t 1)⟩,
  ⟨(some 29), none, .load none (.t 28)⟩,
  ⟨(some 3), none, .mov (.t 29)⟩])
 (.seq (.seq (.reg [⟨(some 30), none, .faddr 2 (.t 1)⟩,
  ⟨(some 31), none, .load none (.t 30)⟩,
  ⟨(some 32), none, .len 1 (.t 31)⟩,
  ⟨(some 33), none, .mov (.c (.int .i64 0))⟩])
 (.block 1 (.loop [3, 31, 32, 33] [] (.seq (.reg [⟨(some 34), none, .bin .lss (.t 33) (.t 32)⟩])
 (.seq (.cond (.t 34) .skip
 (.exit 1))
 (.seq (.block 2 (.seq (.reg [⟨(some 35), none, .iaddr 3 (.t 31) (.t 33)⟩,
  ⟨(some 36), none, .load (some 3) (.t 35)⟩,
  ⟨(some 5), none, .alloc [(.int .i64 0), (.str []), (.sl .clip [])] false⟩,
  ⟨none, none, .store 3 (.t 5) (.t 36)⟩])
 (.reg [⟨(some 37), none, .mov (.t 3)⟩,
  ⟨(some 38), none, .load (some 3) (.t 5)⟩,
  ⟨(some 39), none, .call 0 [] (.c (.fn 168 [])) [(.t 38)]⟩,
  ⟨(some 40), none, .bin .add (.c (.str [32])) (.t 39)⟩,
  ⟨(some 41), none, .bin .add (.t 37) (.t 40)⟩,
  ⟨(some 3), none, .mov (.t 41)⟩])))
 (.reg [⟨(some 42), none, .bin .add (.t 33) (.c (.int .i64 1))⟩,
  ⟨(some 33), none, .mov (.t 42)⟩])))))))
 (.seq (.reg [⟨(some 43), none, .mov (.t 3)⟩,
  ⟨(some 2), none, .mov (.t 43)⟩])
 .ret))))),
  [.t 2], false, true, 44⟩
theorem co120 : compF Tryz.prog ⟨[], [(8, [3, 31, 32, 33], [])], [], [], [], [], 120, [], [], [0]⟩ false true Tryz.f120 = some ac120 := by kernel_rfl

/-- slices.Index[[]string,string] -/
def ac136 : AF := ⟨(.seq (.reg [⟨(some 4), none, .mov (.c (.int .i64 0))⟩])
 (.seq (.seq (.reg [⟨(some 6), none, .mov (.t 0)⟩,
  ⟨(some 7), none, .len 1 (.t 6)⟩,
  ⟨(some 8), none, .mov (.c (.int .i64 0))⟩])
 (.block 0 (.loop [0, 1, 7, 8] [] (.seq (.reg [⟨(some 9), none, .bin .lss (.t 8) (.t 7)⟩])
 (.seq (.cond (.t 9) .skip
 (.exit 0))
 (.seq (.block 1 (.seq (.reg [⟨(some 10), none, .mov (.t 8)⟩,
  ⟨(some 5), none, .mov (.t 10)⟩])
 (.seq (.reg [⟨(some 11), none, .mov (.t 1)⟩,
  ⟨(some 12), none, .mov (.t 0)⟩,
  ⟨(some 13), none, .mov (.t 5)⟩,
  ⟨(some 14), none, .iaddr 1 (.t 12) (.t 13)⟩,
  ⟨(some 15), none, .load none (.t 14)⟩,
  ⟨(some 16), none, .bin .eql (.t 11) (.t 15)⟩])
 (.cond (.t 16) (.seq (.reg [⟨(some 17), none, .mov (.t 5)⟩,
  ⟨(some 4), none, .mov (.t 17)⟩])
 .ret)
 .skip))))
 (.reg [⟨(some 18), none, .bin .add (.t 8) (.c (.int .i64 1))⟩,
  ⟨(some 8), none, .mov (.t 18)⟩])))))))
 (.seq (.reg [⟨(some 4), none, .mov (.c (.int .i64 (-1)))⟩])
 .ret))),
  [.t 4], false, true, 19⟩
theorem co136 : compF Tryz.prog ⟨[], [(2, [0, 1, 7, 8], [])], [], [], [], [], 136, [], [], []⟩ false true Tryz.f136 = some ac136 := by kernel_rfl

/-- slices.Clone[[]paideia/api.Type,paideia/api.Type] -/
def ac139 : AF := ⟨(.seq (.reg [⟨(some 2), none, .mov (.c (.sl .clip []))⟩])
 (.seq (.seq (.reg [⟨(some 3), none, .mov (.t 0)⟩,
  ⟨(some 4), none, .nilsl false (.t 3)⟩])
 (.cond (.t 4) (.seq (.reg [⟨(some 2), none, .mov (.c (.sl .clip []))⟩])
 .ret)
 .skip))
 (.seq (.reg [⟨(some 5), none, .bslice [(.int .i64 0), (.str []), (.sl .clip [])] 0 []⟩,
  ⟨(some 6), none, .mov (.t 0)⟩,
  ⟨(some 7), none, .append 3 (.t 5) (.t 6)⟩,
  ⟨(some 2), none, .mov (.t 7)⟩])
 .ret))),
  [.t 2], false, true, 8⟩
theorem co139 : compF Tryz.prog ⟨[], [], [], [], [], [], 139, [], [], []⟩ false true Tryz.f139 = some ac139 := by kernel_rfl

/-- paideia/lexer.All -/
def ac140 : AF := ⟨(.seq (.reg [⟨(some 1), none, .box (.t 0) 1 true⟩,
  ⟨(some 2), none, .mov (.c .nilfn)⟩])
 (.seq (.reg [⟨(some 3), none, .mkfn 189 [(.t 1)]⟩,
  ⟨(some 2), none, .mov (.t 3)⟩])
 .ret)),
  [.t 2], false, false, 4⟩
theorem co140 : compF Tryz.prog ⟨[1], [], [], [], [], [], 140, [], [], []⟩ false false Tryz.f140 = some ac140 := by kernel_rfl

/-- paideia/parser.marked -/
def ac141 : AF := ⟨(.seq (.reg [⟨(some 2), none, .box (.t 0) 4 false⟩,
  ⟨(some 4), none, .mov (.c (.bool false))⟩])
 (.seq (.reg [⟨(some 5), none, .faddr 0 (.t 2)⟩,
  ⟨(some 6), none, .load none (.t 5)⟩,
  ⟨(some 7), none, .bin .eql (.t 6) (.c (.int .i64 6))⟩,
  ⟨(some 8), none, .mov (.t 7)⟩,
  ⟨(some 9), (some (8, true)), .faddr 2 (.t 2)⟩,
  ⟨(some 10), (some (8, true)), .load none (.t 9)⟩,
  ⟨(some 11), (some (8, true)), .mov (.t 1)⟩,
  ⟨(some 12), (some (8, true)), .bin .eql (.t 10) (.t 11)⟩,
  ⟨(some 13), none, .pick (.t 8) (.t 12) (.c (.bool false))⟩,
  ⟨(some 4), none, .mov (.t 13)⟩])
 .ret)),
  [.t 4], false, true, 14⟩
theorem co141 : compF Tryz.prog ⟨[], [], [], [], [], [], 141, [], [], []⟩ false true Tryz.f141 = some ac141 := by kernel_rfl

/-- (*paideia/parser.parser).at -/
def ac142 : AF := ⟨(.seq (.reg [⟨(some 4), none, .alloc [(.int .i64 0), (.int .i64 0), (.str []), (.int .i64 0)] false⟩])
 (.seq (.seq (.reg [⟨(some 5), none, .mov (.t 0)⟩,
  ⟨(some 6), none, .nilck (.t 5)⟩,
  ⟨(some 7), none, .faddr 4 (.t 6)⟩,
  ⟨(some 8), none, .load none (.t 7)⟩,
  ⟨(some 9), none, .eqnil .iface true (.t 8)⟩,
  ⟨(some 10), none, .mov (.t 9)⟩,
  ⟨(some 11), (some (10, false)), .mov (.t 0)⟩,
  ⟨(some 12), (some (10, false)), .nilck (.t 11)⟩,
  ⟨(some 13), (some (10, false)), .faddr 1 (.t 12)⟩,
  ⟨(some 14), (some (10, false)), .load none (.t 13)⟩,
  ⟨(some 15), (some (10, false)), .mov (.t 1)⟩,
  ⟨(some 16), (some (10, false)), .bin .add (.t 14) (.t 15)⟩,
  ⟨(some 17), (some (10, false)), .mov (.t 0)⟩,
  ⟨(some 18), (some (10, false)), .nilck (.t 17)⟩,
  ⟨(some 19), (some (10, false)), .faddr 0 (.t 18)⟩,
  ⟨(some 20), (some (10, false)), .load none (.t 19)⟩,
  ⟨(some 21), (some (10, false)), .len 1 (.t 20)⟩,
  ⟨(some 22), (some (10, false)), .bin .geq (.t 16) (.t 21)⟩,
  ⟨(some 23), none, .pick (.t 10) (.c (.bool true)) (.t 22)⟩])
 (.cond (.t 23) (.seq (.reg [⟨(some 24), none, .build [(.int .i64 0), (.int .i64 0), (.str []), (.int .i64 0)] []⟩,
  ⟨none, none, .store 4 (.t 4) (.t 24)⟩])
 .ret)
 .skip))
 (.seq (.reg [⟨(some 25), none, .mov (.t 0)⟩,
  ⟨(some 26), none, .nilck (.t 25)⟩,
  ⟨(some 27), none, .faddr 0 (.t 26)⟩,
  ⟨(some 28), none, .load none (.t 27)⟩,
  ⟨(some 29), none, .mov (.t 0)⟩,
  ⟨(some 30), none, .nilck (.t 29)⟩,
  ⟨(some 31), none, .faddr 1 (.t 30)⟩,
  ⟨(some 32), none, .load none (.t 31)⟩,
  ⟨(some 33), none, .mov (.t 1)⟩,
  ⟨(some 34), none, .bin .add (.t 32) (.t 33)⟩,
  ⟨(some 35), none, .iaddr 4 (.t 28) (.t 34)⟩,
  ⟨(some 36), none, .load (some 4) (.t 35)⟩,
  ⟨none, none, .store 4 (.t 4) (.t 36)⟩])
 .ret))),
  [.cell 4 (some 4)], false, false, 37⟩
theorem co142 : compF Tryz.prog ⟨[], [], [], [], [], [], 142, [], [], [0, 1]⟩ false false Tryz.f142 = some ac142 := by kernel_rfl

/-- (*paideia/parser.parser).word -/
def ac143 : AF := ⟨(.seq (.reg [⟨(some 4), none, .alloc [(.int .i64 0), (.int .i64 0), (.str []), (.int .i64 0)] false⟩])
 (.seq (.seq (.reg [⟨(some 5), none, .mov (.t 0)⟩,
  ⟨(some 6), none, .mov (.t 1)⟩,
  ⟨(some 7), none, .call 0 [] (.c (.fn 192 [])) [(.t 5), (.t 6)]⟩,
  ⟨(some 8), none, .not (.t 7)⟩])
 (.cond (.t 8) (.seq (.reg [⟨(some 9), none, .mov (.t 0)⟩,
  ⟨(some 10), none, .call 0 [] (.c (.fn 98 [])) [(.t 9)]⟩])
 (.seq (.reg [⟨(some 11), none, .build [(.int .i64 0), (.int .i64 0), (.str []), (.int .i64 0)] []⟩,
  ⟨none, none, .store 4 (.t 4) (.t 11)⟩])
 .ret))
 .skip))
 (.seq (.reg [⟨(some 12), none, .mov (.t 0)⟩,
  ⟨(some 13), none, .call 0 [] (.c (.fn 193 [])) [(.t 12)]⟩,
  ⟨none, none, .store 4 (.t 4) (.t 13)⟩])
 .ret))),
  [.cell 4 (some 4)], false, false, 14⟩
theorem co143 : compF Tryz.prog ⟨[], [], [], [], [], [], 143, [], [], []⟩ false false Tryz.f143 = some ac143 := by kernel_rfl

/-- (*paideia/parser.parser).names -/
def ac144 : AF := ⟨(.seq (.reg [⟨(some 2), none, .mov (.c (.sl .clip []))⟩])
 (.seq (.reg [⟨(some 3), none, .mov (.c (.sl .clip []))⟩])
 (.seq (.block 0 (.loop [0, 3] [] (.seq (.seq (.reg [⟨(some 4), none, .mov (.t 0)⟩,
  ⟨(some 5), none, .call 0 [] (.c (.fn 192 [])) [(.t 4), (.c (.int .i64 1))]⟩])
 (.cond (.t 5) .skip
 (.exit 0)))
 (.block 1 (.reg [⟨(some 6), none, .mov (.t 3)⟩,
  ⟨(some 7), none, .mov (.t 0)⟩,
  ⟨(some 8), none, .call 0 [] (.c (.fn 193 [])) [(.t 7)]⟩,
  ⟨(some 9), none, .field 2 none (.t 8)⟩,
  ⟨(some 10), none, .bslice [(.str [])] 1 [(0, (.t 9))]⟩,
  ⟨(some 11), none, .append 1 (.t 6) (.t 10)⟩,
  ⟨(some 3), none, .mov (.t 11)⟩])))))
 (.seq (.reg [⟨(some 12), none, .mov (.t 3)⟩,
  ⟨(some 2), none, .mov (.t 12)⟩])
 .ret)))),
  [.t 2], false, false, 13⟩
theorem co144 : compF Tryz.prog ⟨[], [(2, [0, 3], [])], [], [], [], [], 144, [], [], []⟩ false false Tryz.f144 = some ac144 := by kernel_rfl

/-- (*paideia/parser.parser).must -/
def ac145 : AF := ⟨(.seq (.reg [⟨(some 4), none, .mov (.t 0)⟩,
  ⟨(some 5), none, .mov (.t 1)⟩,
  ⟨(some 6), none, .call 0 [] (.c (.fn 109 [])) [(.t 4), (.t 5)]⟩,
  ⟨(some 7), none, .not (.t 6)⟩])
 (.cond (.t 7) (.reg [⟨(some 8), none, .mov (.t 0)⟩,
  ⟨(some 9), none, .call 0 [] (.c (.fn 98 [])) [(.t 8)]⟩])
 .skip)),
  [], false, false, 10⟩
theorem co145 : compF Tryz.prog ⟨[], [], [], [], [], [], 145, [], [], []⟩ false false Tryz.f145 = some ac145 := by kernel_rfl

/-- paideia/parser.lambdas: round 0 -/
def ab146_0 : AB := ⟨[11, 12], (.reg [⟨(some 8), none, .mov (.t 12)⟩]),
 (.block 1 (.reg [⟨(some 13), none, .load none (.t 3)⟩,
  ⟨(some 14), none, .mov (.t 8)⟩,
  ⟨(some 15), none, .load (some 7) (.t 5)⟩,
  ⟨(some 16), none, .bslice [(.int .i64 0), (.int .i64 0), (.str []), (.int .i64 0), (.sl .clip []), (.sl .clip []), (.sl .clip [])] 1 [(0, (.t 15))]⟩,
  ⟨(some 17), none, .build [(.int .i64 0), (.int .i64 0), (.str []), (.int .i64 0), (.sl .clip []), (.sl .clip []), (.sl .clip [])] [(0, 1, (.c (.int .i64 6))), (1, 1, (.t 13)), (2, 1, (.t 14)), (4, 1, (.t 16))]⟩,
  ⟨none, none, .store 7 (.t 5) (.t 17)⟩]))⟩
theorem cb146_0 : ((Tryz.f146.body.bind fun c => ((rfs c)[9344 % 64]?).map fun t => (t.1, t.2.1, t.2.2, Tryz.f146.ntmps)).bind (compB Tryz.prog ⟨[], [], [], [], [], [], 146, [], [], []⟩)) = some ab146_0 := by kernel_rfl

/-- paideia/parser.lambdas -/
def ac146 : AF := ⟨(.seq (.reg [⟨(some 3), none, .box (.t 0) 1 true⟩,
  ⟨(some 5), none, .box (.t 2) 7 true⟩,
  ⟨(some 6), none, .alloc [(.int .i64 0), (.int .i64 0), (.str []), (.int .i64 0), (.sl .clip []), (.sl .clip []), (.sl .clip [])] false⟩])
 (.seq (.seq (.reg [⟨(some 9), none, .mov (.t 1)⟩,
  ⟨(some 10), none, .call 0 [] (.c (.fn 194 [])) [(.t 9)]⟩])
 (.block 0 (.rfunc (.t 10) 9344 [3, 5] [219])))
 (.seq (.reg [⟨(some 18), none, .load (some 7) (.t 5)⟩,
  ⟨none, none, .store 7 (.t 6) (.t 18)⟩])
 .ret))),
  [.cell 6 (some 7)], false, true, 19⟩
theorem co146 : compF Tryz.prog ⟨[3, 5], [], [], [], [], [], 146, [(0, [3, 5])], [219], []⟩ false true Tryz.f146 = some ac146 := by kernel_rfl

/-- (*paideia/parser.parser).braces -/
def ac147 : AF := ⟨(.seq (.reg [⟨(some 2), none, .box (.t 0) 1 true⟩])
 (.seq (.reg [⟨(some 4), none, .load none (.t 2)⟩,
  ⟨(some 5), none, .call 0 [] (.c (.fn 145 [])) [(.t 4), (.c (.str [123]))]⟩])
 (.seq (.reg [⟨(some 6), none, .load none (.t 2)⟩,
  ⟨(some 7), none, .mov (.t 1)⟩,
  ⟨(some 8), none, .mkfn 195 [(.t 2)]⟩,
  ⟨(some 9), none, .call 0 [] (.c (.fn 70 [])) [(.t 6), (.t 7), (.t 8)]⟩])
 (.reg [⟨(some 10), none, .load none (.t 2)⟩,
  ⟨(some 11), none, .call 0 [] (.c (.fn 145 [])) [(.t 10), (.c (.str [125]))]⟩])))),
  [], false, false, 12⟩
theorem co147 : compF Tryz.prog ⟨[2], [], [], [], [], [], 147, [], [], []⟩ false false Tryz.f147 = some ac147 := by kernel_rfl

/-- (*paideia/parser.parser).let$1 -/
def ac148 : AF := ⟨(.reg [⟨(some 2), none, .load none (.t 0)⟩,
  ⟨(some 3), none, .call 0 [] (.c (.fn 113 [])) [(.t 2), (.t 1), (.c (.bool true))]⟩]),
  [], false, false, 4⟩
theorem co148 : compF Tryz.prog ⟨[], [], [], [], [], [], 148, [], [], []⟩ false false Tryz.f148 = some ac148 := by kernel_rfl

/-- (*paideia/parser.parser).cases$1 -/
def ac149 : AF := ⟨(.reg [⟨(some 2), none, .load none (.t 0)⟩,
  ⟨(some 3), none, .load none (.t 1)⟩,
  ⟨(some 4), none, .callK 0 [] (.c (.fn 150 [])) [(.t 3)] [(.t 0)]⟩,
  ⟨(some 5), none, .len 1 (.t 2)⟩,
  ⟨(some 6), none, .bslice [(.str []), (.sl .clip []), (.int .i64 0), (.int .i64 0), (.str []), (.int .i64 0), (.sl .clip []), (.sl .clip []), (.sl .clip []), (.int .i64 0)] 1 [(0, (.c (.agg [(.str []), (.sl .clip []), (.int .i64 0), (.int .i64 0), (.str []), (.int .i64 0), (.sl .clip []), (.sl .clip []), (.sl .clip []), (.int .i64 0)])))]⟩,
  ⟨(some 7), none, .appV 10 (.t 2) (.t 6)⟩,
  ⟨(some 8), none, .iaddr 10 (.t 7) (.t 5)⟩,
  ⟨none, none, .storeX false 10 (.t 8) (.t 4) [(.t 0)] []⟩,
  ⟨none, none, .storeX false 1 (.t 0) (.t 7) [] []⟩]),
  [], false, false, 9⟩
theorem co149 : compF Tryz.prog ⟨[], [], [], [], [], [2000007], 149, [], [], [0, 1]⟩ false false Tryz.f149 = some ac149 := by kernel_rfl

/-- (*paideia/parser.parser).alt -/
def ac150 : AF := ⟨(.seq (.reg [⟨(some 2), none, .alloc [(.str []), (.sl .clip []), (.int .i64 0), (.int .i64 0), (.str []), (.int .i64 0), (.sl .clip []), (.sl .clip []), (.sl .clip []), (.int .i64 0)] false⟩])
 (.seq (.reg [⟨(some 4), none, .mov (.t 0)⟩,
  ⟨(some 5), none, .call 0 [] (.c (.fn 99 [])) [(.t 4)]⟩,
  ⟨(some 6), none, .build [(.str []), (.sl .clip []), (.int .i64 0), (.int .i64 0), (.str []), (.int .i64 0), (.sl .clip []), (.sl .clip []), (.sl .clip []), (.int .i64 0)] [(9, 1, (.t 5))]⟩,
  ⟨(some 3), none, .alloc [(.str []), (.sl .clip []), (.int .i64 0), (.int .i64 0), (.str []), (.int .i64 0), (.sl .clip []), (.sl .clip []), (.sl .clip []), (.int .i64 0)] false⟩,
  ⟨none, none, .store 10 (.t 3) (.t 6)⟩])
 (.seq (.block 0 (.seq (.reg [⟨(some 10), none, .mov (.t 0)⟩,
  ⟨(some 11), none, .call 0 [] (.c (.fn 192 [])) [(.t 10), (.c (.int .i64 2))]⟩,
  ⟨(some 9), none, .mov (.t 11)⟩])
 (.cond (.t 9) (.seq (.reg [⟨(some 12), none, .mov (.t 0)⟩,
  ⟨(some 13), none, .call 0 [] (.c (.fn 193 [])) [(.t 12)]⟩,
  ⟨(some 14), none, .field 2 none (.t 13)⟩,
  ⟨(some 15), none, .faddr 0 (.t 3)⟩,
  ⟨none, none, .store 1 (.t 15) (.t 14)⟩])
 (.block 1 (.loop [0] [2, 3] (.seq (.seq (.reg [⟨(some 16), none, .mov (.t 0)⟩,
  ⟨(some 17), none, .call 0 [] (.c (.fn 192 [])) [(.t 16), (.c (.int .i64 1))]⟩,
  ⟨(some 18), none, .mov (.t 17)⟩,
  ⟨(some 19), (some (18, false)), .mov (.t 0)⟩,
  ⟨(some 20), (some (18, false)), .call 0 [] (.c (.fn 100 [])) [(.t 19), (.c (.str [95]))]⟩,
  ⟨(some 21), none, .pick (.t 18) (.c (.bool true)) (.t 20)⟩])
 (.cond (.t 21) .skip
 (.exit 1)))
 (.block 2 (.reg [⟨(some 22), none, .faddr 1 (.t 3)⟩,
  ⟨(some 23), none, .loadL none (.t 22)⟩,
  ⟨(some 24), none, .mov (.t 0)⟩,
  ⟨(some 25), none, .call 0 [] (.c (.fn 193 [])) [(.t 24)]⟩,
  ⟨(some 26), none, .field 2 none (.t 25)⟩,
  ⟨(some 27), none, .bslice [(.str [])] 1 [(0, (.t 26))]⟩,
  ⟨(some 28), none, .append 1 (.t 23) (.t 27)⟩,
  ⟨(some 29), none, .faddr 1 (.t 3)⟩,
  ⟨none, none, .store 1 (.t 29) (.t 28)⟩]))))))
 (.seq (.reg [⟨(some 31), none, .mov (.t 0)⟩,
  ⟨(some 32), none, .call 0 [] (.c (.fn 192 [])) [(.t 31), (.c (.int .i64 1))]⟩,
  ⟨(some 30), none, .mov (.t 32)⟩])
 (.cond (.t 30) (.reg [⟨(some 33), none, .mov (.t 0)⟩,
  ⟨(some 34), none, .call 0 [] (.c (.fn 193 [])) [(.t 33)]⟩,
  ⟨(some 35), none, .field 2 none (.t 34)⟩,
  ⟨(some 36), none, .bslice [(.str [])] 1 [(0, (.t 35))]⟩,
  ⟨(some 37), none, .faddr 1 (.t 3)⟩,
  ⟨none, none, .store 1 (.t 37) (.t 36)⟩])
 (.reg [⟨(some 7), none, .mov (.t 0)⟩,
  ⟨(some 8), none, .call 0 [] (.c (.fn 145 [])) [(.t 7), (.c (.str [95]))]⟩]))))))
 (.seq (.reg [⟨(some 38), none, .mov (.t 0)⟩,
  ⟨(some 39), none, .call 0 [] (.c (.fn 145 [])) [(.t 38), (.c (.str [45, 62]))]⟩])
 (.seq (.reg [⟨(some 40), none, .mov (.t 0)⟩,
  ⟨(some 41), none, .call 0 [] (.c (.fn 62 [])) [(.t 40)]⟩,
  ⟨(some 42), none, .faddr 2 (.t 3)⟩,
  ⟨none, none, .store 7 (.t 42) (.t 41)⟩])
 (.seq (.reg [⟨(some 43), none, .load (some 10) (.t 3)⟩,
  ⟨none, none, .store 10 (.t 2) (.t 43)⟩])
 .ret)))))),
  [.cell 2 (some 10)], false, false, 44⟩
theorem co150 : compF Tryz.prog ⟨[], [(5, [0], [2, 3])], [], [], [], [], 150, [], [], [0]⟩ false false Tryz.f150 = some ac150 := by kernel_rfl

/-- (*paideia/parser.parser).sum -/
def ac151 : AF := ⟨(.seq (.reg [⟨(some 2), none, .alloc [(.int .i64 0), (.int .i64 0), (.str []), (.int .i64 0), (.sl .clip []), (.sl .clip []), (.sl .clip [])] false⟩])
 (.seq (.reg [⟨(some 4), none, .mov (.t 0)⟩,
  ⟨(some 5), none, .call 0 [] (.c (.fn 196 [])) [(.t 4)]⟩,
  ⟨(some 3), none, .alloc [(.int .i64 0), (.int .i64 0), (.str []), (.int .i64 0), (.sl .clip []), (.sl .clip []), (.sl .clip [])] false⟩,
  ⟨none, none, .store 7 (.t 3) (.t 5)⟩])
 (.seq (.block 0 (.loop [0] [2, 3] (.seq (.seq (.reg [⟨(some 6), none, .mov (.t 0)⟩,
  ⟨(some 7), none, .bslice [(.str [])] 2 [(0, (.c (.str [43]))), (1, (.c (.str [45])))]⟩,
  ⟨(some 8), none, .call 0 [] (.c (.fn 152 [])) [(.t 6), (.t 7)]⟩])
 (.cond (.t 8) .skip
 (.exit 0)))
 (.block 1 (.reg [⟨(some 9), none, .mov (.t 0)⟩,
  ⟨(some 10), none, .load (some 7) (.t 3)⟩,
  ⟨(some 11), none, .mov (.t 0)⟩,
  ⟨(some 12), none, .mkmet 196 [(.t 11)]⟩,
  ⟨(some 13), none, .call 0 [] (.c (.fn 153 [])) [(.t 9), (.t 10), (.t 12)]⟩,
  ⟨none, none, .store 7 (.t 3) (.t 13)⟩])))))
 (.seq (.reg [⟨(some 14), none, .load (some 7) (.t 3)⟩,
  ⟨none, none, .store 7 (.t 2) (.t 14)⟩])
 .ret)))),
  [.cell 2 (some 7)], false, false, 15⟩
theorem co151 : compF Tryz.prog ⟨[], [(2, [0], [2, 3])], [], [], [], [], 151, [], [], []⟩ false false Tryz.f151 = some ac151 := by kernel_rfl

/-- (*paideia/parser.parser).operator -/
def ac152 : AF := ⟨(.seq (.reg [⟨(some 4), none, .mov (.c (.bool false))⟩])
 (.seq (.reg [⟨(some 5), none, .mov (.t 0)⟩,
  ⟨(some 6), none, .call 0 [] (.c (.fn 192 [])) [(.t 5), (.c (.int .i64 5))]⟩,
  ⟨(some 7), none, .mov (.t 6)⟩,
  ⟨(some 8), (some (7, true)), .mov (.t 1)⟩,
  ⟨(some 9), (some (7, true)), .mov (.t 0)⟩,
  ⟨(some 10), (some (7, true)), .call 0 [] (.c (.fn 142 [])) [(.t 9), (.c (.int .i64 0))]⟩,
  ⟨(some 11), (some (7, true)), .field 2 none (.t 10)⟩,
  ⟨(some 12), (some (7, true)), .call 0 [] (.c (.fn 88 [])) [(.t 8), (.t 11)]⟩,
  ⟨(some 13), none, .pick (.t 7) (.t 12) (.c (.bool false))⟩,
  ⟨(some 4), none, .mov (.t 13)⟩])
 .ret)),
  [.t 4], false, false, 14⟩
theorem co152 : compF Tryz.prog ⟨[], [], [], [], [], [], 152, [], [], []⟩ false false Tryz.f152 = some ac152 := by kernel_rfl

/-- (*paideia/parser.parser).between -/
def ac153 : AF := ⟨(.seq (.reg [⟨(some 4), none, .box (.t 1) 7 false⟩,
  ⟨(some 6), none, .alloc [(.int .i64 0), (.int .i64 0), (.str []), (.int .i64 0), (.sl .clip []), (.sl .clip []), (.sl .clip [])] false⟩])
 (.seq (.reg [⟨(some 9), none, .mov (.t 0)⟩,
  ⟨(some 10), none, .call 0 [] (.c (.fn 193 [])) [(.t 9)]⟩,
  ⟨(some 7), none, .alloc [(.int .i64 0), (.int .i64 0), (.str []), (.int .i64 0)] false⟩,
  ⟨none, none, .store 4 (.t 7) (.t 10)⟩])
 (.seq (.reg [⟨(some 11), none, .faddr 1 (.t 7)⟩,
  ⟨(some 12), none, .load none (.t 11)⟩,
  ⟨(some 13), none, .faddr 2 (.t 7)⟩,
  ⟨(some 14), none, .load none (.t 13)⟩,
  ⟨(some 15), none, .build [(.int .i64 0), (.int .i64 0), (.str []), (.int .i64 0), (.sl .clip []), (.sl .clip []), (.sl .clip [])] [(0, 1, (.c (.int .i64 1))), (1, 1, (.t 12)), (2, 1, (.t 14))]⟩,
  ⟨(some 8), none, .alloc [(.int .i64 0), (.int .i64 0), (.str []), (.int .i64 0), (.sl .clip []), (.sl .clip []), (.sl .clip [])] false⟩,
  ⟨none, none, .store 7 (.t 8) (.t 15)⟩])
 (.seq (.reg [⟨(some 16), none, .faddr 1 (.t 7)⟩,
  ⟨(some 17), none, .load none (.t 16)⟩,
  ⟨(some 18), none, .load (some 7) (.t 8)⟩,
  ⟨(some 19), none, .load (some 7) (.t 4)⟩,
  ⟨(some 20), none, .bslice [(.int .i64 0), (.int .i64 0), (.str []), (.int .i64 0), (.sl .clip []), (.sl .clip []), (.sl .clip [])] 2 [(0, (.t 18)), (1, (.t 19))]⟩,
  ⟨(some 21), none, .build [(.int .i64 0), (.int .i64 0), (.str []), (.int .i64 0), (.sl .clip []), (.sl .clip []), (.sl .clip [])] [(0, 1, (.c (.int .i64 5))), (1, 1, (.t 17)), (4, 1, (.t 20))]⟩,
  ⟨none, none, .store 7 (.t 8) (.t 21)⟩])
 (.seq (.reg [⟨(some 22), none, .faddr 1 (.t 7)⟩,
  ⟨(some 23), none, .loadL none (.t 22)⟩,
  ⟨(some 24), none, .loadL (some 7) (.t 8)⟩,
  ⟨(some 25), none, .mov (.t 2)⟩,
  ⟨(some 26), none, .call 0 [] (.t 25) []⟩,
  ⟨(some 27), none, .bslice [(.int .i64 0), (.int .i64 0), (.str []), (.int .i64 0), (.sl .clip []), (.sl .clip []), (.sl .clip [])] 2 [(0, (.t 24)), (1, (.t 26))]⟩,
  ⟨(some 28), none, .build [(.int .i64 0), (.int .i64 0), (.str []), (.int .i64 0), (.sl .clip []), (.sl .clip []), (.sl .clip [])] [(0, 1, (.c (.int .i64 5))), (1, 1, (.t 23)), (4, 1, (.t 27))]⟩,
  ⟨none, none, .store 7 (.t 6) (.t 28)⟩])
 .ret))))),
  [.cell 6 (some 7)], false, false, 29⟩
theorem co153 : compF Tryz.prog ⟨[], [], [], [], [], [], 153, [], [], [0, 1, 2]⟩ false false Tryz.f153 = some ac153 := by kernel_rfl

/-- (*paideia/parser.parser).data$1 -/
def ac157 : AF := ⟨(.seq (.reg [⟨(some 1), none, .alloc [(.str []), (.sl .clip [])] false⟩])
 (.seq (.reg [⟨(some 2), none, .load none (.t 0)⟩,
  ⟨(some 3), none, .callK 0 [] (.c (.fn 143 [])) [(.t 2), (.c (.int .i64 2))] [(.t 0)]⟩,
  ⟨(some 4), none, .field 2 none (.t 3)⟩,
  ⟨(some 5), none, .load none (.t 0)⟩,
  ⟨(some 6), none, .call 0 [] (.c (.fn 158 [])) [(.t 5)]⟩,
  ⟨(some 7), none, .build [(.str []), (.sl .clip [])] [(0, 1, (.t 4)), (1, 1, (.t 6))]⟩,
  ⟨none, none, .store 2 (.t 1) (.t 7)⟩])
 .ret)),
  [.cell 1 (some 2)], false, false, 8⟩
theorem co157 : compF Tryz.prog ⟨[], [], [], [], [], [], 157, [], [], [0]⟩ false false Tryz.f157 = some ac157 := by kernel_rfl

/-- (*paideia/parser.parser).args -/
def ac158 : AF := ⟨(.seq (.reg [⟨(some 2), none, .mov (.c (.sl .clip []))⟩])
 (.seq (.reg [⟨(some 3), none, .mov (.c (.sl .clip []))⟩])
 (.seq (.block 0 (.loop [0, 3] [] (.seq (.seq (.reg [⟨(some 4), none, .mov (.t 0)⟩,
  ⟨(some 5), none, .call 0 [] (.c (.fn 192 [])) [(.t 4), (.c (.int .i64 1))]⟩,
  ⟨(some 6), none, .mov (.t 5)⟩,
  ⟨(some 7), (some (6, false)), .mov (.t 0)⟩,
  ⟨(some 8), (some (6, false)), .call 0 [] (.c (.fn 192 [])) [(.t 7), (.c (.int .i64 2))]⟩,
  ⟨(some 9), none, .pick (.t 6) (.c (.bool true)) (.t 8)⟩,
  ⟨(some 10), none, .mov (.t 9)⟩,
  ⟨(some 11), (some (10, false)), .mov (.t 0)⟩,
  ⟨(some 12), (some (10, false)), .call 0 [] (.c (.fn 100 [])) [(.t 11), (.c (.str [40]))]⟩,
  ⟨(some 13), none, .pick (.t 10) (.c (.bool true)) (.t 12)⟩])
 (.cond (.t 13) .skip
 (.exit 0)))
 (.block 1 (.reg [⟨(some 14), none, .mov (.t 3)⟩,
  ⟨(some 15), none, .mov (.t 0)⟩,
  ⟨(some 16), none, .call 0 [] (.c (.fn 198 [])) [(.t 15)]⟩,
  ⟨(some 17), none, .bslice [(.int .i64 0), (.str []), (.sl .clip [])] 1 [(0, (.t 16))]⟩,
  ⟨(some 18), none, .append 3 (.t 14) (.t 17)⟩,
  ⟨(some 3), none, .mov (.t 18)⟩])))))
 (.seq (.reg [⟨(some 19), none, .mov (.t 3)⟩,
  ⟨(some 2), none, .mov (.t 19)⟩])
 .ret)))),
  [.t 2], false, false, 20⟩
theorem co158 : compF Tryz.prog ⟨[], [(2, [0, 3], [])], [], [], [], [], 158, [], [], []⟩ false false Tryz.f158 = some ac158 := by kernel_rfl

/-- (*paideia/parser.parser).context -/
def ac159 : AF := ⟨(.seq (.reg [⟨(some 2), none, .box (.t 0) 1 true⟩,
  ⟨(some 3), none, .box (.t 1) 1 true⟩,
  ⟨(some 4), none, .mov (.c (.sl .clip []))⟩])
 (.seq (.seq (.reg [⟨(some 7), none, .load none (.t 2)⟩,
  ⟨(some 8), none, .call 0 [] (.c (.fn 199 [])) [(.t 7)]⟩,
  ⟨(some 9), none, .not (.t 8)⟩])
 (.cond (.t 9) (.seq (.reg [⟨(some 4), none, .mov (.c (.sl .clip []))⟩])
 .ret)
 .skip))
 (.seq (.reg [⟨(some 10), none, .mkfn 200 [(.t 2), (.t 3)]⟩,
  ⟨(some 5), none, .mov (.t 10)⟩])
 (.seq (.reg [⟨(some 6), none, .mov (.c (.sl .clip []))⟩])
 (.seq (.seq (.reg [⟨(some 11), none, .load none (.t 2)⟩,
  ⟨(some 12), none, .call 0 [] (.c (.fn 109 [])) [(.t 11), (.c (.str [40]))]⟩])
 (.cond (.t 12) (.seq (.reg [⟨(some 13), none, .mov (.t 6)⟩,
  ⟨(some 14), none, .mov (.t 5)⟩,
  ⟨(some 15), none, .call 0 [] (.t 14) []⟩,
  ⟨(some 16), none, .bslice [(.str []), (.int .i64 0), (.str []), (.sl .clip [])] 1 [(0, (.t 15))]⟩,
  ⟨(some 17), none, .append 4 (.t 13) (.t 16)⟩,
  ⟨(some 6), none, .mov (.t 17)⟩])
 (.seq (.block 0 (.loop [2, 5, 6] [] (.seq (.seq (.reg [⟨(some 18), none, .load none (.t 2)⟩,
  ⟨(some 19), none, .call 0 [] (.c (.fn 109 [])) [(.t 18), (.c (.str [44]))]⟩])
 (.cond (.t 19) .skip
 (.exit 0)))
 (.block 1 (.reg [⟨(some 20), none, .mov (.t 6)⟩,
  ⟨(some 21), none, .mov (.t 5)⟩,
  ⟨(some 22), none, .call 0 [] (.t 21) []⟩,
  ⟨(some 23), none, .bslice [(.str []), (.int .i64 0), (.str []), (.sl .clip [])] 1 [(0, (.t 22))]⟩,
  ⟨(some 24), none, .append 4 (.t 20) (.t 23)⟩,
  ⟨(some 6), none, .mov (.t 24)⟩])))))
 (.reg [⟨(some 25), none, .load none (.t 2)⟩,
  ⟨(some 26), none, .call 0 [] (.c (.fn 145 [])) [(.t 25), (.c (.str [41]))]⟩])))
 (.reg [⟨(some 27), none, .mov (.t 6)⟩,
  ⟨(some 28), none, .mov (.t 5)⟩,
  ⟨(some 29), none, .call 0 [] (.t 28) []⟩,
  ⟨(some 30), none, .bslice [(.str []), (.int .i64 0), (.str []), (.sl .clip [])] 1 [(0, (.t 29))]⟩,
  ⟨(some 31), none, .append 4 (.t 27) (.t 30)⟩,
  ⟨(some 6), none, .mov (.t 31)⟩])))
 (.seq (.reg [⟨(some 32), none, .load none (.t 2)⟩,
  ⟨(some 33), none, .call 0 [] (.c (.fn 145 [])) [(.t 32), (.c (.str [61, 62]))]⟩])
 (.seq (.reg [⟨(some 34), none, .mov (.t 6)⟩,
  ⟨(some 4), none, .mov (.t 34)⟩])
 .ret))))))),
  [.t 4], false, false, 35⟩
theorem co159 : compF Tryz.prog ⟨[2, 3], [(7, [2, 5, 6], [])], [], [], [], [], 159, [], [], []⟩ false false Tryz.f159 = some ac159 := by kernel_rfl

/-- (*paideia/parser.parser).name -/
def ac163 : AF := ⟨(.seq (.reg [⟨(some 2), none, .mov (.c (.str []))⟩,
  ⟨(some 3), none, .mov (.c (.int .i64 0))⟩])
 (.seq (.seq (.reg [⟨(some 6), none, .mov (.t 0)⟩,
  ⟨(some 7), none, .call 0 [] (.c (.fn 192 [])) [(.t 6), (.c (.int .i64 1))]⟩])
 (.cond (.t 7) (.seq (.reg [⟨(some 8), none, .mov (.t 0)⟩,
  ⟨(some 9), none, .call 0 [] (.c (.fn 193 [])) [(.t 8)]⟩,
  ⟨(some 4), none, .alloc [(.int .i64 0), (.int .i64 0), (.str []), (.int .i64 0)] false⟩,
  ⟨none, none, .store 4 (.t 4) (.t 9)⟩])
 (.seq (.reg [⟨(some 10), none, .faddr 2 (.t 4)⟩,
  ⟨(some 11), none, .load none (.t 10)⟩,
  ⟨(some 12), none, .faddr 1 (.t 4)⟩,
  ⟨(some 13), none, .load none (.t 12)⟩,
  ⟨(some 2), none, .mov (.t 11)⟩,
  ⟨(some 3), none, .mov (.t 13)⟩])
 .ret))
 .skip))
 (.seq (.reg [⟨(some 14), none, .mov (.t 0)⟩,
  ⟨(some 15), none, .call 0 [] (.c (.fn 145 [])) [(.t 14), (.c (.str [40]))]⟩])
 (.seq (.reg [⟨(some 16), none, .mov (.t 0)⟩,
  ⟨(some 17), none, .call 0 [] (.c (.fn 143 [])) [(.t 16), (.c (.int .i64 5))]⟩,
  ⟨(some 5), none, .alloc [(.int .i64 0), (.int .i64 0), (.str []), (.int .i64 0)] false⟩,
  ⟨none, none, .store 4 (.t 5) (.t 17)⟩])
 (.seq (.reg [⟨(some 18), none, .mov (.t 0)⟩,
  ⟨(some 19), none, .call 0 [] (.c (.fn 145 [])) [(.t 18), (.c (.str [41]))]⟩])
 (.seq (.reg [⟨(some 20), none, .faddr 2 (.t 5)⟩,
  ⟨(some 21), none, .load none (.t 20)⟩,
  ⟨(some 22), none, .faddr 1 (.t 5)⟩,
  ⟨(some 23), none, .load none (.t 22)⟩,
  ⟨(some 2), none, .mov (.t 21)⟩,
  ⟨(some 3), none, .mov (.t 23)⟩])
 .ret)))))),
  [.t 2, .t 3], false, false, 24⟩
theorem co163 : compF Tryz.prog ⟨[], [], [], [], [], [], 163, [], [], [0]⟩ false false Tryz.f163 = some ac163 := by kernel_rfl

/-- (*paideia/parser.parser).scheme -/
def ac164 : AF := ⟨(.seq (.reg [⟨(some 2), none, .alloc [(.sl .clip []), (.sl .clip []), (.int .i64 0), (.str []), (.sl .clip [])] false⟩])
 (.seq (.reg [⟨(some 8), none, .mov (.t 0)⟩,
  ⟨(some 9), none, .mov (.t 0)⟩,
  ⟨(some 10), none, .mkmet 198 [(.t 9)]⟩,
  ⟨(some 11), none, .call 0 [] (.c (.fn 159 [])) [(.t 8), (.t 10)]⟩,
  ⟨(some 3), none, .mov (.t 11)⟩])
 (.seq (.reg [⟨(some 12), none, .mov (.t 0)⟩,
  ⟨(some 13), none, .call 0 [] (.c (.fn 201 [])) [(.t 12)]⟩,
  ⟨(some 4), none, .alloc [(.int .i64 0), (.str []), (.sl .clip [])] false⟩,
  ⟨none, none, .store 3 (.t 4) (.t 13)⟩])
 (.seq (.reg [⟨(some 14), none, .load (some 3) (.t 4)⟩,
  ⟨(some 15), none, .bslice [(.int .i64 0), (.str []), (.sl .clip [])] 1 [(0, (.t 14))]⟩,
  ⟨(some 5), none, .mov (.t 15)⟩])
 (.seq (.seq (.reg [⟨(some 16), none, .mov (.t 3)⟩,
  ⟨(some 17), none, .len 1 (.t 16)⟩,
  ⟨(some 18), none, .mov (.c (.int .i64 0))⟩])
 (.block 0 (.loop [3, 5, 16, 17, 18] [2, 4] (.seq (.reg [⟨(some 19), none, .bin .lss (.t 18) (.t 17)⟩])
 (.seq (.cond (.t 19) .skip
 (.exit 0))
 (.seq (.block 1 (.seq (.reg [⟨(some 20), none, .iaddr 4 (.t 16) (.t 18)⟩,
  ⟨(some 21), none, .load (some 4) (.t 20)⟩,
  ⟨(some 7), none, .alloc [(.str []), (.int .i64 0), (.str []), (.sl .clip [])] false⟩,
  ⟨none, none, .store 4 (.t 7) (.t 21)⟩])
 (.reg [⟨(some 22), none, .mov (.t 5)⟩,
  ⟨(some 23), none, .faddr 1 (.t 7)⟩,
  ⟨(some 24), none, .load (some 3) (.t 23)⟩,
  ⟨(some 25), none, .bslice [(.int .i64 0), (.str []), (.sl .clip [])] 1 [(0, (.t 24))]⟩,
  ⟨(some 26), none, .append 3 (.t 22) (.t 25)⟩,
  ⟨(some 5), none, .mov (.t 26)⟩])))
 (.reg [⟨(some 27), none, .bin .add (.t 18) (.c (.int .i64 1))⟩,
  ⟨(some 18), none, .mov (.t 27)⟩])))))))
 (.seq (.reg [⟨(some 28), none, .mov (.t 5)⟩,
  ⟨(some 29), none, .call 0 [] (.c (.fn 202 [])) [(.t 28)]⟩,
  ⟨(some 30), none, .mov (.t 3)⟩,
  ⟨(some 31), none, .loadL (some 3) (.t 4)⟩,
  ⟨(some 32), none, .build [(.sl .clip []), (.sl .clip []), (.int .i64 0), (.str []), (.sl .clip [])] [(0, 1, (.t 29)), (1, 1, (.t 30)), (2, 3, (.t 31))]⟩,
  ⟨none, none, .store 5 (.t 2) (.t 32)⟩])
 .ret)))))),
  [.cell 2 (some 5)], false, false, 33⟩
theorem co164 : compF Tryz.prog ⟨[], [(5, [3, 5, 16, 17, 18], [2, 4])], [], [], [], [], 164, [], [], [0]⟩ false false Tryz.f164 = some ac164 := by kernel_rfl

/-- slices.IndexFunc[[]paideia/parser.signature,paideia/parser.signature] -/
def ac165 : AF := ⟨(.seq (.reg [⟨(some 4), none, .mov (.c (.int .i64 0))⟩])
 (.seq (.seq (.reg [⟨(some 6), none, .mov (.t 0)⟩,
  ⟨(some 7), none, .len 1 (.t 6)⟩,
  ⟨(some 8), none, .mov (.c (.int .i64 0))⟩])
 (.block 0 (.loop [0, 1, 7, 8] [] (.seq (.reg [⟨(some 9), none, .bin .lss (.t 8) (.t 7)⟩])
 (.seq (.cond (.t 9) .skip
 (.exit 0))
 (.seq (.block 1 (.seq (.reg [⟨(some 10), none, .mov (.t 8)⟩,
  ⟨(some 5), none, .mov (.t 10)⟩])
 (.seq (.reg [⟨(some 11), none, .mov (.t 1)⟩,
  ⟨(some 12), none, .mov (.t 0)⟩,
  ⟨(some 13), none, .mov (.t 5)⟩,
  ⟨(some 14), none, .iaddr 7 (.t 12) (.t 13)⟩,
  ⟨(some 15), none, .load (some 7) (.t 14)⟩,
  ⟨(some 16), none, .call 0 [] (.t 11) [(.t 15)]⟩])
 (.cond (.t 16) (.seq (.reg [⟨(some 17), none, .mov (.t 5)⟩,
  ⟨(some 4), none, .mov (.t 17)⟩])
 .ret)
 .skip))))
 (.reg [⟨(some 18), none, .bin .add (.t 8) (.c (.int .i64 1))⟩,
  ⟨(some 8), none, .mov (.t 18)⟩])))))))
 (.seq (.reg [⟨(some 4), none, .mov (.c (.int .i64 (-1)))⟩])
 .ret))),
  [.t 4], false, true, 19⟩
theorem co165 : compF Tryz.prog ⟨[], [(2, [0, 1, 7, 8], [])], [], [], [], [], 165, [], [], []⟩ false true Tryz.f165 = some ac165 := by kernel_rfl

/-- paideia/printer.joined[paideia/api.Pred] -/
def ac166 : AF := ⟨(.seq (.reg [⟨(some 6), none, .mov (.c (.str []))⟩])
 (.seq (.reg [⟨(some 7), none, .mov (.c (.sl .clip []))⟩])
 (.seq (.seq (.reg [⟨(some 10), none, .mov (.t 0)⟩,
  ⟨(some 11), none, .len 1 (.t 10)⟩,
  ⟨(some 12), none, .mov (.c (.int .i64 0))⟩])
 (.block 0 (.loop [1, 2, 7, 10, 11, 12] [] (.seq (.reg [⟨(some 13), none, .bin .lss (.t 12) (.t 11)⟩])
 (.seq (.cond (.t 13) .skip
 (.exit 0))
 (.seq (.block 1 (.seq (.reg [⟨(some 14), none, .iaddr 4 (.t 10) (.t 12)⟩,
  ⟨(some 15), none, .load (some 4) (.t 14)⟩,
  ⟨(some 9), none, .alloc [(.str []), (.int .i64 0), (.str []), (.sl .clip [])] false⟩,
  ⟨none, none, .store 4 (.t 9) (.t 15)⟩])
 (.reg [⟨(some 16), none, .mov (.t 7)⟩,
  ⟨(some 17), none, .mov (.t 2)⟩,
  ⟨(some 18), none, .load (some 4) (.t 9)⟩,
  ⟨(some 19), none, .call 0 [] (.t 17) [(.t 18)]⟩,
  ⟨(some 20), none, .bslice [(.str [])] 1 [(0, (.t 19))]⟩,
  ⟨(some 21), none, .append 1 (.t 16) (.t 20)⟩,
  ⟨(some 7), none, .mov (.t 21)⟩])))
 (.reg [⟨(some 22), none, .bin .add (.t 12) (.c (.int .i64 1))⟩,
  ⟨(some 12), none, .mov (.t 22)⟩])))))))
 (.seq (.reg [⟨(some 23), none, .mov (.t 7)⟩,
  ⟨(some 24), none, .mov (.t 1)⟩,
  ⟨(some 25), none, .call 0 [] (.c (.fn 203 [])) [(.t 23), (.t 24)]⟩,
  ⟨(some 6), none, .mov (.t 25)⟩])
 .ret)))),
  [.t 6], false, true, 26⟩
theorem co166 : compF Tryz.prog ⟨[], [(3, [1, 2, 7, 10, 11, 12], [])], [], [], [], [], 166, [], [], []⟩ false true Tryz.f166 = some ac166 := by kernel_rfl

/-- paideia/lexer.All$1 -/
def ac189 : AF := ⟨(.seq (.seq (.reg [⟨(some 7), none, .load none (.t 1)⟩,
  ⟨(some 8), none, .len 1 (.t 7)⟩,
  ⟨(some 9), none, .bin .gtr (.t 8) (.c (.int .i64 20000))⟩])
 (.cond (.t 9) (.seq (.reg [⟨(some 10), none, .mov (.t 0)⟩,
  ⟨(some 11), none, .build [(.int .i64 0), (.int .i64 0), (.str []), (.int .i64 0)] []⟩,
  ⟨(some 12), none, .gload 4⟩,
  ⟨(some 13), none, .build [(.int .i64 0), .nili] [(0, 1, (.c (.int .i64 20000))), (1, 1, (.t 12))]⟩,
  ⟨(some 14), none, .box (.t 13) 2 true⟩,
  ⟨(some 15), none, .mkif 103 (.t 14)⟩,
  ⟨(some 16), none, .call 0 [] (.t 10) [(.t 11), (.t 15)]⟩])
 .ret)
 .skip))
 (.seq (.reg [⟨(some 3), none, .mov (.c (.int .i64 0))⟩])
 (.block 0 (.loop [0, 1, 3] [] (.seq (.seq (.reg [⟨(some 17), none, .mov (.t 3)⟩,
  ⟨(some 18), none, .load none (.t 1)⟩,
  ⟨(some 19), none, .len 1 (.t 18)⟩,
  ⟨(some 20), none, .bin .lss (.t 17) (.t 19)⟩])
 (.cond (.t 20) .skip
 (.exit 0)))
 (.block 1 (.seq (.seq (.reg [⟨(some 21), none, .load none (.t 1)⟩,
  ⟨(some 22), none, .mov (.t 3)⟩,
  ⟨(some 23), none, .slice 1 (.t 21) (some (.t 22)) none none⟩,
  ⟨(some 24), none, .call 0 [] (.c (.fn 190 [])) [(.t 23)]⟩,
  ⟨(some 4), none, .mov (.t 24)⟩])
 (.seq (.reg [⟨(some 25), none, .mov (.t 4)⟩,
  ⟨(some 26), none, .bin .gtr (.t 25) (.c (.int .i64 0))⟩])
 (.cond (.t 26) (.seq (.reg [⟨(some 27), none, .mov (.t 3)⟩,
  ⟨(some 28), none, .mov (.t 4)⟩,
  ⟨(some 29), none, .bin .add (.t 27) (.t 28)⟩,
  ⟨(some 3), none, .mov (.t 29)⟩])
 (.exit 1))
 .skip)))
 (.seq (.reg [⟨(some 31), none, .load none (.t 1)⟩,
  ⟨(some 32), none, .mov (.t 3)⟩,
  ⟨(some 33), none, .slice 1 (.t 31) (some (.t 32)) none none⟩,
  ⟨(some 34), none, .call 0 [] (.c (.fn 191 [])) [(.t 33)]⟩,
  ⟨(some 30), none, .mov (.t 34)⟩,
  ⟨(some 35), none, .extract (.t 30) 0⟩,
  ⟨(some 36), none, .extract (.t 30) 1⟩,
  ⟨(some 5), none, .alloc [(.int .i64 0), (.int .i64 0), (.str []), (.int .i64 0)] false⟩,
  ⟨none, none, .store 4 (.t 5) (.t 35)⟩,
  ⟨(some 6), none, .mov (.t 36)⟩])
 (.seq (.seq (.reg [⟨(some 37), none, .mov (.t 6)⟩,
  ⟨(some 38), none, .not (.t 37)⟩])
 (.cond (.t 38) (.seq (.reg [⟨(some 39), none, .mov (.t 0)⟩,
  ⟨(some 40), none, .build [(.int .i64 0), (.int .i64 0), (.str []), (.int .i64 0)] []⟩,
  ⟨(some 41), none, .mov (.t 3)⟩,
  ⟨(some 42), none, .gload 5⟩,
  ⟨(some 43), none, .build [(.int .i64 0), .nili] [(0, 1, (.t 41)), (1, 1, (.t 42))]⟩,
  ⟨(some 44), none, .box (.t 43) 2 true⟩,
  ⟨(some 45), none, .mkif 103 (.t 44)⟩,
  ⟨(some 46), none, .call 0 [] (.t 39) [(.t 40), (.t 45)]⟩])
 .ret)
 .skip))
 (.seq (.reg [⟨(some 47), none, .mov (.t 3)⟩,
  ⟨(some 48), none, .faddr 1 (.t 5)⟩,
  ⟨none, none, .store 1 (.t 48) (.t 47)⟩])
 (.seq (.seq (.reg [⟨(some 49), none, .mov (.t 0)⟩,
  ⟨(some 50), none, .load (some 4) (.t 5)⟩,
  ⟨(some 51), none, .call 0 [] (.t 49) [(.t 50), (.c .nili)]⟩,
  ⟨(some 52), none, .not (.t 51)⟩])
 (.cond (.t 52) .ret
 .skip))
 (.reg [⟨(some 53), none, .mov (.t 3)⟩,
  ⟨(some 54), none, .faddr 2 (.t 5)⟩,
  ⟨(some 55), none, .load none (.t 54)⟩,
  ⟨(some 56), none, .len 0 (.t 55)⟩,
  ⟨(some 57), none, .bin .add (.t 53) (.t 56)⟩,
  ⟨(some 3), none, .mov (.t 57)⟩])))))))))))),
  [], false, false, 58⟩
theorem co189 : compF Tryz.prog ⟨[14, 44], [(3, [0, 1, 3], [])], [], [4, 5], [], [], 189, [], [], []⟩ false false Tryz.f189 = some ac189 := by kernel_rfl

/-- paideia/lexer.blank -/
def ac190 : AF := ⟨(.seq (.reg [⟨(some 2), none, .mov (.c (.int .i64 0))⟩])
 (.seq (.block 0 (.seq (.reg [⟨(some 4), none, .mov (.t 0)⟩,
  ⟨(some 5), none, .iaddr 1 (.t 4) (.c (.int .i64 0))⟩,
  ⟨(some 6), none, .load none (.t 5)⟩,
  ⟨(some 7), none, .bin .eql (.t 6) (.c (.int .u8 32))⟩,
  ⟨(some 8), none, .mov (.t 7)⟩,
  ⟨(some 9), (some (8, false)), .mov (.t 0)⟩,
  ⟨(some 10), (some (8, false)), .iaddr 1 (.t 9) (.c (.int .i64 0))⟩,
  ⟨(some 11), (some (8, false)), .load none (.t 10)⟩,
  ⟨(some 12), (some (8, false)), .bin .eql (.t 11) (.c (.int .u8 9))⟩,
  ⟨(some 13), none, .pick (.t 8) (.c (.bool true)) (.t 12)⟩,
  ⟨(some 14), none, .mov (.t 13)⟩,
  ⟨(some 15), (some (14, false)), .mov (.t 0)⟩,
  ⟨(some 16), (some (14, false)), .iaddr 1 (.t 15) (.c (.int .i64 0))⟩,
  ⟨(some 17), (some (14, false)), .load none (.t 16)⟩,
  ⟨(some 18), (some (14, false)), .bin .eql (.t 17) (.c (.int .u8 10))⟩,
  ⟨(some 19), none, .pick (.t 14) (.c (.bool true)) (.t 18)⟩,
  ⟨(some 20), none, .mov (.t 19)⟩,
  ⟨(some 21), (some (20, false)), .mov (.t 0)⟩,
  ⟨(some 22), (some (20, false)), .iaddr 1 (.t 21) (.c (.int .i64 0))⟩,
  ⟨(some 23), (some (20, false)), .load none (.t 22)⟩,
  ⟨(some 24), (some (20, false)), .bin .eql (.t 23) (.c (.int .u8 13))⟩,
  ⟨(some 25), none, .pick (.t 20) (.c (.bool true)) (.t 24)⟩,
  ⟨(some 3), none, .mov (.t 25)⟩])
 (.cond (.t 3) (.seq (.reg [⟨(some 2), none, .mov (.c (.int .i64 1))⟩])
 .ret)
 (.seq (.reg [⟨(some 27), none, .mov (.t 0)⟩,
  ⟨(some 28), none, .len 1 (.t 27)⟩,
  ⟨(some 29), none, .bin .gtr (.t 28) (.c (.int .i64 1))⟩,
  ⟨(some 30), none, .mov (.t 29)⟩,
  ⟨(some 31), (some (30, true)), .mov (.t 0)⟩,
  ⟨(some 32), (some (30, true)), .iaddr 1 (.t 31) (.c (.int .i64 0))⟩,
  ⟨(some 33), (some (30, true)), .load none (.t 32)⟩,
  ⟨(some 34), (some (30, true)), .bin .eql (.t 33) (.c (.int .u8 45))⟩,
  ⟨(some 35), none, .pick (.t 30) (.t 34) (.c (.bool false))⟩,
  ⟨(some 36), none, .mov (.t 35)⟩,
  ⟨(some 37), (some (36, true)), .mov (.t 0)⟩,
  ⟨(some 38), (some (36, true)), .iaddr 1 (.t 37) (.c (.int .i64 1))⟩,
  ⟨(some 39), (some (36, true)), .load none (.t 38)⟩,
  ⟨(some 40), (some (36, true)), .bin .eql (.t 39) (.c (.int .u8 45))⟩,
  ⟨(some 41), none, .pick (.t 36) (.t 40) (.c (.bool false))⟩,
  ⟨(some 26), none, .mov (.t 41)⟩])
 (.cond (.t 26) (.seq (.reg [⟨(some 42), none, .mov (.t 0)⟩,
  ⟨(some 43), none, .call 0 [] (.c (.fn 210 [])) [(.t 42), (.c (.fn 211 []))]⟩,
  ⟨(some 2), none, .mov (.t 43)⟩])
 .ret)
 .skip)))))
 (.seq (.reg [⟨(some 2), none, .mov (.c (.int .i64 0))⟩])
 .ret))),
  [.t 2], false, true, 44⟩
theorem co190 : compF Tryz.prog ⟨[], [], [], [], [], [], 190, [], [], []⟩ false true Tryz.f190 = some ac190 := by kernel_rfl

/-- paideia/lexer.word -/
def ac191 : AF := ⟨(.seq (.reg [⟨(some 2), none, .alloc [(.int .i64 0), (.int .i64 0), (.str []), (.int .i64 0)] false⟩,
  ⟨(some 3), none, .mov (.c (.bool false))⟩])
 (.seq (.seq (.reg [⟨(some 5), none, .mov (.t 0)⟩,
  ⟨(some 6), none, .iaddr 1 (.t 5) (.c (.int .i64 0))⟩,
  ⟨(some 7), none, .load none (.t 6)⟩,
  ⟨(some 4), none, .mov (.t 7)⟩])
 (.block 0 (.seq (.reg [⟨(some 9), none, .mov (.t 4)⟩,
  ⟨(some 10), none, .call 0 [] (.c (.fn 212 [])) [(.t 9)]⟩,
  ⟨(some 11), none, .mov (.t 10)⟩,
  ⟨(some 12), (some (11, false)), .mov (.t 4)⟩,
  ⟨(some 13), (some (11, false)), .call 0 [] (.c (.fn 213 [])) [(.t 12)]⟩,
  ⟨(some 14), none, .pick (.t 11) (.c (.bool true)) (.t 13)⟩,
  ⟨(some 8), none, .mov (.t 14)⟩])
 (.cond (.t 8) (.seq (.reg [⟨(some 15), none, .mov (.t 0)⟩,
  ⟨(some 16), none, .call 0 [] (.c (.fn 214 [])) [(.t 15)]⟩,
  ⟨(some 17), none, .extract (.t 16) 0⟩,
  ⟨(some 18), none, .extract (.t 16) 1⟩,
  ⟨none, none, .store 4 (.t 2) (.t 17)⟩,
  ⟨(some 3), none, .mov (.t 18)⟩])
 .ret)
 (.seq (.reg [⟨(some 20), none, .mov (.t 4)⟩,
  ⟨(some 21), none, .call 0 [] (.c (.fn 215 [])) [(.t 20)]⟩,
  ⟨(some 19), none, .mov (.t 21)⟩])
 (.cond (.t 19) (.seq (.reg [⟨(some 22), none, .mov (.t 0)⟩,
  ⟨(some 23), none, .call 0 [] (.c (.fn 216 [])) [(.t 22)]⟩,
  ⟨(some 24), none, .extract (.t 23) 0⟩,
  ⟨(some 25), none, .extract (.t 23) 1⟩,
  ⟨none, none, .store 4 (.t 2) (.t 24)⟩,
  ⟨(some 3), none, .mov (.t 25)⟩])
 .ret)
 (.seq (.reg [⟨(some 27), none, .mov (.t 4)⟩,
  ⟨(some 28), none, .bin .eql (.t 27) (.c (.int .u8 39))⟩,
  ⟨(some 26), none, .mov (.t 28)⟩])
 (.cond (.t 26) (.seq (.reg [⟨(some 29), none, .mov (.t 0)⟩,
  ⟨(some 30), none, .call 0 [] (.c (.fn 217 [])) [(.t 29)]⟩,
  ⟨(some 31), none, .extract (.t 30) 0⟩,
  ⟨(some 32), none, .extract (.t 30) 1⟩,
  ⟨none, none, .store 4 (.t 2) (.t 31)⟩,
  ⟨(some 3), none, .mov (.t 32)⟩])
 .ret)
 .skip))))))))
 (.seq (.reg [⟨(some 33), none, .mov (.t 0)⟩,
  ⟨(some 34), none, .call 0 [] (.c (.fn 218 [])) [(.t 33)]⟩,
  ⟨(some 35), none, .extract (.t 34) 0⟩,
  ⟨(some 36), none, .extract (.t 34) 1⟩,
  ⟨none, none, .store 4 (.t 2) (.t 35)⟩,
  ⟨(some 3), none, .mov (.t 36)⟩])
 .ret))),
  [.cell 2 (some 4), .t 3], false, true, 37⟩
theorem co191 : compF Tryz.prog ⟨[], [], [], [], [], [], 191, [], [], []⟩ false true Tryz.f191 = some ac191 := by kernel_rfl

/-- (*paideia/parser.parser).kind -/
def ac192 : AF := ⟨(.seq (.reg [⟨(some 4), none, .mov (.c (.bool false))⟩])
 (.seq (.reg [⟨(some 5), none, .mov (.t 0)⟩,
  ⟨(some 6), none, .call 0 [] (.c (.fn 142 [])) [(.t 5), (.c (.int .i64 0))]⟩,
  ⟨(some 7), none, .field 0 none (.t 6)⟩,
  ⟨(some 8), none, .mov (.t 1)⟩,
  ⟨(some 9), none, .bin .eql (.t 7) (.t 8)⟩,
  ⟨(some 4), none, .mov (.t 9)⟩])
 .ret)),
  [.t 4], false, false, 10⟩
theorem co192 : compF Tryz.prog ⟨[], [], [], [], [], [], 192, [], [], []⟩ false false Tryz.f192 = some ac192 := by kernel_rfl

/-- (*paideia/parser.parser).takes -/
def ac193 : AF := ⟨(.seq (.reg [⟨(some 2), none, .alloc [(.int .i64 0), (.int .i64 0), (.str []), (.int .i64 0)] false⟩])
 (.seq (.reg [⟨(some 4), none, .mov (.t 0)⟩,
  ⟨(some 5), none, .call 0 [] (.c (.fn 142 [])) [(.t 4), (.c (.int .i64 0))]⟩,
  ⟨(some 3), none, .alloc [(.int .i64 0), (.int .i64 0), (.str []), (.int .i64 0)] false⟩,
  ⟨none, none, .store 4 (.t 3) (.t 5)⟩])
 (.seq (.reg [⟨(some 6), none, .mov (.t 0)⟩,
  ⟨(some 7), none, .nilck (.t 6)⟩,
  ⟨(some 8), none, .faddr 1 (.t 7)⟩,
  ⟨(some 9), none, .load none (.t 8)⟩,
  ⟨(some 10), none, .bin .add (.t 9) (.c (.int .i64 1))⟩,
  ⟨(some 11), none, .nilck (.t 6)⟩,
  ⟨(some 12), none, .faddr 1 (.t 11)⟩,
  ⟨none, none, .store 1 (.t 12) (.t 10)⟩])
 (.seq (.reg [⟨(some 13), none, .load (some 4) (.t 3)⟩,
  ⟨none, none, .store 4 (.t 2) (.t 13)⟩])
 .ret)))),
  [.cell 2 (some 4)], false, false, 14⟩
theorem co193 : compF Tryz.prog ⟨[], [], [], [], [], [], 193, [], [], []⟩ false false Tryz.f193 = some ac193 := by kernel_rfl

/-- slices.Backward[[]string,string] -/
def ac194 : AF := ⟨(.seq (.reg [⟨(some 1), none, .box (.t 0) 1 true⟩,
  ⟨(some 2), none, .mov (.c .nilfn)⟩])
 (.seq (.reg [⟨(some 3), none, .mkfn 219 [(.t 1)]⟩,
  ⟨(some 2), none, .mov (.t 3)⟩])
 .ret)),
  [.t 2], false, false, 4⟩
theorem co194 : compF Tryz.prog ⟨[1], [], [], [], [], [], 194, [], [], []⟩ false false Tryz.f194 = some ac194 := by kernel_rfl

/-- (*paideia/parser.parser).braces$1 -/
def ac195 : AF := ⟨(.seq (.reg [⟨(some 1), none, .mov (.c (.bool false))⟩])
 (.seq (.reg [⟨(some 2), none, .load none (.t 0)⟩,
  ⟨(some 3), none, .call 0 [] (.c (.fn 100 [])) [(.t 2), (.c (.str [125]))]⟩,
  ⟨(some 1), none, .mov (.t 3)⟩])
 .ret)),
  [.t 1], false, false, 4⟩
theorem co195 : compF Tryz.prog ⟨[], [], [], [], [], [], 195, [], [], []⟩ false false Tryz.f195 = some ac195 := by kernel_rfl

/-- (*paideia/parser.parser).product -/
def ac196 : AF := ⟨(.seq (.reg [⟨(some 2), none, .alloc [(.int .i64 0), (.int .i64 0), (.str []), (.int .i64 0), (.sl .clip []), (.sl .clip []), (.sl .clip [])] false⟩])
 (.seq (.reg [⟨(some 4), none, .mov (.t 0)⟩,
  ⟨(some 5), none, .call 0 [] (.c (.fn 220 [])) [(.t 4)]⟩,
  ⟨(some 3), none, .alloc [(.int .i64 0), (.int .i64 0), (.str []), (.int .i64 0), (.sl .clip []), (.sl .clip []), (.sl .clip [])] false⟩,
  ⟨none, none, .store 7 (.t 3) (.t 5)⟩])
 (.seq (.block 0 (.loop [0] [2, 3] (.seq (.seq (.reg [⟨(some 6), none, .mov (.t 0)⟩,
  ⟨(some 7), none, .bslice [(.str [])] 1 [(0, (.c (.str [42])))]⟩,
  ⟨(some 8), none, .call 0 [] (.c (.fn 152 [])) [(.t 6), (.t 7)]⟩])
 (.cond (.t 8) .skip
 (.exit 0)))
 (.block 1 (.reg [⟨(some 9), none, .mov (.t 0)⟩,
  ⟨(some 10), none, .load (some 7) (.t 3)⟩,
  ⟨(some 11), none, .mov (.t 0)⟩,
  ⟨(some 12), none, .mkmet 220 [(.t 11)]⟩,
  ⟨(some 13), none, .call 0 [] (.c (.fn 153 [])) [(.t 9), (.t 10), (.t 12)]⟩,
  ⟨none, none, .store 7 (.t 3) (.t 13)⟩])))))
 (.seq (.reg [⟨(some 14), none, .load (some 7) (.t 3)⟩,
  ⟨none, none, .store 7 (.t 2) (.t 14)⟩])
 .ret)))),
  [.cell 2 (some 7)], false, false, 15⟩
theorem co196 : compF Tryz.prog ⟨[], [(2, [0], [2, 3])], [], [], [], [], 196, [], [], []⟩ false false Tryz.f196 = some ac196 := by kernel_rfl

/-- (*paideia/parser.parser).hasContext -/
def ac199 : AF := ⟨(.seq (.reg [⟨(some 2), none, .mov (.c (.bool false))⟩])
 (.seq (.reg [⟨(some 3), none, .mov (.c (.int .i64 0))⟩])
 (.seq (.block 0 (.seq (.reg [⟨(some 5), none, .mov (.t 0)⟩,
  ⟨(some 6), none, .call 0 [] (.c (.fn 100 [])) [(.t 5), (.c (.str [40]))]⟩,
  ⟨(some 4), none, .mov (.t 6)⟩])
 (.cond (.t 4) (.reg [⟨(some 7), none, .mov (.t 0)⟩,
  ⟨(some 8), none, .call 0 [] (.c (.fn 221 [])) [(.t 7), (.c (.int .i64 0))]⟩,
  ⟨(some 3), none, .mov (.t 8)⟩])
 (.seq (.reg [⟨(some 10), none, .mov (.t 0)⟩,
  ⟨(some 11), none, .call 0 [] (.c (.fn 192 [])) [(.t 10), (.c (.int .i64 2))]⟩,
  ⟨(some 12), none, .mov (.t 11)⟩,
  ⟨(some 13), (some (12, true)), .mov (.t 0)⟩,
  ⟨(some 14), (some (12, true)), .call 0 [] (.c (.fn 142 [])) [(.t 13), (.c (.int .i64 1))]⟩,
  ⟨(some 15), (some (12, true)), .call 0 [] (.c (.fn 141 [])) [(.t 14), (.c (.str [40]))]⟩,
  ⟨(some 16), none, .pick (.t 12) (.t 15) (.c (.bool false))⟩,
  ⟨(some 9), none, .mov (.t 16)⟩])
 (.cond (.t 9) (.seq (.reg [⟨(some 17), none, .mov (.t 0)⟩,
  ⟨(some 18), none, .call 0 [] (.c (.fn 221 [])) [(.t 17), (.c (.int .i64 1))]⟩,
  ⟨(some 3), none, .mov (.t 18)⟩])
 (.seq (.reg [⟨(some 19), none, .mov (.t 3)⟩,
  ⟨(some 20), none, .bin .gtr (.t 19) (.c (.int .i64 0))⟩])
 (.cond (.t 20) (.reg [⟨(some 21), none, .mov (.t 3)⟩,
  ⟨(some 22), none, .bin .add (.t 21) (.c (.int .i64 1))⟩,
  ⟨(some 3), none, .mov (.t 22)⟩])
 .skip)))
 (.seq (.reg [⟨(some 24), none, .mov (.t 0)⟩,
  ⟨(some 25), none, .call 0 [] (.c (.fn 192 [])) [(.t 24), (.c (.int .i64 2))]⟩,
  ⟨(some 23), none, .mov (.t 25)⟩])
 (.cond (.t 23) (.reg [⟨(some 3), none, .mov (.c (.int .i64 2))⟩])
 .skip)))))))
 (.seq (.reg [⟨(some 26), none, .mov (.t 3)⟩,
  ⟨(some 27), none, .bin .gtr (.t 26) (.c (.int .i64 0))⟩,
  ⟨(some 28), none, .mov (.t 27)⟩,
  ⟨(some 29), (some (28, true)), .mov (.t 0)⟩,
  ⟨(some 30), (some (28, true)), .mov (.t 3)⟩,
  ⟨(some 31), (some (28, true)), .call 0 [] (.c (.fn 142 [])) [(.t 29), (.t 30)]⟩,
  ⟨(some 32), (some (28, true)), .call 0 [] (.c (.fn 141 [])) [(.t 31), (.c (.str [61, 62]))]⟩,
  ⟨(some 33), none, .pick (.t 28) (.t 32) (.c (.bool false))⟩,
  ⟨(some 2), none, .mov (.t 33)⟩])
 .ret)))),
  [.t 2], false, false, 34⟩
theorem co199 : compF Tryz.prog ⟨[], [], [], [], [], [], 199, [], [], []⟩ false false Tryz.f199 = some ac199 := by kernel_rfl

/-- (*paideia/parser.parser).typ -/
def ac201 : AF := ⟨(.seq (.reg [⟨(some 2), none, .alloc [(.int .i64 0), (.str []), (.sl .clip [])] false⟩])
 (.seq (.reg [⟨(some 4), none, .mov (.t 0)⟩,
  ⟨(some 5), none, .call 0 [] (.c (.fn 222 [])) [(.t 4)]⟩,
  ⟨(some 6), none, .bslice [(.int .i64 0), (.str []), (.sl .clip [])] 1 [(0, (.t 5))]⟩,
  ⟨(some 3), none, .mov (.t 6)⟩])
 (.seq (.block 0 (.loop [0, 3] [2] (.seq (.seq (.reg [⟨(some 7), none, .mov (.t 0)⟩,
  ⟨(some 8), none, .call 0 [] (.c (.fn 109 [])) [(.t 7), (.c (.str [45, 62]))]⟩])
 (.cond (.t 8) .skip
 (.exit 0)))
 (.block 1 (.reg [⟨(some 9), none, .mov (.t 3)⟩,
  ⟨(some 10), none, .mov (.t 0)⟩,
  ⟨(some 11), none, .call 0 [] (.c (.fn 222 [])) [(.t 10)]⟩,
  ⟨(some 12), none, .bslice [(.int .i64 0), (.str []), (.sl .clip [])] 1 [(0, (.t 11))]⟩,
  ⟨(some 13), none, .append 3 (.t 9) (.t 12)⟩,
  ⟨(some 3), none, .mov (.t 13)⟩])))))
 (.seq (.reg [⟨(some 14), none, .mov (.t 3)⟩,
  ⟨(some 15), none, .call 0 [] (.c (.fn 54 [])) [(.t 14)]⟩,
  ⟨none, none, .store 3 (.t 2) (.t 15)⟩])
 .ret)))),
  [.cell 2 (some 3)], false, false, 16⟩
theorem co201 : compF Tryz.prog ⟨[], [(2, [0, 3], [2])], [], [], [], [], 201, [], [], []⟩ false false Tryz.f201 = some ac201 := by kernel_rfl

/-- paideia/types.Vars -/
def ac202 : AF := ⟨(.seq (.reg [⟨(some 2), none, .mov (.c (.sl .clip []))⟩])
 (.seq (.reg [⟨(some 3), none, .mov (.c (.sl .clip []))⟩])
 (.seq (.seq (.reg [⟨(some 6), none, .mov (.t 0)⟩,
  ⟨(some 7), none, .len 1 (.t 6)⟩,
  ⟨(some 8), none, .mov (.c (.int .i64 0))⟩])
 (.block 0 (.loop [3, 6, 7, 8] [] (.seq (.reg [⟨(some 9), none, .bin .lss (.t 8) (.t 7)⟩])
 (.seq (.cond (.t 9) .skip
 (.exit 0))
 (.seq (.block 1 (.seq (.reg [⟨(some 10), none, .iaddr 3 (.t 6) (.t 8)⟩,
  ⟨(some 11), none, .load (some 3) (.t 10)⟩,
  ⟨(some 5), none, .alloc [(.int .i64 0), (.str []), (.sl .clip [])] false⟩,
  ⟨none, none, .store 3 (.t 5) (.t 11)⟩])
 (.reg [⟨(some 12), none, .load (some 3) (.t 5)⟩,
  ⟨(some 13), none, .mov (.t 3)⟩,
  ⟨(some 14), none, .call 0 [] (.c (.fn 223 [])) [(.t 12), (.c (.sl .clip [])), (.t 13)]⟩,
  ⟨(some 3), none, .mov (.t 14)⟩])))
 (.reg [⟨(some 15), none, .bin .add (.t 8) (.c (.int .i64 1))⟩,
  ⟨(some 8), none, .mov (.t 15)⟩])))))))
 (.seq (.reg [⟨(some 16), none, .mov (.t 3)⟩,
  ⟨(some 2), none, .mov (.t 16)⟩])
 .ret)))),
  [.t 2], false, true, 17⟩
theorem co202 : compF Tryz.prog ⟨[], [(3, [3, 6, 7, 8], [])], [], [], [], [], 202, [], [], []⟩ false true Tryz.f202 = some ac202 := by kernel_rfl

/-- strings.Join -/
def ac203 : AF := ⟨(.seq (.reg [⟨(some 4), none, .mov (.c (.str []))⟩])
 (.seq (.seq (.reg [⟨(some 11), none, .mov (.t 0)⟩,
  ⟨(some 12), none, .len 1 (.t 11)⟩])
 (.block 0 (.seq (.reg [⟨(some 14), none, .bin .eql (.t 12) (.c (.int .i64 0))⟩,
  ⟨(some 13), none, .mov (.t 14)⟩])
 (.cond (.t 13) (.seq (.reg [⟨(some 4), none, .mov (.c (.str []))⟩])
 .ret)
 (.seq (.reg [⟨(some 16), none, .bin .eql (.t 12) (.c (.int .i64 1))⟩,
  ⟨(some 15), none, .mov (.t 16)⟩])
 (.cond (.t 15) (.seq (.reg [⟨(some 17), none, .mov (.t 0)⟩,
  ⟨(some 18), none, .iaddr 1 (.t 17) (.c (.int .i64 0))⟩,
  ⟨(some 19), none, .load none (.t 18)⟩,
  ⟨(some 4), none, .mov (.t 19)⟩])
 .ret)
 .skip))))))
 (.seq (.reg [⟨(some 5), none, .mov (.c (.int .i64 0))⟩])
 (.seq (.seq (.reg [⟨(some 20), none, .mov (.t 1)⟩,
  ⟨(some 21), none, .len 0 (.t 20)⟩,
  ⟨(some 22), none, .bin .gtr (.t 21) (.c (.int .i64 0))⟩])
 (.cond (.t 22) (.seq (.seq (.reg [⟨(some 23), none, .mov (.t 1)⟩,
  ⟨(some 24), none, .len 0 (.t 23)⟩,
  ⟨(some 25), none, .mov (.t 0)⟩,
  ⟨(some 26), none, .len 1 (.t 25)⟩,
  ⟨(some 27), none, .bin .sub (.t 26) (.c (.int .i64 1))⟩,
  ⟨(some 28), none, .bin .quo (.c (.int .i64 9223372036854775807)) (.t 27)⟩,
  ⟨(some 29), none, .bin .geq (.t 24) (.t 28)⟩])
 (.cond (.t 29) (.reg [⟨(some 30), none, .mkif 9 (.c (.str [115, 116, 114, 105, 110, 103, 115, 58, 32, 74, 111, 105, 110, 32, 111, 117, 116, 112, 117, 116, 32, 108, 101, 110, 103, 116, 104, 32, 111, 118, 101, 114, 102, 108, 111, 119]))⟩,
  ⟨none, none, .stuck⟩])
 .skip))
 (.reg [⟨(some 31), none, .mov (.t 5)⟩,
  ⟨(some 32), none, .mov (.t 1)⟩,
  ⟨(some 33), none, .len 0 (.t 32)⟩,
  ⟨(some 34), none, .mov (.t 0)⟩,
  ⟨(some 35), none, .len 1 (.t 34)⟩,
  ⟨(some 36), none, .bin .sub (.t 35) (.c (.int .i64 1))⟩,
  ⟨(some 37), none, .bin .mul (.t 33) (.t 36)⟩,
  ⟨(some 38), none, .bin .add (.t 31) (.t 37)⟩,
  ⟨(some 5), none, .mov (.t 38)⟩]))
 .skip))
 (.seq (.seq (.reg [⟨(some 39), none, .mov (.t 0)⟩,
  ⟨(some 40), none, .len 1 (.t 39)⟩,
  ⟨(some 41), none, .mov (.c (.int .i64 0))⟩])
 (.block 1 (.loop [0, 1, 5, 39, 40, 41] [] (.seq (.reg [⟨(some 42), none, .bin .lss (.t 41) (.t 40)⟩])
 (.seq (.cond (.t 42) .skip
 (.exit 1))
 (.seq (.block 2 (.seq (.reg [⟨(some 43), none, .iaddr 1 (.t 39) (.t 41)⟩,
  ⟨(some 44), none, .load none (.t 43)⟩,
  ⟨(some 7), none, .mov (.t 44)⟩])
 (.seq (.seq (.reg [⟨(some 45), none, .mov (.t 7)⟩,
  ⟨(some 46), none, .len 0 (.t 45)⟩,
  ⟨(some 47), none, .mov (.t 5)⟩,
  ⟨(some 48), none, .bin .sub (.c (.int .i64 9223372036854775807)) (.t 47)⟩,
  ⟨(some 49), none, .bin .gtr (.t 46) (.t 48)⟩])
 (.cond (.t 49) (.reg [⟨(some 50), none, .mkif 9 (.c (.str [115, 116, 114, 105, 110, 103, 115, 58, 32, 74, 111, 105, 110, 32, 111, 117, 116, 112, 117, 116, 32, 108, 101, 110, 103, 116, 104, 32, 111, 118, 101, 114, 102, 108, 111, 119]))⟩,
  ⟨none, none, .stuck⟩])
 .skip))
 (.reg [⟨(some 51), none, .mov (.t 5)⟩,
  ⟨(some 52), none, .mov (.t 7)⟩,
  ⟨(some 53), none, .len 0 (.t 52)⟩,
  ⟨(some 54), none, .bin .add (.t 51) (.t 53)⟩,
  ⟨(some 5), none, .mov (.t 54)⟩]))))
 (.reg [⟨(some 55), none, .bin .add (.t 41) (.c (.int .i64 1))⟩,
  ⟨(some 41), none, .mov (.t 55)⟩])))))))
 (.seq (.reg [⟨(some 8), none, .alloc [.nilp, (.sl .clip [])] true⟩])
 (.seq (.reg [⟨(some 56), none, .mov (.t 5)⟩,
  ⟨(some 57), none, .call 0 [] (.c (.fn 224 [])) [(.t 8), (.t 56)]⟩])
 (.seq (.reg [⟨(some 58), none, .mov (.t 0)⟩,
  ⟨(some 59), none, .iaddr 1 (.t 58) (.c (.int .i64 0))⟩,
  ⟨(some 60), none, .load none (.t 59)⟩,
  ⟨(some 61), none, .call 0 [] (.c (.fn 225 [])) [(.t 8), (.t 60)]⟩])
 (.seq (.seq (.reg [⟨(some 62), none, .mov (.t 0)⟩,
  ⟨(some 63), none, .slice 1 (.t 62) (some (.c (.int .i64 1))) none none⟩,
  ⟨(some 64), none, .len 1 (.t 63)⟩,
  ⟨(some 65), none, .mov (.c (.int .i64 0))⟩])
 (.block 3 (.loop [1, 8, 63, 64, 65] [] (.seq (.reg [⟨(some 66), none, .bin .lss (.t 65) (.t 64)⟩])
 (.seq (.cond (.t 66) .skip
 (.exit 3))
 (.seq (.block 4 (.seq (.reg [⟨(some 67), none, .iaddr 1 (.t 63) (.t 65)⟩,
  ⟨(some 68), none, .load none (.t 67)⟩,
  ⟨(some 10), none, .mov (.t 68)⟩])
 (.seq (.reg [⟨(some 69), none, .mov (.t 1)⟩,
  ⟨(some 70), none, .call 0 [] (.c (.fn 225 [])) [(.t 8), (.t 69)]⟩])
 (.reg [⟨(some 71), none, .mov (.t 10)⟩,
  ⟨(some 72), none, .call 0 [] (.c (.fn 225 [])) [(.t 8), (.t 71)]⟩]))))
 (.reg [⟨(some 73), none, .bin .add (.t 65) (.c (.int .i64 1))⟩,
  ⟨(some 65), none, .mov (.t 73)⟩])))))))
 (.seq (.reg [⟨(some 74), none, .call 0 [] (.c (.fn 226 [])) [(.t 8)]⟩,
  ⟨(some 4), none, .mov (.t 74)⟩])
 .ret)))))))))),
  [.t 4], false, true, 75⟩
theorem co203 : compF Tryz.prog ⟨[8], [(12, [0, 1, 5, 39, 40, 41], []), (22, [1, 8, 63, 64, 65], [])], [], [], [], [], 203, [], [], []⟩ false true Tryz.f203 = some ac203 := by kernel_rfl

/-- paideia/lexer.while -/
def ac210 : AF := ⟨(.seq (.reg [⟨(some 4), none, .mov (.c (.int .i64 0))⟩])
 (.seq (.reg [⟨(some 5), none, .mov (.c (.int .i64 0))⟩])
 (.seq (.block 0 (.loop [0, 1, 5] [] (.seq (.seq (.reg [⟨(some 6), none, .mov (.t 5)⟩,
  ⟨(some 7), none, .mov (.t 0)⟩,
  ⟨(some 8), none, .len 1 (.t 7)⟩,
  ⟨(some 9), none, .bin .lss (.t 6) (.t 8)⟩,
  ⟨(some 10), none, .mov (.t 9)⟩,
  ⟨(some 11), (some (10, true)), .mov (.t 1)⟩,
  ⟨(some 12), (some (10, true)), .mov (.t 0)⟩,
  ⟨(some 13), (some (10, true)), .mov (.t 5)⟩,
  ⟨(some 14), (some (10, true)), .iaddr 1 (.t 12) (.t 13)⟩,
  ⟨(some 15), (some (10, true)), .load none (.t 14)⟩,
  ⟨(some 16), (some (10, true)), .call 0 [] (.t 11) [(.t 15)]⟩,
  ⟨(some 17), none, .pick (.t 10) (.t 16) (.c (.bool false))⟩])
 (.cond (.t 17) .skip
 (.exit 0)))
 (.block 1 (.reg [⟨(some 18), none, .mov (.t 5)⟩,
  ⟨(some 19), none, .bin .add (.t 18) (.c (.int .i64 1))⟩,
  ⟨(some 5), none, .mov (.t 19)⟩])))))
 (.seq (.reg [⟨(some 20), none, .mov (.t 5)⟩,
  ⟨(some 4), none, .mov (.t 20)⟩])
 .ret)))),
  [.t 4], false, true, 21⟩
theorem co210 : compF Tryz.prog ⟨[], [(2, [0, 1, 5], [])], [], [], [], [], 210, [], [], []⟩ false true Tryz.f210 = some ac210 := by kernel_rfl

/-- paideia/lexer.blank$1 -/
def ac211 : AF := ⟨(.seq (.reg [⟨(some 2), none, .mov (.c (.bool false))⟩])
 (.seq (.reg [⟨(some 3), none, .mov (.t 0)⟩,
  ⟨(some 4), none, .bin .neq (.t 3) (.c (.int .u8 10))⟩,
  ⟨(some 2), none, .mov (.t 4)⟩])
 .ret)),
  [.t 2], false, true, 5⟩
theorem co211 : compF Tryz.prog ⟨[], [], [], [], [], [], 211, [], [], []⟩ false true Tryz.f211 = some ac211 := by kernel_rfl

/-- paideia/lexer.isSmall -/
def ac212 : AF := ⟨(.seq (.reg [⟨(some 2), none, .mov (.c (.bool false))⟩])
 (.seq (.reg [⟨(some 3), none, .mov (.t 0)⟩,
  ⟨(some 4), none, .bin .geq (.t 3) (.c (.int .u8 97))⟩,
  ⟨(some 5), none, .mov (.t 4)⟩,
  ⟨(some 6), (some (5, true)), .mov (.t 0)⟩,
  ⟨(some 7), (some (5, true)), .bin .leq (.t 6) (.c (.int .u8 122))⟩,
  ⟨(some 8), none, .pick (.t 5) (.t 7) (.c (.bool false))⟩,
  ⟨(some 9), none, .mov (.t 8)⟩,
  ⟨(some 10), (some (9, false)), .mov (.t 0)⟩,
  ⟨(some 11), (some (9, false)), .bin .eql (.t 10) (.c (.int .u8 95))⟩,
  ⟨(some 12), none, .pick (.t 9) (.c (.bool true)) (.t 11)⟩,
  ⟨(some 2), none, .mov (.t 12)⟩])
 .ret)),
  [.t 2], false, true, 13⟩
theorem co212 : compF Tryz.prog ⟨[], [], [], [], [], [], 212, [], [], []⟩ false true Tryz.f212 = some ac212 := by kernel_rfl

/-- paideia/lexer.isGreat -/
def ac213 : AF := ⟨(.seq (.reg [⟨(some 2), none, .mov (.c (.bool false))⟩])
 (.seq (.reg [⟨(some 3), none, .mov (.t 0)⟩,
  ⟨(some 4), none, .bin .geq (.t 3) (.c (.int .u8 65))⟩,
  ⟨(some 5), none, .mov (.t 4)⟩,
  ⟨(some 6), (some (5, true)), .mov (.t 0)⟩,
  ⟨(some 7), (some (5, true)), .bin .leq (.t 6) (.c (.int .u8 90))⟩,
  ⟨(some 8), none, .pick (.t 5) (.t 7) (.c (.bool false))⟩,
  ⟨(some 2), none, .mov (.t 8)⟩])
 .ret)),
  [.t 2], false, true, 9⟩
theorem co213 : compF Tryz.prog ⟨[], [], [], [], [], [], 213, [], [], []⟩ false true Tryz.f213 = some ac213 := by kernel_rfl

/-- paideia/lexer.name -/
def ac214 : AF := ⟨(.seq (.reg [⟨(some 2), none, .alloc [(.int .i64 0), (.int .i64 0), (.str []), (.int .i64 0)] false⟩,
  ⟨(some 3), none, .mov (.c (.bool false))⟩])
 (.seq (.reg [⟨(some 5), none, .mov (.t 0)⟩,
  ⟨(some 6), none, .mov (.t 0)⟩,
  ⟨(some 7), none, .call 0 [] (.c (.fn 210 [])) [(.t 6), (.c (.fn 229 []))]⟩,
  ⟨(some 8), none, .slice 1 (.t 5) none (some (.t 7)) none⟩,
  ⟨(some 9), none, .conv .text (.t 8)⟩,
  ⟨(some 4), none, .mov (.t 9)⟩])
 (.seq (.block 0 (.seq (.reg [⟨(some 11), none, .mov (.t 4)⟩,
  ⟨(some 12), none, .bin .eql (.t 11) (.c (.str [95]))⟩,
  ⟨(some 13), none, .mov (.t 12)⟩,
  ⟨(some 14), (some (13, false)), .mov (.t 4)⟩,
  ⟨(some 15), (some (13, false)), .call 0 [] (.c (.fn 230 [])) [(.t 14)]⟩,
  ⟨(some 16), none, .pick (.t 13) (.c (.bool true)) (.t 15)⟩,
  ⟨(some 10), none, .mov (.t 16)⟩])
 (.cond (.t 10) (.seq (.reg [⟨(some 17), none, .mov (.t 4)⟩,
  ⟨(some 18), none, .build [(.int .i64 0), (.int .i64 0), (.str []), (.int .i64 0)] [(0, 1, (.c (.int .i64 6))), (2, 1, (.t 17))]⟩,
  ⟨none, none, .store 4 (.t 2) (.t 18)⟩,
  ⟨(some 3), none, .mov (.c (.bool true))⟩])
 .ret)
 (.seq (.reg [⟨(some 20), none, .mov (.t 4)⟩,
  ⟨(some 21), none, .call 0 [] (.c (.fn 231 [])) [(.t 20)]⟩,
  ⟨(some 19), none, .mov (.t 21)⟩])
 (.cond (.t 19) (.seq (.reg [⟨(some 22), none, .mov (.t 4)⟩,
  ⟨(some 23), none, .build [(.int .i64 0), (.int .i64 0), (.str []), (.int .i64 0)] [(0, 1, (.c (.int .i64 1))), (2, 1, (.t 22))]⟩,
  ⟨none, none, .store 4 (.t 2) (.t 23)⟩,
  ⟨(some 3), none, .mov (.c (.bool true))⟩])
 .ret)
 (.seq (.reg [⟨(some 25), none, .mov (.t 4)⟩,
  ⟨(some 26), none, .call 0 [] (.c (.fn 232 [])) [(.t 25)]⟩,
  ⟨(some 24), none, .mov (.t 26)⟩])
 (.cond (.t 24) (.seq (.reg [⟨(some 27), none, .mov (.t 4)⟩,
  ⟨(some 28), none, .build [(.int .i64 0), (.int .i64 0), (.str []), (.int .i64 0)] [(0, 1, (.c (.int .i64 2))), (2, 1, (.t 27))]⟩,
  ⟨none, none, .store 4 (.t 2) (.t 28)⟩,
  ⟨(some 3), none, .mov (.c (.bool true))⟩])
 .ret)
 .skip)))))))
 (.seq (.reg [⟨(some 29), none, .build [(.int .i64 0), (.int .i64 0), (.str []), (.int .i64 0)] []⟩,
  ⟨none, none, .store 4 (.t 2) (.t 29)⟩,
  ⟨(some 3), none, .mov (.c (.bool false))⟩])
 .ret)))),
  [.cell 2 (some 4), .t 3], false, true, 30⟩
theorem co214 : compF Tryz.prog ⟨[], [], [], [], [], [], 214, [], [], []⟩ false true Tryz.f214 = some ac214 := by kernel_rfl

/-- paideia/lexer.isDigit -/
def ac215 : AF := ⟨(.seq (.reg [⟨(some 2), none, .mov (.c (.bool false))⟩])
 (.seq (.reg [⟨(some 3), none, .mov (.t 0)⟩,
  ⟨(some 4), none, .bin .geq (.t 3) (.c (.int .u8 48))⟩,
  ⟨(some 5), none, .mov (.t 4)⟩,
  ⟨(some 6), (some (5, true)), .mov (.t 0)⟩,
  ⟨(some 7), (some (5, true)), .bin .leq (.t 6) (.c (.int .u8 57))⟩,
  ⟨(some 8), none, .pick (.t 5) (.t 7) (.c (.bool false))⟩,
  ⟨(some 2), none, .mov (.t 8)⟩])
 .ret)),
  [.t 2], false, true, 9⟩
theorem co215 : compF Tryz.prog ⟨[], [], [], [], [], [], 215, [], [], []⟩ false true Tryz.f215 = some ac215 := by kernel_rfl

/-- paideia/lexer.number -/
def ac216 : AF := ⟨(.seq (.reg [⟨(some 2), none, .alloc [(.int .i64 0), (.int .i64 0), (.str []), (.int .i64 0)] false⟩,
  ⟨(some 3), none, .mov (.c (.bool false))⟩])
 (.seq (.reg [⟨(some 7), none, .mov (.t 0)⟩,
  ⟨(some 8), none, .mov (.t 0)⟩,
  ⟨(some 9), none, .call 0 [] (.c (.fn 210 [])) [(.t 8), (.c (.fn 215 []))]⟩,
  ⟨(some 10), none, .slice 1 (.t 7) none (some (.t 9)) none⟩,
  ⟨(some 11), none, .conv .text (.t 10)⟩,
  ⟨(some 4), none, .mov (.t 11)⟩])
 (.seq (.seq (.reg [⟨(some 12), none, .mov (.t 4)⟩,
  ⟨(some 13), none, .len 0 (.t 12)⟩,
  ⟨(some 14), none, .bin .gtr (.t 13) (.c (.int .i64 15))⟩])
 (.cond (.t 14) (.seq (.reg [⟨(some 15), none, .build [(.int .i64 0), (.int .i64 0), (.str []), (.int .i64 0)] []⟩,
  ⟨none, none, .store 4 (.t 2) (.t 15)⟩,
  ⟨(some 3), none, .mov (.c (.bool false))⟩])
 .ret)
 .skip))
 (.seq (.reg [⟨(some 17), none, .mov (.t 4)⟩,
  ⟨(some 18), none, .call 0 [] (.c (.fn 233 [])) [(.t 17), (.c (.int .i64 10)), (.c (.int .i64 64))]⟩,
  ⟨(some 16), none, .mov (.t 18)⟩,
  ⟨(some 19), none, .extract (.t 16) 0⟩,
  ⟨(some 20), none, .extract (.t 16) 1⟩,
  ⟨(some 5), none, .mov (.t 19)⟩,
  ⟨(some 6), none, .mov (.t 20)⟩])
 (.seq (.reg [⟨(some 21), none, .mov (.t 4)⟩,
  ⟨(some 22), none, .mov (.t 5)⟩,
  ⟨(some 23), none, .build [(.int .i64 0), (.int .i64 0), (.str []), (.int .i64 0)] [(0, 1, (.c (.int .i64 3))), (2, 1, (.t 21)), (3, 1, (.t 22))]⟩,
  ⟨(some 24), none, .mov (.t 6)⟩,
  ⟨(some 25), none, .eqnil .iface false (.t 24)⟩,
  ⟨none, none, .store 4 (.t 2) (.t 23)⟩,
  ⟨(some 3), none, .mov (.t 25)⟩])
 .ret))))),
  [.cell 2 (some 4), .t 3], false, true, 26⟩
theorem co216 : compF Tryz.prog ⟨[], [], [], [], [], [], 216, [], [], [0]⟩ false true Tryz.f216 = some ac216 := by kernel_rfl

/-- paideia/lexer.letter -/
def ac217 : AF := ⟨(.seq (.reg [⟨(some 2), none, .alloc [(.int .i64 0), (.int .i64 0), (.str []), (.int .i64 0)] false⟩,
  ⟨(some 3), none, .mov (.c (.bool false))⟩])
 (.seq (.seq (.reg [⟨(some 5), none, .mov (.t 0)⟩,
  ⟨(some 6), none, .len 1 (.t 5)⟩,
  ⟨(some 7), none, .bin .geq (.t 6) (.c (.int .i64 3))⟩,
  ⟨(some 8), none, .mov (.t 7)⟩,
  ⟨(some 9), (some (8, true)), .mov (.t 0)⟩,
  ⟨(some 10), (some (8, true)), .iaddr 1 (.t 9) (.c (.int .i64 1))⟩,
  ⟨(some 11), (some (8, true)), .load none (.t 10)⟩,
  ⟨(some 12), (some (8, true)), .call 0 [] (.c (.fn 234 [])) [(.t 11)]⟩,
  ⟨(some 13), none, .pick (.t 8) (.t 12) (.c (.bool false))⟩,
  ⟨(some 14), none, .mov (.t 13)⟩,
  ⟨(some 15), (some (14, true)), .mov (.t 0)⟩,
  ⟨(some 16), (some (14, true)), .iaddr 1 (.t 15) (.c (.int .i64 2))⟩,
  ⟨(some 17), (some (14, true)), .load none (.t 16)⟩,
  ⟨(some 18), (some (14, true)), .bin .eql (.t 17) (.c (.int .u8 39))⟩,
  ⟨(some 19), none, .pick (.t 14) (.t 18) (.c (.bool false))⟩])
 (.cond (.t 19) (.seq (.reg [⟨(some 20), none, .mov (.t 0)⟩,
  ⟨(some 21), none, .slice 1 (.t 20) none (some (.c (.int .i64 3))) none⟩,
  ⟨(some 22), none, .conv .text (.t 21)⟩,
  ⟨(some 23), none, .mov (.t 0)⟩,
  ⟨(some 24), none, .iaddr 1 (.t 23) (.c (.int .i64 1))⟩,
  ⟨(some 25), none, .load none (.t 24)⟩,
  ⟨(some 26), none, .conv (.int .i64) (.t 25)⟩,
  ⟨(some 27), none, .build [(.int .i64 0), (.int .i64 0), (.str []), (.int .i64 0)] [(0, 1, (.c (.int .i64 4))), (2, 1, (.t 22)), (3, 1, (.t 26))]⟩,
  ⟨none, none, .store 4 (.t 2) (.t 27)⟩,
  ⟨(some 3), none, .mov (.c (.bool true))⟩])
 .ret)
 .skip))
 (.seq (.seq (.reg [⟨(some 28), none, .mov (.t 0)⟩,
  ⟨(some 29), none, .len 1 (.t 28)⟩,
  ⟨(some 30), none, .bin .lss (.t 29) (.c (.int .i64 4))⟩,
  ⟨(some 31), none, .mov (.t 30)⟩,
  ⟨(some 32), (some (31, false)), .mov (.t 0)⟩,
  ⟨(some 33), (some (31, false)), .iaddr 1 (.t 32) (.c (.int .i64 1))⟩,
  ⟨(some 34), (some (31, false)), .load none (.t 33)⟩,
  ⟨(some 35), (some (31, false)), .bin .neq (.t 34) (.c (.int .u8 92))⟩,
  ⟨(some 36), none, .pick (.t 31) (.c (.bool true)) (.t 35)⟩,
  ⟨(some 37), none, .mov (.t 36)⟩,
  ⟨(some 38), (some (37, false)), .mov (.t 0)⟩,
  ⟨(some 39), (some (37, false)), .iaddr 1 (.t 38) (.c (.int .i64 3))⟩,
  ⟨(some 40), (some (37, false)), .load none (.t 39)⟩,
  ⟨(some 41), (some (37, false)), .bin .neq (.t 40) (.c (.int .u8 39))⟩,
  ⟨(some 42), none, .pick (.t 37) (.c (.bool true)) (.t 41)⟩])
 (.cond (.t 42) (.seq (.reg [⟨(some 43), none, .build [(.int .i64 0), (.int .i64 0), (.str []), (.int .i64 0)] []⟩,
  ⟨none, none, .store 4 (.t 2) (.t 43)⟩,
  ⟨(some 3), none, .mov (.c (.bool false))⟩])
 .ret)
 .skip))
 (.seq (.reg [⟨(some 44), none, .mov (.t 0)⟩,
  ⟨(some 45), none, .iaddr 1 (.t 44) (.c (.int .i64 2))⟩,
  ⟨(some 46), none, .load none (.t 45)⟩,
  ⟨(some 4), none, .mov (.t 46)⟩])
 (.seq (.seq (.reg [⟨(some 47), none, .mov (.t 4)⟩])
 (.block 0 (.seq (.reg [⟨(some 50), none, .bin .eql (.t 47) (.c (.int .u8 110))⟩,
  ⟨(some 49), none, .mov (.t 50)⟩])
 (.cond (.t 49) (.reg [⟨(some 4), none, .mov (.c (.int .u8 10))⟩])
 (.seq (.seq (.reg [⟨(some 52), none, .bin .eql (.t 47) (.c (.int .u8 39))⟩,
  ⟨(some 51), none, .mov (.t 52)⟩])
 (.cond (.t 51) .skip
 (.reg [⟨(some 53), none, .bin .eql (.t 47) (.c (.int .u8 92))⟩,
  ⟨(some 51), none, .mov (.t 53)⟩])))
 (.cond (.t 51) .skip
 (.seq (.reg [⟨(some 48), none, .build [(.int .i64 0), (.int .i64 0), (.str []), (.int .i64 0)] []⟩,
  ⟨none, none, .store 4 (.t 2) (.t 48)⟩,
  ⟨(some 3), none, .mov (.c (.bool false))⟩])
 .ret)))))))
 (.seq (.reg [⟨(some 54), none, .mov (.t 0)⟩,
  ⟨(some 55), none, .slice 1 (.t 54) none (some (.c (.int .i64 4))) none⟩,
  ⟨(some 56), none, .conv .text (.t 55)⟩,
  ⟨(some 57), none, .mov (.t 4)⟩,
  ⟨(some 58), none, .conv (.int .i64) (.t 57)⟩,
  ⟨(some 59), none, .build [(.int .i64 0), (.int .i64 0), (.str []), (.int .i64 0)] [(0, 1, (.c (.int .i64 4))), (2, 1, (.t 56)), (3, 1, (.t 58))]⟩,
  ⟨none, none, .store 4 (.t 2) (.t 59)⟩,
  ⟨(some 3), none, .mov (.c (.bool true))⟩])
 .ret)))))),
  [.cell 2 (some 4), .t 3], false, true, 60⟩
theorem co217 : compF Tryz.prog ⟨[], [], [], [], [], [], 217, [], [], []⟩ false true Tryz.f217 = some ac217 := by kernel_rfl

/-- paideia/lexer.sign -/
def ac218 : AF := ⟨(.seq (.reg [⟨(some 2), none, .alloc [(.int .i64 0), (.int .i64 0), (.str []), (.int .i64 0)] false⟩,
  ⟨(some 3), none, .mov (.c (.bool false))⟩])
 (.seq (.reg [⟨(some 4), none, .alloc [(.int .i64 0), (.int .i64 0), (.str []), (.int .i64 0)] false⟩])
 (.seq (.seq (.reg [⟨(some 9), none, .mkmap⟩,
  ⟨none, none, .mapset .int (.t 9) (.c (.int .i64 5)) (.c (.str [61, 61, 32, 47, 61, 32, 60, 61, 32, 62, 61, 32, 60, 32, 62, 32, 43, 32, 45, 32, 42]))⟩,
  ⟨none, none, .mapset .int (.t 9) (.c (.int .i64 6)) (.c (.str [45, 62, 32, 61, 62, 32, 58, 58, 32, 40, 32, 41, 32, 123, 32, 125, 32, 44, 32, 59, 32, 61, 32, 92, 32, 124]))⟩,
  ⟨(some 10), none, .mov (.t 9)⟩,
  ⟨(some 11), none, .range (.t 10)⟩])
 (.block 0 (.loop [0, 11] [2, 4] (.seq (.reg [⟨(some 12), none, .next (.t 11)⟩,
  ⟨(some 13), none, .extract (.t 12) 0⟩])
 (.seq (.cond (.t 13) .skip
 (.exit 0))
 (.block 1 (.seq (.reg [⟨(some 14), none, .entry (.t 11)⟩,
  ⟨(some 15), none, .extract (.t 14) 0⟩,
  ⟨(some 16), none, .extract (.t 14) 1⟩,
  ⟨(some 5), none, .mov (.t 15)⟩,
  ⟨(some 6), none, .mov (.t 16)⟩])
 (.seq (.reg [⟨(some 17), none, .mov (.t 6)⟩,
  ⟨(some 18), none, .call 0 [] (.c (.fn 235 [])) [(.t 17)]⟩,
  ⟨(some 19), none, .len 1 (.t 18)⟩,
  ⟨(some 20), none, .mov (.c (.int .i64 0))⟩])
 (.block 2 (.loop [0, 5, 11, 18, 19, 20] [2, 4] (.seq (.reg [⟨(some 21), none, .bin .lss (.t 20) (.t 19)⟩])
 (.seq (.cond (.t 21) .skip
 (.exit 2))
 (.seq (.block 3 (.seq (.reg [⟨(some 22), none, .iaddr 1 (.t 18) (.t 20)⟩,
  ⟨(some 23), none, .load none (.t 22)⟩,
  ⟨(some 8), none, .mov (.t 23)⟩])
 (.seq (.reg [⟨(some 24), none, .mov (.t 8)⟩,
  ⟨(some 25), none, .len 0 (.t 24)⟩,
  ⟨(some 26), none, .faddr 2 (.t 4)⟩,
  ⟨(some 27), none, .load none (.t 26)⟩,
  ⟨(some 28), none, .len 0 (.t 27)⟩,
  ⟨(some 29), none, .bin .gtr (.t 25) (.t 28)⟩,
  ⟨(some 30), none, .mov (.t 29)⟩,
  ⟨(some 31), (some (30, true)), .mov (.t 0)⟩,
  ⟨(some 32), (some (30, true)), .mov (.t 0)⟩,
  ⟨(some 33), (some (30, true)), .len 1 (.t 32)⟩,
  ⟨(some 34), (some (30, true)), .bmin (.t 33) (.c (.int .i64 2))⟩,
  ⟨(some 35), (some (30, true)), .slice 1 (.t 31) none (some (.t 34)) none⟩,
  ⟨(some 36), (some (30, true)), .conv .text (.t 35)⟩,
  ⟨(some 37), (some (30, true)), .mov (.t 8)⟩,
  ⟨(some 38), (some (30, true)), .call 0 [] (.c (.fn 236 [])) [(.t 36), (.t 37)]⟩,
  ⟨(some 39), none, .pick (.t 30) (.t 38) (.c (.bool false))⟩])
 (.cond (.t 39) (.reg [⟨(some 40), none, .mov (.t 5)⟩,
  ⟨(some 41), none, .mov (.t 8)⟩,
  ⟨(some 42), none, .build [(.int .i64 0), (.int .i64 0), (.str []), (.int .i64 0)] [(0, 1, (.t 40)), (2, 1, (.t 41))]⟩,
  ⟨none, none, .store 4 (.t 4) (.t 42)⟩])
 .skip))))
 (.reg [⟨(some 43), none, .bin .add (.t 20) (.c (.int .i64 1))⟩,
  ⟨(some 20), none, .mov (.t 43)⟩]))))))))))))))
 (.seq (.reg [⟨(some 44), none, .load (some 4) (.t 4)⟩,
  ⟨(some 45), none, .faddr 2 (.t 4)⟩,
  ⟨(some 46), none, .loadX true none (.t 45) [(.t 2)] [(.t 4)]⟩,
  ⟨(some 47), none, .bin .neq (.t 46) (.c (.str []))⟩,
  ⟨none, none, .storeX true 4 (.t 2) (.t 44) [(.t 4)] []⟩,
  ⟨(some 3), none, .mov (.t 47)⟩])
 .ret)))),
  [.cell 2 (some 4), .t 3], false, true, 48⟩
theorem co218 : compF Tryz.prog ⟨[], [(3, [0, 11], [2, 4]), (6, [0, 5, 11, 18, 19, 20], [2, 4])], [], [], [], [], 218, [], [], [0]⟩ false true Tryz.f218 = some ac218 := by kernel_rfl

/-- slices.Backward[[]string,string]$1 -/
def ac219 : AF := ⟨(.seq (.reg [⟨(some 4), none, .load none (.t 1)⟩,
  ⟨(some 5), none, .len 1 (.t 4)⟩,
  ⟨(some 6), none, .bin .sub (.t 5) (.c (.int .i64 1))⟩,
  ⟨(some 3), none, .mov (.t 6)⟩])
 (.block 0 (.loop [0, 1, 3] [] (.seq (.seq (.reg [⟨(some 7), none, .mov (.t 3)⟩,
  ⟨(some 8), none, .bin .geq (.t 7) (.c (.int .i64 0))⟩])
 (.cond (.t 8) .skip
 (.exit 0)))
 (.seq (.block 1 (.seq (.reg [⟨(some 11), none, .mov (.t 0)⟩,
  ⟨(some 12), none, .mov (.t 3)⟩,
  ⟨(some 13), none, .load none (.t 1)⟩,
  ⟨(some 14), none, .mov (.t 3)⟩,
  ⟨(some 15), none, .iaddr 1 (.t 13) (.t 14)⟩,
  ⟨(some 16), none, .load none (.t 15)⟩,
  ⟨(some 17), none, .call 0 [] (.t 11) [(.t 12), (.t 16)]⟩,
  ⟨(some 18), none, .not (.t 17)⟩])
 (.cond (.t 18) .ret
 .skip)))
 (.reg [⟨(some 9), none, .mov (.t 3)⟩,
  ⟨(some 10), none, .bin .sub (.t 9) (.c (.int .i64 1))⟩,
  ⟨(some 3), none, .mov (.t 10)⟩])))))),
  [], false, false, 19⟩
theorem co219 : compF Tryz.prog ⟨[], [(1, [0, 1, 3], [])], [], [], [], [], 219, [], [], []⟩ false false Tryz.f219 = some ac219 := by kernel_rfl

/-- (*paideia/parser.parser).application -/
def ac220 : AF := ⟨(.seq (.reg [⟨(some 2), none, .alloc [(.int .i64 0), (.int .i64 0), (.str []), (.int .i64 0), (.sl .clip []), (.sl .clip []), (.sl .clip [])] false⟩])
 (.seq (.reg [⟨(some 4), none, .mov (.t 0)⟩,
  ⟨(some 5), none, .call 0 [] (.c (.fn 237 [])) [(.t 4)]⟩,
  ⟨(some 3), none, .alloc [(.int .i64 0), (.int .i64 0), (.str []), (.int .i64 0), (.sl .clip []), (.sl .clip []), (.sl .clip [])] false⟩,
  ⟨none, none, .store 7 (.t 3) (.t 5)⟩])
 (.seq (.block 0 (.loop [0] [2, 3] (.seq (.seq (.reg [⟨(some 6), none, .mov (.t 0)⟩,
  ⟨(some 7), none, .call 0 [] (.c (.fn 238 [])) [(.t 6)]⟩])
 (.cond (.t 7) .skip
 (.exit 0)))
 (.block 1 (.reg [⟨(some 8), none, .faddr 1 (.t 3)⟩,
  ⟨(some 9), none, .loadL none (.t 8)⟩,
  ⟨(some 10), none, .loadL (some 7) (.t 3)⟩,
  ⟨(some 11), none, .mov (.t 0)⟩,
  ⟨(some 12), none, .call 0 [] (.c (.fn 237 [])) [(.t 11)]⟩,
  ⟨(some 13), none, .bslice [(.int .i64 0), (.int .i64 0), (.str []), (.int .i64 0), (.sl .clip []), (.sl .clip []), (.sl .clip [])] 2 [(0, (.t 10)), (1, (.t 12))]⟩,
  ⟨(some 14), none, .build [(.int .i64 0), (.int .i64 0), (.str []), (.int .i64 0), (.sl .clip []), (.sl .clip []), (.sl .clip [])] [(0, 1, (.c (.int .i64 5))), (1, 1, (.t 9)), (4, 1, (.t 13))]⟩,
  ⟨none, none, .store 7 (.t 3) (.t 14)⟩])))))
 (.seq (.reg [⟨(some 15), none, .load (some 7) (.t 3)⟩,
  ⟨none, none, .store 7 (.t 2) (.t 15)⟩])
 .ret)))),
  [.cell 2 (some 7)], false, false, 16⟩
theorem co220 : compF Tryz.prog ⟨[], [(2, [0], [2, 3])], [], [], [], [], 220, [], [], [0]⟩ false false Tryz.f220 = some ac220 := by kernel_rfl

/-- (*paideia/parser.parser).applied -/
def ac222 : AF := ⟨(.seq (.reg [⟨(some 2), none, .alloc [(.int .i64 0), (.str []), (.sl .clip [])] false⟩])
 (.seq (.seq (.reg [⟨(some 4), none, .mov (.t 0)⟩,
  ⟨(some 5), none, .call 0 [] (.c (.fn 192 [])) [(.t 4), (.c (.int .i64 2))]⟩,
  ⟨(some 6), none, .not (.t 5)⟩])
 (.cond (.t 6) (.seq (.reg [⟨(some 7), none, .mov (.t 0)⟩,
  ⟨(some 8), none, .call 0 [] (.c (.fn 198 [])) [(.t 7)]⟩,
  ⟨none, none, .store 3 (.t 2) (.t 8)⟩])
 .ret)
 .skip))
 (.seq (.reg [⟨(some 9), none, .mov (.t 0)⟩,
  ⟨(some 10), none, .call 0 [] (.c (.fn 193 [])) [(.t 9)]⟩,
  ⟨(some 11), none, .field 2 none (.t 10)⟩,
  ⟨(some 3), none, .mov (.t 11)⟩])
 (.seq (.reg [⟨(some 12), none, .mov (.t 3)⟩,
  ⟨(some 13), none, .mov (.t 0)⟩,
  ⟨(some 14), none, .call 0 [] (.c (.fn 158 [])) [(.t 13)]⟩,
  ⟨(some 15), none, .call 0 [] (.c (.fn 94 [])) [(.t 12), (.t 14)]⟩,
  ⟨none, none, .store 3 (.t 2) (.t 15)⟩])
 .ret)))),
  [.cell 2 (some 3)], false, false, 16⟩
theorem co222 : compF Tryz.prog ⟨[], [], [], [], [], [], 222, [], [], []⟩ false false Tryz.f222 = some ac222 := by kernel_rfl

/-- paideia/types.free -/
def ac223 : AF := ⟨(.seq (.reg [⟨(some 3), none, .box (.t 0) 3 false⟩,
  ⟨(some 6), none, .mov (.c (.sl .clip []))⟩])
 (.seq (.seq (.reg [⟨(some 9), none, .faddr 0 (.t 3)⟩,
  ⟨(some 10), none, .load none (.t 9)⟩])
 (.block 0 (.seq (.reg [⟨(some 12), none, .bin .eql (.t 10) (.c (.int .i64 1))⟩,
  ⟨(some 11), none, .mov (.t 12)⟩])
 (.cond (.t 11) (.seq (.reg [⟨(some 13), none, .mov (.t 1)⟩,
  ⟨(some 14), none, .faddr 1 (.t 3)⟩,
  ⟨(some 15), none, .load none (.t 14)⟩,
  ⟨(some 16), none, .call 0 [] (.c (.fn 88 [])) [(.t 13), (.t 15)]⟩,
  ⟨(some 17), none, .not (.t 16)⟩,
  ⟨(some 18), none, .mov (.t 17)⟩,
  ⟨(some 19), (some (18, true)), .mov (.t 2)⟩,
  ⟨(some 20), (some (18, true)), .faddr 1 (.t 3)⟩,
  ⟨(some 21), (some (18, true)), .load none (.t 20)⟩,
  ⟨(some 22), (some (18, true)), .call 0 [] (.c (.fn 88 [])) [(.t 19), (.t 21)]⟩,
  ⟨(some 23), (some (18, true)), .not (.t 22)⟩,
  ⟨(some 24), none, .pick (.t 18) (.t 23) (.c (.bool false))⟩])
 (.cond (.t 24) (.reg [⟨(some 25), none, .mov (.t 2)⟩,
  ⟨(some 26), none, .faddr 1 (.t 3)⟩,
  ⟨(some 27), none, .load none (.t 26)⟩,
  ⟨(some 28), none, .bslice [(.str [])] 1 [(0, (.t 27))]⟩,
  ⟨(some 29), none, .append 1 (.t 25) (.t 28)⟩,
  ⟨(some 2), none, .mov (.t 29)⟩])
 .skip))
 (.seq (.reg [⟨(some 31), none, .bin .eql (.t 10) (.c (.int .i64 4))⟩,
  ⟨(some 30), none, .mov (.t 31)⟩])
 (.cond (.t 30) (.reg [⟨(some 32), none, .mov (.t 1)⟩,
  ⟨(some 33), none, .call 0 [] (.c (.fn 86 [])) [(.t 32)]⟩,
  ⟨(some 34), none, .faddr 1 (.t 3)⟩,
  ⟨(some 35), none, .loadL none (.t 34)⟩,
  ⟨(some 36), none, .bslice [(.str [])] 1 [(0, (.t 35))]⟩,
  ⟨(some 37), none, .append 1 (.t 33) (.t 36)⟩,
  ⟨(some 1), none, .mov (.t 37)⟩])
 .skip))))))
 (.seq (.seq (.reg [⟨(some 38), none, .faddr 2 (.t 3)⟩,
  ⟨(some 39), none, .load none (.t 38)⟩,
  ⟨(some 40), none, .len 1 (.t 39)⟩,
  ⟨(some 41), none, .mov (.c (.int .i64 0))⟩])
 (.block 1 (.loop [1, 2, 39, 40, 41] [] (.seq (.reg [⟨(some 42), none, .bin .lss (.t 41) (.t 40)⟩])
 (.seq (.cond (.t 42) .skip
 (.exit 1))
 (.seq (.block 2 (.seq (.reg [⟨(some 43), none, .iaddr 3 (.t 39) (.t 41)⟩,
  ⟨(some 44), none, .load (some 3) (.t 43)⟩,
  ⟨(some 8), none, .alloc [(.int .i64 0), (.str []), (.sl .clip [])] false⟩,
  ⟨none, none, .store 3 (.t 8) (.t 44)⟩])
 (.reg [⟨(some 45), none, .load (some 3) (.t 8)⟩,
  ⟨(some 46), none, .mov (.t 1)⟩,
  ⟨(some 47), none, .mov (.t 2)⟩,
  ⟨(some 48), none, .call 0 [] (.c (.fn 223 [])) [(.t 45), (.t 46), (.t 47)]⟩,
  ⟨(some 2), none, .mov (.t 48)⟩])))
 (.reg [⟨(some 49), none, .bin .add (.t 41) (.c (.int .i64 1))⟩,
  ⟨(some 41), none, .mov (.t 49)⟩])))))))
 (.seq (.reg [⟨(some 50), none, .mov (.t 2)⟩,
  ⟨(some 6), none, .mov (.t 50)⟩])
 .ret)))),
  [.t 6], false, true, 51⟩
theorem co223 : compF Tryz.prog ⟨[], [(8, [1, 2, 39, 40, 41], [])], [], [], [], [], 223, [], [], [0, 1, 2]⟩ false true Tryz.f223 = some ac223 := by kernel_rfl

/-- paideia/lexer.goesOn -/
def ac229 : AF := ⟨(.seq (.reg [⟨(some 2), none, .mov (.c (.bool false))⟩])
 (.seq (.reg [⟨(some 3), none, .mov (.t 0)⟩,
  ⟨(some 4), none, .call 0 [] (.c (.fn 212 [])) [(.t 3)]⟩,
  ⟨(some 5), none, .mov (.t 4)⟩,
  ⟨(some 6), (some (5, false)), .mov (.t 0)⟩,
  ⟨(some 7), (some (5, false)), .call 0 [] (.c (.fn 213 [])) [(.t 6)]⟩,
  ⟨(some 8), none, .pick (.t 5) (.c (.bool true)) (.t 7)⟩,
  ⟨(some 9), none, .mov (.t 8)⟩,
  ⟨(some 10), (some (9, false)), .mov (.t 0)⟩,
  ⟨(some 11), (some (9, false)), .call 0 [] (.c (.fn 215 [])) [(.t 10)]⟩,
  ⟨(some 12), none, .pick (.t 9) (.c (.bool true)) (.t 11)⟩,
  ⟨(some 13), none, .mov (.t 12)⟩,
  ⟨(some 14), (some (13, false)), .mov (.t 0)⟩,
  ⟨(some 15), (some (13, false)), .bin .eql (.t 14) (.c (.int .u8 39))⟩,
  ⟨(some 16), none, .pick (.t 13) (.c (.bool true)) (.t 15)⟩,
  ⟨(some 2), none, .mov (.t 16)⟩])
 .ret)),
  [.t 2], false, true, 17⟩
theorem co229 : compF Tryz.prog ⟨[], [], [], [], [], [], 229, [], [], []⟩ false true Tryz.f229 = some ac229 := by kernel_rfl

/-- paideia/lexer.Reserved -/
def ac230 : AF := ⟨(.seq (.reg [⟨(some 2), none, .mov (.c (.bool false))⟩])
 (.seq (.reg [⟨(some 3), none, .mov (.t 0)⟩,
  ⟨(some 4), none, .bin .neq (.t 3) (.c (.str []))⟩,
  ⟨(some 5), none, .mov (.t 4)⟩,
  ⟨(some 6), (some (5, true)), .mov (.t 0)⟩,
  ⟨(some 7), (some (5, true)), .call 0 [] (.c (.fn 241 [])) [(.t 6), (.c (.str [32]))]⟩,
  ⟨(some 8), (some (5, true)), .not (.t 7)⟩,
  ⟨(some 9), none, .pick (.t 5) (.t 8) (.c (.bool false))⟩,
  ⟨(some 10), none, .mov (.t 9)⟩,
  ⟨(some 11), (some (10, true)), .mov (.t 0)⟩,
  ⟨(some 12), (some (10, true)), .bin .add (.c (.str [32])) (.t 11)⟩,
  ⟨(some 13), (some (10, true)), .bin .add (.t 12) (.c (.str [32]))⟩,
  ⟨(some 14), (some (10, true)), .call 0 [] (.c (.fn 241 [])) [(.c (.str [32, 100, 97, 116, 97, 32, 99, 108, 97, 115, 115, 32, 105, 110, 115, 116, 97, 110, 99, 101, 32, 119, 104, 101, 114, 101, 32, 108, 101, 116, 32, 105, 110, 32, 99, 97, 115, 101, 32, 111, 102, 32, 105, 102, 32, 116, 104, 101, 110, 32, 101, 108, 115, 101, 32, 100, 101, 114, 105, 118, 105, 110, 103, 32])), (.t 13)]⟩,
  ⟨(some 15), none, .pick (.t 10) (.t 14) (.c (.bool false))⟩,
  ⟨(some 2), none, .mov (.t 15)⟩])
 .ret)),
  [.t 2], false, true, 16⟩
theorem co230 : compF Tryz.prog ⟨[], [], [], [], [], [], 230, [], [], []⟩ false true Tryz.f230 = some ac230 := by kernel_rfl

/-- paideia/lexer.Low -/
def ac231 : AF := ⟨(.seq (.reg [⟨(some 2), none, .mov (.c (.bool false))⟩])
 (.seq (.reg [⟨(some 3), none, .mov (.t 0)⟩,
  ⟨(some 4), none, .call 0 [] (.c (.fn 242 [])) [(.t 3)]⟩,
  ⟨(some 5), none, .mov (.t 4)⟩,
  ⟨(some 6), (some (5, true)), .mov (.t 0)⟩,
  ⟨(some 7), (some (5, true)), .sindex (.t 6) (.c (.int .i64 0))⟩,
  ⟨(some 8), (some (5, true)), .call 0 [] (.c (.fn 212 [])) [(.t 7)]⟩,
  ⟨(some 9), none, .pick (.t 5) (.t 8) (.c (.bool false))⟩,
  ⟨(some 10), none, .mov (.t 9)⟩,
  ⟨(some 11), (some (10, true)), .mov (.t 0)⟩,
  ⟨(some 12), (some (10, true)), .bin .neq (.t 11) (.c (.str [95]))⟩,
  ⟨(some 13), none, .pick (.t 10) (.t 12) (.c (.bool false))⟩,
  ⟨(some 14), none, .mov (.t 13)⟩,
  ⟨(some 15), (some (14, true)), .mov (.t 0)⟩,
  ⟨(some 16), (some (14, true)), .call 0 [] (.c (.fn 230 [])) [(.t 15)]⟩,
  ⟨(some 17), (some (14, true)), .not (.t 16)⟩,
  ⟨(some 18), none, .pick (.t 14) (.t 17) (.c (.bool false))⟩,
  ⟨(some 2), none, .mov (.t 18)⟩])
 .ret)),
  [.t 2], false, true, 19⟩
theorem co231 : compF Tryz.prog ⟨[], [], [], [], [], [], 231, [], [], []⟩ false true Tryz.f231 = some ac231 := by kernel_rfl

/-- paideia/lexer.High -/
def ac232 : AF := ⟨(.seq (.reg [⟨(some 2), none, .mov (.c (.bool false))⟩])
 (.seq (.reg [⟨(some 3), none, .mov (.t 0)⟩,
  ⟨(some 4), none, .call 0 [] (.c (.fn 242 [])) [(.t 3)]⟩,
  ⟨(some 5), none, .mov (.t 4)⟩,
  ⟨(some 6), (some (5, true)), .mov (.t 0)⟩,
  ⟨(some 7), (some (5, true)), .sindex (.t 6) (.c (.int .i64 0))⟩,
  ⟨(some 8), (some (5, true)), .call 0 [] (.c (.fn 213 [])) [(.t 7)]⟩,
  ⟨(some 9), none, .pick (.t 5) (.t 8) (.c (.bool false))⟩,
  ⟨(some 2), none, .mov (.t 9)⟩])
 .ret)),
  [.t 2], false, true, 10⟩
theorem co232 : compF Tryz.prog ⟨[], [], [], [], [], [], 232, [], [], []⟩ false true Tryz.f232 = some ac232 := by kernel_rfl

/-- paideia/lexer.Plain -/
def ac234 : AF := ⟨(.seq (.reg [⟨(some 2), none, .mov (.c (.bool false))⟩])
 (.seq (.reg [⟨(some 3), none, .mov (.t 0)⟩,
  ⟨(some 4), none, .bin .geq (.t 3) (.c (.int .u8 32))⟩,
  ⟨(some 5), none, .mov (.t 4)⟩,
  ⟨(some 6), (some (5, true)), .mov (.t 0)⟩,
  ⟨(some 7), (some (5, true)), .bin .leq (.t 6) (.c (.int .u8 126))⟩,
  ⟨(some 8), none, .pick (.t 5) (.t 7) (.c (.bool false))⟩,
  ⟨(some 9), none, .mov (.t 8)⟩,
  ⟨(some 10), (some (9, true)), .mov (.t 0)⟩,
  ⟨(some 11), (some (9, true)), .bin .neq (.t 10) (.c (.int .u8 39))⟩,
  ⟨(some 12), none, .pick (.t 9) (.t 11) (.c (.bool false))⟩,
  ⟨(some 13), none, .mov (.t 12)⟩,
  ⟨(some 14), (some (13, true)), .mov (.t 0)⟩,
  ⟨(some 15), (some (13, true)), .bin .neq (.t 14) (.c (.int .u8 92))⟩,
  ⟨(some 16), none, .pick (.t 13) (.t 15) (.c (.bool false))⟩,
  ⟨(some 2), none, .mov (.t 16)⟩])
 .ret)),
  [.t 2], false, true, 17⟩
theorem co234 : compF Tryz.prog ⟨[], [], [], [], [], [], 234, [], [], []⟩ false true Tryz.f234 = some ac234 := by kernel_rfl

/-- strings.HasPrefix -/
def ac236 : AF := ⟨(.seq (.reg [⟨(some 4), none, .mov (.c (.bool false))⟩])
 (.seq (.reg [⟨(some 5), none, .mov (.t 0)⟩,
  ⟨(some 6), none, .mov (.t 1)⟩,
  ⟨(some 7), none, .call 0 [] (.c (.fn 247 [])) [(.t 5), (.t 6)]⟩,
  ⟨(some 4), none, .mov (.t 7)⟩])
 .ret)),
  [.t 4], false, true, 8⟩
theorem co236 : compF Tryz.prog ⟨[], [], [], [], [], [], 236, [], [], []⟩ false true Tryz.f236 = some ac236 := by kernel_rfl

/-- (*paideia/parser.parser).alone -/
def ac237 : AF := ⟨(.seq (.reg [⟨(some 2), none, .alloc [(.int .i64 0), (.int .i64 0), (.str []), (.int .i64 0), (.sl .clip []), (.sl .clip []), (.sl .clip [])] false⟩])
 (.seq (.reg [⟨(some 7), none, .mov (.t 0)⟩,
  ⟨(some 8), none, .call 0 [] (.c (.fn 142 [])) [(.t 7), (.c (.int .i64 0))]⟩,
  ⟨(some 3), none, .alloc [(.int .i64 0), (.int .i64 0), (.str []), (.int .i64 0)] false⟩,
  ⟨none, none, .store 4 (.t 3) (.t 8)⟩])
 (.seq (.seq (.reg [⟨(some 9), none, .faddr 0 (.t 3)⟩,
  ⟨(some 10), none, .load none (.t 9)⟩])
 (.block 0 (.seq (.reg [⟨(some 12), none, .bin .eql (.t 10) (.c (.int .i64 1))⟩,
  ⟨(some 11), none, .mov (.t 12)⟩])
 (.cond (.t 11) (.seq (.reg [⟨(some 13), none, .mov (.t 0)⟩,
  ⟨(some 14), none, .nilck (.t 13)⟩,
  ⟨(some 15), none, .faddr 1 (.t 14)⟩,
  ⟨(some 16), none, .load none (.t 15)⟩,
  ⟨(some 17), none, .bin .add (.t 16) (.c (.int .i64 1))⟩,
  ⟨(some 18), none, .nilck (.t 13)⟩,
  ⟨(some 19), none, .faddr 1 (.t 18)⟩,
  ⟨none, none, .store 1 (.t 19) (.t 17)⟩])
 (.seq (.reg [⟨(some 20), none, .faddr 1 (.t 3)⟩,
  ⟨(some 21), none, .load none (.t 20)⟩,
  ⟨(some 22), none, .faddr 2 (.t 3)⟩,
  ⟨(some 23), none, .load none (.t 22)⟩,
  ⟨(some 24), none, .build [(.int .i64 0), (.int .i64 0), (.str []), (.int .i64 0), (.sl .clip []), (.sl .clip []), (.sl .clip [])] [(0, 1, (.c (.int .i64 1))), (1, 1, (.t 21)), (2, 1, (.t 23))]⟩,
  ⟨none, none, .store 7 (.t 2) (.t 24)⟩])
 .ret))
 (.seq (.reg [⟨(some 26), none, .bin .eql (.t 10) (.c (.int .i64 2))⟩,
  ⟨(some 25), none, .mov (.t 26)⟩])
 (.cond (.t 25) (.seq (.reg [⟨(some 27), none, .mov (.t 0)⟩,
  ⟨(some 28), none, .nilck (.t 27)⟩,
  ⟨(some 29), none, .faddr 1 (.t 28)⟩,
  ⟨(some 30), none, .load none (.t 29)⟩,
  ⟨(some 31), none, .bin .add (.t 30) (.c (.int .i64 1))⟩,
  ⟨(some 32), none, .nilck (.t 27)⟩,
  ⟨(some 33), none, .faddr 1 (.t 32)⟩,
  ⟨none, none, .store 1 (.t 33) (.t 31)⟩])
 (.seq (.reg [⟨(some 34), none, .faddr 1 (.t 3)⟩,
  ⟨(some 35), none, .load none (.t 34)⟩,
  ⟨(some 36), none, .faddr 2 (.t 3)⟩,
  ⟨(some 37), none, .load none (.t 36)⟩,
  ⟨(some 38), none, .build [(.int .i64 0), (.int .i64 0), (.str []), (.int .i64 0), (.sl .clip []), (.sl .clip []), (.sl .clip [])] [(0, 1, (.c (.int .i64 2))), (1, 1, (.t 35)), (2, 1, (.t 37))]⟩,
  ⟨none, none, .store 7 (.t 2) (.t 38)⟩])
 .ret))
 (.seq (.reg [⟨(some 40), none, .bin .eql (.t 10) (.c (.int .i64 3))⟩,
  ⟨(some 39), none, .mov (.t 40)⟩])
 (.cond (.t 39) (.seq (.reg [⟨(some 41), none, .mov (.t 0)⟩,
  ⟨(some 42), none, .nilck (.t 41)⟩,
  ⟨(some 43), none, .faddr 1 (.t 42)⟩,
  ⟨(some 44), none, .load none (.t 43)⟩,
  ⟨(some 45), none, .bin .add (.t 44) (.c (.int .i64 1))⟩,
  ⟨(some 46), none, .nilck (.t 41)⟩,
  ⟨(some 47), none, .faddr 1 (.t 46)⟩,
  ⟨none, none, .store 1 (.t 47) (.t 45)⟩])
 (.seq (.reg [⟨(some 48), none, .faddr 1 (.t 3)⟩,
  ⟨(some 49), none, .load none (.t 48)⟩,
  ⟨(some 50), none, .faddr 3 (.t 3)⟩,
  ⟨(some 51), none, .load none (.t 50)⟩,
  ⟨(some 52), none, .build [(.int .i64 0), (.int .i64 0), (.str []), (.int .i64 0), (.sl .clip []), (.sl .clip []), (.sl .clip [])] [(0, 1, (.c (.int .i64 3))), (1, 1, (.t 49)), (3, 1, (.t 51))]⟩,
  ⟨none, none, .store 7 (.t 2) (.t 52)⟩])
 .ret))
 (.seq (.reg [⟨(some 54), none, .bin .eql (.t 10) (.c (.int .i64 4))⟩,
  ⟨(some 53), none, .mov (.t 54)⟩])
 (.cond (.t 53) (.seq (.reg [⟨(some 55), none, .mov (.t 0)⟩,
  ⟨(some 56), none, .nilck (.t 55)⟩,
  ⟨(some 57), none, .faddr 1 (.t 56)⟩,
  ⟨(some 58), none, .load none (.t 57)⟩,
  ⟨(some 59), none, .bin .add (.t 58) (.c (.int .i64 1))⟩,
  ⟨(some 60), none, .nilck (.t 55)⟩,
  ⟨(some 61), none, .faddr 1 (.t 60)⟩,
  ⟨none, none, .store 1 (.t 61) (.t 59)⟩])
 (.seq (.reg [⟨(some 62), none, .faddr 1 (.t 3)⟩,
  ⟨(some 63), none, .load none (.t 62)⟩,
  ⟨(some 64), none, .faddr 3 (.t 3)⟩,
  ⟨(some 65), none, .load none (.t 64)⟩,
  ⟨(some 66), none, .build [(.int .i64 0), (.int .i64 0), (.str []), (.int .i64 0), (.sl .clip []), (.sl .clip []), (.sl .clip [])] [(0, 1, (.c (.int .i64 4))), (1, 1, (.t 63)), (3, 1, (.t 65))]⟩,
  ⟨none, none, .store 7 (.t 2) (.t 66)⟩])
 .ret))
 .skip))))))))))
 (.seq (.seq (.reg [⟨(some 67), none, .mov (.t 0)⟩,
  ⟨(some 68), none, .call 0 [] (.c (.fn 100 [])) [(.t 67), (.c (.str [40]))]⟩,
  ⟨(some 69), none, .not (.t 68)⟩])
 (.cond (.t 69) (.seq (.reg [⟨(some 70), none, .mov (.t 0)⟩,
  ⟨(some 71), none, .call 0 [] (.c (.fn 98 [])) [(.t 70)]⟩])
 (.seq (.reg [⟨(some 72), none, .build [(.int .i64 0), (.int .i64 0), (.str []), (.int .i64 0), (.sl .clip []), (.sl .clip []), (.sl .clip [])] []⟩,
  ⟨none, none, .store 7 (.t 2) (.t 72)⟩])
 .ret))
 .skip))
 (.seq (.seq (.reg [⟨(some 73), none, .mov (.t 0)⟩,
  ⟨(some 74), none, .call 0 [] (.c (.fn 142 [])) [(.t 73), (.c (.int .i64 1))]⟩,
  ⟨(some 75), none, .field 0 none (.t 74)⟩,
  ⟨(some 76), none, .bin .eql (.t 75) (.c (.int .i64 5))⟩])
 (.cond (.t 76) (.seq (.reg [⟨(some 78), none, .mov (.t 0)⟩,
  ⟨(some 79), none, .call 0 [] (.c (.fn 163 [])) [(.t 78)]⟩,
  ⟨(some 77), none, .mov (.t 79)⟩,
  ⟨(some 80), none, .extract (.t 77) 0⟩,
  ⟨(some 81), none, .extract (.t 77) 1⟩,
  ⟨(some 4), none, .mov (.t 80)⟩,
  ⟨(some 5), none, .mov (.t 81)⟩])
 (.seq (.reg [⟨(some 82), none, .mov (.t 5)⟩,
  ⟨(some 83), none, .mov (.t 4)⟩,
  ⟨(some 84), none, .build [(.int .i64 0), (.int .i64 0), (.str []), (.int .i64 0), (.sl .clip []), (.sl .clip []), (.sl .clip [])] [(0, 1, (.c (.int .i64 1))), (1, 1, (.t 82)), (2, 1, (.t 83))]⟩,
  ⟨none, none, .store 7 (.t 2) (.t 84)⟩])
 .ret))
 .skip))
 (.seq (.seq (.reg [⟨(some 85), none, .mov (.t 0)⟩,
  ⟨(some 86), none, .faddr 1 (.t 3)⟩,
  ⟨(some 87), none, .load none (.t 86)⟩,
  ⟨(some 88), none, .call 0 [] (.c (.fn 106 [])) [(.t 85), (.t 87)]⟩,
  ⟨(some 89), none, .not (.t 88)⟩])
 (.cond (.t 89) (.seq (.reg [⟨(some 90), none, .build [(.int .i64 0), (.int .i64 0), (.str []), (.int .i64 0), (.sl .clip []), (.sl .clip []), (.sl .clip [])] []⟩,
  ⟨none, none, .store 7 (.t 2) (.t 90)⟩])
 .ret)
 .skip))
 (.seq (.reg [⟨(some 91), none, .mov (.t 0)⟩,
  ⟨(some 92), none, .nilck (.t 91)⟩,
  ⟨(some 93), none, .faddr 1 (.t 92)⟩,
  ⟨(some 94), none, .load none (.t 93)⟩,
  ⟨(some 95), none, .bin .add (.t 94) (.c (.int .i64 1))⟩,
  ⟨(some 96), none, .nilck (.t 91)⟩,
  ⟨(some 97), none, .faddr 1 (.t 96)⟩,
  ⟨none, none, .store 1 (.t 97) (.t 95)⟩])
 (.seq (.reg [⟨(some 98), none, .mov (.t 0)⟩,
  ⟨(some 99), none, .call 0 [] (.c (.fn 62 [])) [(.t 98)]⟩,
  ⟨(some 6), none, .alloc [(.int .i64 0), (.int .i64 0), (.str []), (.int .i64 0), (.sl .clip []), (.sl .clip []), (.sl .clip [])] false⟩,
  ⟨none, none, .store 7 (.t 6) (.t 99)⟩])
 (.seq (.reg [⟨(some 100), none, .mov (.t 0)⟩,
  ⟨(some 101), none, .call 0 [] (.c (.fn 145 [])) [(.t 100), (.c (.str [41]))]⟩])
 (.seq (.reg [⟨(some 102), none, .mov (.t 0)⟩,
  ⟨(some 103), none, .nilck (.t 102)⟩,
  ⟨(some 104), none, .faddr 3 (.t 103)⟩,
  ⟨(some 105), none, .load none (.t 104)⟩,
  ⟨(some 106), none, .bin .sub (.t 105) (.c (.int .i64 1))⟩,
  ⟨(some 107), none, .nilck (.t 102)⟩,
  ⟨(some 108), none, .faddr 3 (.t 107)⟩,
  ⟨none, none, .store 1 (.t 108) (.t 106)⟩])
 (.seq (.reg [⟨(some 109), none, .load (some 7) (.t 6)⟩,
  ⟨none, none, .store 7 (.t 2) (.t 109)⟩])
 .ret))))))))))),
  [.cell 2 (some 7)], false, false, 110⟩
theorem co237 : compF Tryz.prog ⟨[], [], [], [], [], [], 237, [], [], []⟩ false false Tryz.f237 = some ac237 := by kernel_rfl

/-- (*paideia/parser.parser).begins -/
def ac238 : AF := ⟨(.seq (.reg [⟨(some 2), none, .mov (.c (.bool false))⟩])
 (.seq (.reg [⟨(some 3), none, .mov (.t 0)⟩,
  ⟨(some 4), none, .call 0 [] (.c (.fn 192 [])) [(.t 3), (.c (.int .i64 1))]⟩,
  ⟨(some 5), none, .mov (.t 4)⟩,
  ⟨(some 6), (some (5, false)), .mov (.t 0)⟩,
  ⟨(some 7), (some (5, false)), .call 0 [] (.c (.fn 192 [])) [(.t 6), (.c (.int .i64 2))]⟩,
  ⟨(some 8), none, .pick (.t 5) (.c (.bool true)) (.t 7)⟩,
  ⟨(some 9), none, .mov (.t 8)⟩,
  ⟨(some 10), (some (9, false)), .mov (.t 0)⟩,
  ⟨(some 11), (some (9, false)), .call 0 [] (.c (.fn 192 [])) [(.t 10), (.c (.int .i64 3))]⟩,
  ⟨(some 12), none, .pick (.t 9) (.c (.bool true)) (.t 11)⟩,
  ⟨(some 13), none, .mov (.t 12)⟩,
  ⟨(some 14), (some (13, false)), .mov (.t 0)⟩,
  ⟨(some 15), (some (13, false)), .call 0 [] (.c (.fn 192 [])) [(.t 14), (.c (.int .i64 4))]⟩,
  ⟨(some 16), none, .pick (.t 13) (.c (.bool true)) (.t 15)⟩,
  ⟨(some 17), none, .mov (.t 16)⟩,
  ⟨(some 18), (some (17, false)), .mov (.t 0)⟩,
  ⟨(some 19), (some (17, false)), .call 0 [] (.c (.fn 100 [])) [(.t 18), (.c (.str [40]))]⟩,
  ⟨(some 20), none, .pick (.t 17) (.c (.bool true)) (.t 19)⟩,
  ⟨(some 2), none, .mov (.t 20)⟩])
 .ret)),
  [.t 2], false, false, 21⟩
theorem co238 : compF Tryz.prog ⟨[], [], [], [], [], [], 238, [], [], []⟩ false false Tryz.f238 = some ac238 := by kernel_rfl

/-- paideia/lexer.isName -/
def ac242 : AF := ⟨(.seq (.reg [⟨(some 2), none, .mov (.c (.bool false))⟩])
 (.seq (.seq (.reg [⟨(some 4), none, .mov (.t 0)⟩,
  ⟨(some 5), none, .len 0 (.t 4)⟩,
  ⟨(some 6), none, .mov (.c (.int .i64 0))⟩])
 (.block 0 (.loop [0, 5, 6] [] (.seq (.reg [⟨(some 7), none, .bin .lss (.t 6) (.t 5)⟩])
 (.seq (.cond (.t 7) .skip
 (.exit 0))
 (.seq (.block 1 (.seq (.reg [⟨(some 8), none, .mov (.t 6)⟩,
  ⟨(some 3), none, .mov (.t 8)⟩])
 (.seq (.reg [⟨(some 9), none, .mov (.t 0)⟩,
  ⟨(some 10), none, .mov (.t 3)⟩,
  ⟨(some 11), none, .sindex (.t 9) (.t 10)⟩,
  ⟨(some 12), none, .call 0 [] (.c (.fn 229 [])) [(.t 11)]⟩,
  ⟨(some 13), none, .not (.t 12)⟩])
 (.cond (.t 13) (.seq (.reg [⟨(some 2), none, .mov (.c (.bool false))⟩])
 .ret)
 .skip))))
 (.reg [⟨(some 14), none, .bin .add (.t 6) (.c (.int .i64 1))⟩,
  ⟨(some 6), none, .mov (.t 14)⟩])))))))
 (.seq (.reg [⟨(some 15), none, .mov (.t 0)⟩,
  ⟨(some 16), none, .len 0 (.t 15)⟩,
  ⟨(some 17), none, .bin .gtr (.t 16) (.c (.int .i64 0))⟩,
  ⟨(some 18), none, .mov (.t 17)⟩,
  ⟨(some 19), (some (18, true)), .mov (.t 0)⟩,
  ⟨(some 20), (some (18, true)), .len 0 (.t 19)⟩,
  ⟨(some 21), (some (18, true)), .bin .leq (.t 20) (.c (.int .i64 40))⟩,
  ⟨(some 22), none, .pick (.t 18) (.t 21) (.c (.bool false))⟩,
  ⟨(some 2), none, .mov (.t 22)⟩])
 .ret))),
  [.t 2], false, true, 23⟩
theorem co242 : compF Tryz.prog ⟨[], [(2, [0, 5, 6], [])], [], [], [], [], 242, [], [], []⟩ false true Tryz.f242 = some ac242 := by kernel_rfl

/-- internal/stringslite.HasPrefix -/
def ac247 : AF := ⟨(.seq (.reg [⟨(some 4), none, .mov (.c (.bool false))⟩])
 (.seq (.reg [⟨(some 5), none, .mov (.t 0)⟩,
  ⟨(some 6), none, .len 0 (.t 5)⟩,
  ⟨(some 7), none, .mov (.t 1)⟩,
  ⟨(some 8), none, .len 0 (.t 7)⟩,
  ⟨(some 9), none, .bin .geq (.t 6) (.t 8)⟩,
  ⟨(some 10), none, .mov (.t 9)⟩,
  ⟨(some 11), (some (10, true)), .mov (.t 0)⟩,
  ⟨(some 12), (some (10, true)), .mov (.t 1)⟩,
  ⟨(some 13), (some (10, true)), .len 0 (.t 12)⟩,
  ⟨(some 14), (some (10, true)), .slice 0 (.t 11) none (some (.t 13)) none⟩,
  ⟨(some 15), (some (10, true)), .mov (.t 1)⟩,
  ⟨(some 16), (some (10, true)), .bin .eql (.t 14) (.t 15)⟩,
  ⟨(some 17), none, .pick (.t 10) (.t 16) (.c (.bool false))⟩,
  ⟨(some 4), none, .mov (.t 17)⟩])
 .ret)),
  [.t 4], false, true, 18⟩
theorem co247 : compF Tryz.prog ⟨[], [], [], [], [], [], 247, [], [], []⟩ false true Tryz.f247 = some ac247 := by kernel_rfl


theorem prim233 : PrimOkG Tryz.prog [3,4,5,3000015,4000017] 233 parseP := parseP_ok (t := 5) Tryz.func233 (by kernel_rfl) (by kernel_rfl) (fun s h1 v h2 w => Tryz.strconv_ParseInt_10_at64_ok s h1 v h2 w)
theorem prim241 : PrimOkG Tryz.prog [3,4,5,3000015,4000017] 241 contP := contP_ok (g := 17) Tryz.func241 (by kernel_rfl) (by kernel_rfl) (by simp) (fun s sub m w h1 h2 => Tryz.strings_Contains s sub m w h1 h2)
theorem prim235 : PrimOkG Tryz.prog [3,4,5,3000015,4000017] 235 fieldsP := fieldsP_ok (g := 15) (t := 9) Tryz.func235 (by kernel_rfl) (by kernel_rfl) (by kernel_rfl) (by simp) Tryz.strings_Fields

def ap4 : AP := fun f vr => match f, vr with
  | 9344, 77 => some (.body ab146_0)
  | 233, 0 => some (.prim parseP)
  | 241, 0 => some (.prim contP)
  | 235, 0 => some (.prim fieldsP)
  | _, _ => none

theorem table4 : TableOk Tryz.prog ap4 [3,4,5,3000015,4000017] := by
  intro f vr fd h
  unfold ap4 at h
  split at h
  · cases h; exact tab_body (key := 9344) Tryz.func146 cb146_0 (by decide)
  · cases h; exact prim233
  · cases h; exact prim241
  · cases h; exact prim235
  · cases h

def ap3 : AP := fun f vr => match f, vr with
  | 203, 0 => some (.code ac203)
  | 210, 0 => some (.code ac210)
  | 211, 0 => some (.code ac211)
  | 212, 0 => some (.code ac212)
  | 213, 0 => some (.code ac213)
  | 214, 0 => some (.code ac214)
  | 215, 0 => some (.code ac215)
  | 216, 0 => some (.code ac216)
  | 217, 0 => some (.code ac217)
  | 218, 0 => some (.code ac218)
  | 219, 0 => some (.code ac219)
  | 220, 0 => some (.code ac220)
  | 222, 0 => some (.code ac222)
  | 223, 0 => some (.code ac223)
  | 229, 0 => some (.code ac229)
  | 230, 0 => some (.code ac230)
  | 231, 0 => some (.code ac231)
  | 232, 0 => some (.code ac232)
  | 234, 0 => some (.code ac234)
  | 236, 0 => some (.code ac236)
  | 237, 0 => some (.code ac237)
  | 238, 0 => some (.code ac238)
  | 242, 0 => some (.code ac242)
  | 247, 0 => some (.code ac247)
  | 6208, 77 => some (.body ab97_0)
  | f, vr => ap4 f vr

theorem table3 : TableOk Tryz.prog ap3 [3,4,5,3000015,4000017] := by
  intro f vr fd h
  unfold ap3 at h
  split at h
  · cases h; exact ⟨_, _, Tryz.func203, co203, by decide, rfl⟩
  · cases h; exact ⟨_, _, Tryz.func210, co210, by decide, rfl⟩
  · cases h; exact ⟨_, _, Tryz.func211, co211, by decide, rfl⟩
  · cases h; exact ⟨_, _, Tryz.func212, co212, by decide, rfl⟩
  · cases h; exact ⟨_, _, Tryz.func213, co213, by decide, rfl⟩
  · cases h; exact ⟨_, _, Tryz.func214, co214, by decide, rfl⟩
  · cases h; exact ⟨_, _, Tryz.func215, co215, by decide, rfl⟩
  · cases h; exact ⟨_, _, Tryz.func216, co216, by decide, rfl⟩
  · cases h; exact ⟨_, _, Tryz.func217, co217, by decide, rfl⟩
  · cases h; exact ⟨_, _, Tryz.func218, co218, by decide, rfl⟩
  · cases h; exact ⟨_, _, Tryz.func219, co219, by decide, rfl⟩
  · cases h; exact ⟨_, _, Tryz.func220, co220, by decide, rfl⟩
  · cases h; exact ⟨_, _, Tryz.func222, co222, by decide, rfl⟩
  · cases h; exact ⟨_, _, Tryz.func223, co223, by decide, rfl⟩
  · cases h; exact ⟨_, _, Tryz.func229, co229, by decide, rfl⟩
  · cases h; exact ⟨_, _, Tryz.func230, co230, by decide, rfl⟩
  · cases h; exact ⟨_, _, Tryz.func231, co231, by decide, rfl⟩
  · cases h; exact ⟨_, _, Tryz.func232, co232, by decide, rfl⟩
  · cases h; exact ⟨_, _, Tryz.func234, co234, by decide, rfl⟩
  · cases h; exact ⟨_, _, Tryz.func236, co236, by decide, rfl⟩
  · cases h; exact ⟨_, _, Tryz.func237, co237, by decide, rfl⟩
  · cases h; exact ⟨_, _, Tryz.func238, co238, by decide, rfl⟩
  · cases h; exact ⟨_, _, Tryz.func242, co242, by decide, rfl⟩
  · cases h; exact ⟨_, _, Tryz.func247, co247, by decide, rfl⟩
  · cases h; exact tab_body (key := 6208) Tryz.func97 cb97_0 (by decide)
  · exact table4 _ _ _ h

def ap2 : AP := fun f vr => match f, vr with
  | 147, 0 => some (.code ac147)
  | 148, 0 => some (.code ac148)
  | 149, 0 => some (.code ac149)
  | 150, 0 => some (.code ac150)
  | 151, 0 => some (.code ac151)
  | 152, 0 => some (.code ac152)
  | 153, 0 => some (.code ac153)
  | 157, 0 => some (.code ac157)
  | 158, 0 => some (.code ac158)
  | 159, 0 => some (.code ac159)
  | 163, 0 => some (.code ac163)
  | 164, 0 => some (.code ac164)
  | 165, 0 => some (.code ac165)
  | 166, 0 => some (.code ac166)
  | 189, 0 => some (.code ac189)
  | 190, 0 => some (.code ac190)
  | 191, 0 => some (.code ac191)
  | 192, 0 => some (.code ac192)
  | 193, 0 => some (.code ac193)
  | 194, 0 => some (.code ac194)
  | 195, 0 => some (.code ac195)
  | 196, 0 => some (.code ac196)
  | 199, 0 => some (.code ac199)
  | 201, 0 => some (.code ac201)
  | 202, 0 => some (.code ac202)
  | f, vr => ap3 f vr

theorem table2 : TableOk Tryz.prog ap2 [3,4,5,3000015,4000017] := by
  intro f vr fd h
  unfold ap2 at h
  split at h
  · cases h; exact ⟨_, _, Tryz.func147, co147, by decide, rfl⟩
  · cases h; exact ⟨_, _, Tryz.func148, co148, by decide, rfl⟩
  · cases h; exact ⟨_, _, Tryz.func149, co149, by decide, rfl⟩
  · cases h; exact ⟨_, _, Tryz.func150, co150, by decide, rfl⟩
  · cases h; exact ⟨_, _, Tryz.func151, co151, by decide, rfl⟩
  · cases h; exact ⟨_, _, Tryz.func152, co152, by decide, rfl⟩
  · cases h; exact ⟨_, _, Tryz.func153, co153, by decide, rfl⟩
  · cases h; exact ⟨_, _, Tryz.func157, co157, by decide, rfl⟩
  · cases h; exact ⟨_, _, Tryz.func158, co158, by decide, rfl⟩
  · cases h; exact ⟨_, _, Tryz.func159, co159, by decide, rfl⟩
  · cases h; exact ⟨_, _, Tryz.func163, co163, by decide, rfl⟩
  · cases h; exact ⟨_, _, Tryz.func164, co164, by decide, rfl⟩
  · cases h; exact ⟨_, _, Tryz.func165, co165, by decide, rfl⟩
  · cases h; exact ⟨_, _, Tryz.func166, co166, by decide, rfl⟩
  · cases h; exact ⟨_, _, Tryz.func189, co189, by decide, rfl⟩
  · cases h; exact ⟨_, _, Tryz.func190, co190, by decide, rfl⟩
  · cases h; exact ⟨_, _, Tryz.func191, co191, by decide, rfl⟩
  · cases h; exact ⟨_, _, Tryz.func192, co192, by decide, rfl⟩
  · cases h; exact ⟨_, _, Tryz.func193, co193, by decide, rfl⟩
  · cases h; exact ⟨_, _, Tryz.func194, co194, by decide, rfl⟩
  · cases h; exact ⟨_, _, Tryz.func195, co195, by decide, rfl⟩
  · cases h; exact ⟨_, _, Tryz.func196, co196, by decide, rfl⟩
  · cases h; exact ⟨_, _, Tryz.func199, co199, by decide, rfl⟩
  · cases h; exact ⟨_, _, Tryz.func201, co201, by decide, rfl⟩
  · cases h; exact ⟨_, _, Tryz.func202, co202, by decide, rfl⟩
  · exact table3 _ _ _ h

def ap1 : AP := fun f vr => match f, vr with
  | 99, 0 => some (.code ac99)
  | 100, 0 => some (.code ac100)
  | 101, 0 => some (.code ac101)
  | 102, 0 => some (.code ac102)
  | 103, 0 => some (.code ac103)
  | 105, 0 => some (.code ac105)
  | 106, 0 => some (.code ac106)
  | 109, 0 => some (.code ac109)
  | 110, 0 => some (.code ac110)
  | 113, 0 => some (.code ac113)
  | 114, 0 => some (.code ac114)
  | 115, 0 => some (.code ac115)
  | 116, 0 => some (.code ac116)
  | 118, 0 => some (.code ac118)
  | 119, 0 => some (.code ac119)
  | 120, 0 => some (.code ac120)
  | 136, 0 => some (.code ac136)
  | 139, 0 => some (.code ac139)
  | 140, 0 => some (.code ac140)
  | 141, 0 => some (.code ac141)
  | 142, 0 => some (.code ac142)
  | 143, 0 => some (.code ac143)
  | 144, 0 => some (.code ac144)
  | 145, 0 => some (.code ac145)
  | 146, 0 => some (.code ac146)
  | f, vr => ap2 f vr

theorem table1 : TableOk Tryz.prog ap1 [3,4,5,3000015,4000017] := by
  intro f vr fd h
  unfold ap1 at h
  split at h
  · cases h; exact ⟨_, _, Tryz.func99, co99, by decide, rfl⟩
  · cases h; exact ⟨_, _, Tryz.func100, co100, by decide, rfl⟩
  · cases h; exact ⟨_, _, Tryz.func101, co101, by decide, rfl⟩
  · cases h; exact ⟨_, _, Tryz.func102, co102, by decide, rfl⟩
  · cases h; exact ⟨_, _, Tryz.func103, co103, by decide, rfl⟩
  · cases h; exact ⟨_, _, Tryz.func105, co105, by decide, rfl⟩
  · cases h; exact ⟨_, _, Tryz.func106, co106, by decide, rfl⟩
  · cases h; exact ⟨_, _, Tryz.func109, co109, by decide, rfl⟩
  · cases h; exact ⟨_, _, Tryz.func110, co110, by decide, rfl⟩
  · cases h; exact ⟨_, _, Tryz.func113, co113, by decide, rfl⟩
  · cases h; exact ⟨_, _, Tryz.func114, co114, by decide, rfl⟩
  · cases h; exact ⟨_, _, Tryz.func115, co115, by decide, rfl⟩
  · cases h; exact ⟨_, _, Tryz.func116, co116, by decide, rfl⟩
  · cases h; exact ⟨_, _, Tryz.func118, co118, by decide, rfl⟩
  · cases h; exact ⟨_, _, Tryz.func119, co119, by decide, rfl⟩
  · cases h; exact ⟨_, _, Tryz.func120, co120, by decide, rfl⟩
  · cases h; exact ⟨_, _, Tryz.func136, co136, by decide, rfl⟩
  · cases h; exact ⟨_, _, Tryz.func139, co139, by decide, rfl⟩
  · cases h; exact ⟨_, _, Tryz.func140, co140, by decide, rfl⟩
  · cases h; exact ⟨_, _, Tryz.func141, co141, by decide, rfl⟩
  · cases h; exact ⟨_, _, Tryz.func142, co142, by decide, rfl⟩
  · cases h; exact ⟨_, _, Tryz.func143, co143, by decide, rfl⟩
  · cases h; exact ⟨_, _, Tryz.func144, co144, by decide, rfl⟩
  · cases h; exact ⟨_, _, Tryz.func145, co145, by decide, rfl⟩
  · cases h; exact ⟨_, _, Tryz.func146, co146, by decide, rfl⟩
  · exact table2 _ _ _ h

def ap0 : AP := fun f vr => match f, vr with
  | 5, 0 => some (.code ac5)
  | 6, 0 => some (.code ac6)
  | 27, 0 => some (.code ac27)
  | 28, 0 => some (.code ac28)
  | 29, 0 => some (.code ac29)
  | 30, 0 => some (.code ac30)
  | 31, 0 => some (.code ac31)
  | 54, 0 => some (.code ac54)
  | 61, 0 => some (.code ac61)
  | 62, 0 => some (.code ac62)
  | 63, 0 => some (.code ac63)
  | 64, 0 => some (.code ac64)
  | 66, 0 => some (.code ac66)
  | 68, 0 => some (.code ac68)
  | 69, 0 => some (.code ac69)
  | 70, 0 => some (.code ac70)
  | 71, 0 => some (.code ac71)
  | 72, 0 => some (.code ac72)
  | 73, 0 => some (.code ac73)
  | 74, 0 => some (.code ac74)
  | 75, 0 => some (.code ac75)
  | 88, 0 => some (.code ac88)
  | 94, 0 => some (.code ac94)
  | 97, 0 => some (.code ac97)
  | 98, 0 => some (.code ac98)
  | f, vr => ap1 f vr

theorem table0 : TableOk Tryz.prog ap0 [3,4,5,3000015,4000017] := by
  intro f vr fd h
  unfold ap0 at h
  split at h
  · cases h; exact ⟨_, _, Tryz.func5, co5, by decide, rfl⟩
  · cases h; exact ⟨_, _, Tryz.func6, co6, by decide, rfl⟩
  · cases h; exact ⟨_, _, Tryz.func27, co27, by decide, rfl⟩
  · cases h; exact ⟨_, _, Tryz.func28, co28, by decide, rfl⟩
  · cases h; exact ⟨_, _, Tryz.func29, co29, by decide, rfl⟩
  · cases h; exact ⟨_, _, Tryz.func30, co30, by decide, rfl⟩
  · cases h; exact ⟨_, _, Tryz.func31, co31, by decide, rfl⟩
  · cases h; exact ⟨_, _, Tryz.func54, co54, by decide, rfl⟩
  · cases h; exact ⟨_, _, Tryz.func61, co61, by decide, rfl⟩
  · cases h; exact ⟨_, _, Tryz.func62, co62, by decide, rfl⟩
  · cases h; exact ⟨_, _, Tryz.func63, co63, by decide, rfl⟩
  · cases h; exact ⟨_, _, Tryz.func64, co64, by decide, rfl⟩
  · cases h; exact ⟨_, _, Tryz.func66, co66, by decide, rfl⟩
  · cases h; exact ⟨_, _, Tryz.func68, co68, by decide, rfl⟩
  · cases h; exact ⟨_, _, Tryz.func69, co69, by decide, rfl⟩
  · cases h; exact ⟨_, _, Tryz.func70, co70, by decide, rfl⟩
  · cases h; exact ⟨_, _, Tryz.func71, co71, by decide, rfl⟩
  · cases h; exact ⟨_, _, Tryz.func72, co72, by decide, rfl⟩
  · cases h; exact ⟨_, _, Tryz.func73, co73, by decide, rfl⟩
  · cases h; exact ⟨_, _, Tryz.func74, co74, by decide, rfl⟩
  · cases h; exact ⟨_, _, Tryz.func75, co75, by decide, rfl⟩
  · cases h; exact ⟨_, _, Tryz.func88, co88, by decide, rfl⟩
  · cases h; exact ⟨_, _, Tryz.func94, co94, by decide, rfl⟩
  · cases h; exact ⟨_, _, Tryz.func97, co97, by decide, rfl⟩
  · cases h; exact ⟨_, _, Tryz.func98, co98, by decide, rfl⟩
  · exact table1 _ _ _ h

def ap : AP := ap0
theorem tableOk : TableOk Tryz.prog ap [3,4,5,3000015,4000017] := table0

end Go.Qt
