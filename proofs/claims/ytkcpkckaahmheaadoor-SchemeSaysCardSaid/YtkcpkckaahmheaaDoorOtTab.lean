/- The seat's functions on the abstract machine. -/
import Derived.Test.YtkcpkckaahmheaaDoorAmX
import Derived.Test.YtkcpkckaahmheaaDoorAmZ
import Derived.Test.YtkcpkckaahmheaaDoorAmL
import Derived.Test.YtkcpkckaahmheaaDoorAmQ
import Derived.Test.YtkcpkckaahmheaaDoorAmU
import Derived.Test.YtkcpkckaahmheaaDoorAmI
import Derived.Test.YtkcpkckaahmheaaDoorAmF
import Derived.Test.YtkcpkckaahmheaaDoorOtShelf
import Derived.Test.YtkcpkckaahmheaaDoorProg
namespace Go.Ot
open Go.Am Go.Proofs

set_option maxRecDepth 100000
def cut3 : Nat := 9
def mid3 : AC := (.reg [⟨(some 131), none, .mov (.t 1)⟩,
  ⟨(some 132), none, .mov (.t 6)⟩,
  ⟨(some 133), none, .len 1 (.t 132)⟩,
  ⟨(some 134), none, .bin .rem (.t 131) (.t 133)⟩,
  ⟨(some 135), none, .mov (.t 6)⟩,
  ⟨(some 136), none, .len 1 (.t 135)⟩,
  ⟨(some 137), none, .bin .add (.t 134) (.t 136)⟩,
  ⟨(some 138), none, .mov (.t 6)⟩,
  ⟨(some 139), none, .len 1 (.t 138)⟩,
  ⟨(some 140), none, .bin .rem (.t 137) (.t 139)⟩,
  ⟨(some 1), none, .mov (.t 140)⟩])
def rest3 : AC := (.seq (.reg [⟨(some 141), none, .mov (.t 6)⟩,
  ⟨(some 142), none, .mov (.t 1)⟩,
  ⟨(some 143), none, .slice 4 (.t 141) (some (.t 142)) none none⟩,
  ⟨(some 144), none, .call 0 [] (.c (.fn 12 [])) [(.t 143)]⟩,
  ⟨(some 145), none, .mov (.t 6)⟩,
  ⟨(some 146), none, .mov (.t 1)⟩,
  ⟨(some 147), none, .slice 4 (.t 145) none (some (.t 146)) none⟩,
  ⟨(some 148), none, .append 4 (.t 144) (.t 147)⟩,
  ⟨(some 14), none, .mov (.t 148)⟩])
 (.seq (.reg [⟨(some 149), none, .mov (.t 5)⟩,
  ⟨(some 150), none, .mov (.t 149)⟩,
  ⟨(some 151), (some (150, true)), .mov (.t 14)⟩,
  ⟨(some 152), (some (150, true)), .call 0 [] (.c (.fn 9 [])) [(.t 151)]⟩,
  ⟨(some 153), (some (150, true)), .mov (.t 7)⟩,
  ⟨(some 154), (some (150, true)), .call 0 [] (.c (.fn 13 [])) [(.t 152), (.t 153)]⟩,
  ⟨(some 155), none, .pick (.t 150) (.t 154) (.c (.bool false))⟩,
  ⟨(some 4), none, .mov (.t 155)⟩])
 .ret))
/-- paideia/paideialaw8.SchemeSorts -/
def ac3 : AF := ⟨(.seq (.reg [⟨(some 4), none, .mov (.c (.bool false))⟩])
 (.seq (.reg [⟨(some 15), none, .call 0 [] (.c (.fn 7 [])) []⟩,
  ⟨(some 5), none, .mov (.t 15)⟩])
 (.seq (.seq (.reg [⟨(some 16), none, .mov (.t 5)⟩,
  ⟨(some 17), none, .not (.t 16)⟩])
 (.cond (.t 17) (.seq (.reg [⟨(some 4), none, .mov (.c (.bool false))⟩])
 .ret)
 .skip))
 (.seq (.seq (.reg [⟨(some 18), none, .mov (.t 0)⟩,
  ⟨(some 19), none, .len 1 (.t 18)⟩,
  ⟨(some 20), none, .bin .gtr (.t 19) (.c (.int .i64 60))⟩])
 (.cond (.t 20) (.seq (.reg [⟨(some 21), none, .mov (.t 5)⟩,
  ⟨(some 4), none, .mov (.t 21)⟩])
 .ret)
 .skip))
 (.seq (.reg [⟨(some 22), none, .mov (.t 0)⟩,
  ⟨(some 23), none, .build [(.sl .clip []), (.int .i64 0)] [(0, 1, (.t 22))]⟩,
  ⟨(some 24), none, .box (.t 23) 2 true⟩,
  ⟨(some 25), none, .call 0 [] (.c (.fn 8 [])) [(.t 24), (.c (.int .i64 6)), (.c (.int .i64 1))]⟩,
  ⟨(some 6), none, .mov (.t 25)⟩])
 (.seq (.reg [⟨(some 26), none, .mov (.t 6)⟩,
  ⟨(some 27), none, .call 0 [] (.c (.fn 9 [])) [(.t 26)]⟩,
  ⟨(some 7), none, .mov (.t 27)⟩])
 (.seq (.seq (.reg [⟨(some 8), none, .mov (.c (.int .i64 0))⟩])
 (.block 0 (.loop [1, 5, 6, 7, 8] [] (.seq (.seq (.reg [⟨(some 28), none, .mov (.t 8)⟩,
  ⟨(some 29), none, .mov (.t 7)⟩,
  ⟨(some 30), none, .len 1 (.t 29)⟩,
  ⟨(some 31), none, .bin .lss (.t 28) (.t 30)⟩])
 (.cond (.t 31) .skip
 (.exit 0)))
 (.seq (.block 1 (.seq (.reg [⟨(some 9), none, .mov (.c (.bool false))⟩])
 (.seq (.seq (.reg [⟨(some 10), none, .mov (.c (.int .i64 0))⟩])
 (.block 2 (.loop [1, 5, 6, 7, 8, 9, 10] [] (.seq (.seq (.reg [⟨(some 34), none, .mov (.t 10)⟩,
  ⟨(some 35), none, .mov (.t 6)⟩,
  ⟨(some 36), none, .len 1 (.t 35)⟩,
  ⟨(some 37), none, .bin .lss (.t 34) (.t 36)⟩])
 (.cond (.t 37) .skip
 (.exit 2)))
 (.seq (.block 3 (.reg [⟨(some 40), none, .mov (.t 9)⟩,
  ⟨(some 41), none, .mov (.t 40)⟩,
  ⟨(some 42), (some (41, false)), .mov (.t 6)⟩,
  ⟨(some 43), (some (41, false)), .mov (.t 10)⟩,
  ⟨(some 44), (some (41, false)), .iaddr 4 (.t 42) (.t 43)⟩,
  ⟨(some 45), (some (41, false)), .load (some 4) (.t 44)⟩,
  ⟨(some 46), (some (41, false)), .mov (.t 7)⟩,
  ⟨(some 47), (some (41, false)), .mov (.t 8)⟩,
  ⟨(some 48), (some (41, false)), .iaddr 4 (.t 46) (.t 47)⟩,
  ⟨(some 49), (some (41, false)), .load (some 4) (.t 48)⟩,
  ⟨(some 50), (some (41, false)), .call 0 [] (.c (.fn 10 [])) [(.t 45), (.t 49)]⟩,
  ⟨(some 51), none, .pick (.t 41) (.c (.bool true)) (.t 50)⟩,
  ⟨(some 9), none, .mov (.t 51)⟩]))
 (.reg [⟨(some 38), none, .mov (.t 10)⟩,
  ⟨(some 39), none, .bin .add (.t 38) (.c (.int .i64 1))⟩,
  ⟨(some 10), none, .mov (.t 39)⟩]))))))
 (.seq (.reg [⟨(some 52), none, .mov (.t 9)⟩,
  ⟨(some 53), none, .not (.t 52)⟩,
  ⟨(some 54), none, .mov (.t 53)⟩,
  ⟨(some 55), (some (54, false)), .mov (.t 8)⟩,
  ⟨(some 56), (some (54, false)), .bin .gtr (.t 55) (.c (.int .i64 0))⟩,
  ⟨(some 57), (some (54, false)), .mov (.t 56)⟩,
  ⟨(some 58), (some (57, true)), .mov (.t 7)⟩,
  ⟨(some 59), (some (57, true)), .mov (.t 8)⟩,
  ⟨(some 60), (some (57, true)), .iaddr 4 (.t 58) (.t 59)⟩,
  ⟨(some 61), (some (57, true)), .faddr 0 (.t 60)⟩,
  ⟨(some 62), (some (57, true)), .load none (.t 61)⟩,
  ⟨(some 63), (some (57, true)), .mov (.t 7)⟩,
  ⟨(some 64), (some (57, true)), .mov (.t 8)⟩,
  ⟨(some 65), (some (57, true)), .bin .sub (.t 64) (.c (.int .i64 1))⟩,
  ⟨(some 66), (some (57, true)), .iaddr 4 (.t 63) (.t 65)⟩,
  ⟨(some 67), (some (57, true)), .faddr 0 (.t 66)⟩,
  ⟨(some 68), (some (57, true)), .load none (.t 67)⟩,
  ⟨(some 69), (some (57, true)), .bin .lss (.t 62) (.t 68)⟩,
  ⟨(some 70), (some (57, true)), .mov (.t 69)⟩,
  ⟨(some 71), (some (70, false)), .mov (.t 7)⟩,
  ⟨(some 72), (some (70, false)), .mov (.t 8)⟩,
  ⟨(some 73), (some (70, false)), .iaddr 4 (.t 71) (.t 72)⟩,
  ⟨(some 74), (some (70, false)), .faddr 0 (.t 73)⟩,
  ⟨(some 75), (some (70, false)), .load none (.t 74)⟩,
  ⟨(some 76), (some (70, false)), .mov (.t 7)⟩,
  ⟨(some 77), (some (70, false)), .mov (.t 8)⟩,
  ⟨(some 78), (some (70, false)), .bin .sub (.t 77) (.c (.int .i64 1))⟩,
  ⟨(some 79), (some (70, false)), .iaddr 4 (.t 76) (.t 78)⟩,
  ⟨(some 80), (some (70, false)), .faddr 0 (.t 79)⟩,
  ⟨(some 81), (some (70, false)), .load none (.t 80)⟩,
  ⟨(some 82), (some (70, false)), .bin .eql (.t 75) (.t 81)⟩,
  ⟨(some 83), (some (70, false)), .mov (.t 82)⟩,
  ⟨(some 84), (some (83, true)), .mov (.t 7)⟩,
  ⟨(some 85), (some (83, true)), .mov (.t 8)⟩,
  ⟨(some 86), (some (83, true)), .bin .sub (.t 85) (.c (.int .i64 1))⟩,
  ⟨(some 87), (some (83, true)), .iaddr 4 (.t 84) (.t 86)⟩,
  ⟨(some 88), (some (83, true)), .faddr 1 (.t 87)⟩,
  ⟨(some 89), (some (83, true)), .load (some 3) (.t 88)⟩,
  ⟨(some 90), (some (83, true)), .mov (.t 7)⟩,
  ⟨(some 91), (some (83, true)), .mov (.t 8)⟩,
  ⟨(some 92), (some (83, true)), .iaddr 4 (.t 90) (.t 91)⟩,
  ⟨(some 93), (some (83, true)), .faddr 1 (.t 92)⟩,
  ⟨(some 94), (some (83, true)), .load (some 3) (.t 93)⟩,
  ⟨(some 95), (some (83, true)), .call 0 [] (.c (.fn 11 [])) [(.t 89), (.t 94)]⟩,
  ⟨(some 96), (some (83, true)), .bin .geq (.t 95) (.c (.int .i64 0))⟩,
  ⟨(some 97), (some (70, false)), .pick (.t 83) (.t 96) (.c (.bool false))⟩,
  ⟨(some 98), (some (57, true)), .pick (.t 70) (.c (.bool true)) (.t 97)⟩,
  ⟨(some 99), (some (54, false)), .pick (.t 57) (.t 98) (.c (.bool false))⟩,
  ⟨(some 100), none, .pick (.t 54) (.c (.bool true)) (.t 99)⟩])
 (.cond (.t 100) (.seq (.reg [⟨(some 4), none, .mov (.c (.bool false))⟩])
 .ret)
 .skip)))))
 (.reg [⟨(some 32), none, .mov (.t 8)⟩,
  ⟨(some 33), none, .bin .add (.t 32) (.c (.int .i64 1))⟩,
  ⟨(some 8), none, .mov (.t 33)⟩]))))))
 (.seq (.seq (.reg [⟨(some 11), none, .mov (.c (.int .i64 0))⟩])
 (.block 4 (.loop [1, 5, 6, 7, 11] [] (.seq (.seq (.reg [⟨(some 101), none, .mov (.t 11)⟩,
  ⟨(some 102), none, .mov (.t 6)⟩,
  ⟨(some 103), none, .len 1 (.t 102)⟩,
  ⟨(some 104), none, .bin .lss (.t 101) (.t 103)⟩])
 (.cond (.t 104) .skip
 (.exit 4)))
 (.seq (.block 5 (.seq (.reg [⟨(some 12), none, .mov (.c (.bool false))⟩])
 (.seq (.seq (.reg [⟨(some 13), none, .mov (.c (.int .i64 0))⟩])
 (.block 6 (.loop [1, 5, 6, 7, 11, 12, 13] [] (.seq (.seq (.reg [⟨(some 107), none, .mov (.t 13)⟩,
  ⟨(some 108), none, .mov (.t 7)⟩,
  ⟨(some 109), none, .len 1 (.t 108)⟩,
  ⟨(some 110), none, .bin .lss (.t 107) (.t 109)⟩])
 (.cond (.t 110) .skip
 (.exit 6)))
 (.seq (.block 7 (.reg [⟨(some 113), none, .mov (.t 12)⟩,
  ⟨(some 114), none, .mov (.t 113)⟩,
  ⟨(some 115), (some (114, false)), .mov (.t 6)⟩,
  ⟨(some 116), (some (114, false)), .mov (.t 11)⟩,
  ⟨(some 117), (some (114, false)), .iaddr 4 (.t 115) (.t 116)⟩,
  ⟨(some 118), (some (114, false)), .load (some 4) (.t 117)⟩,
  ⟨(some 119), (some (114, false)), .mov (.t 7)⟩,
  ⟨(some 120), (some (114, false)), .mov (.t 13)⟩,
  ⟨(some 121), (some (114, false)), .iaddr 4 (.t 119) (.t 120)⟩,
  ⟨(some 122), (some (114, false)), .load (some 4) (.t 121)⟩,
  ⟨(some 123), (some (114, false)), .call 0 [] (.c (.fn 10 [])) [(.t 118), (.t 122)]⟩,
  ⟨(some 124), none, .pick (.t 114) (.c (.bool true)) (.t 123)⟩,
  ⟨(some 12), none, .mov (.t 124)⟩]))
 (.reg [⟨(some 111), none, .mov (.t 13)⟩,
  ⟨(some 112), none, .bin .add (.t 111) (.c (.int .i64 1))⟩,
  ⟨(some 13), none, .mov (.t 112)⟩]))))))
 (.seq (.reg [⟨(some 125), none, .mov (.t 12)⟩,
  ⟨(some 126), none, .not (.t 125)⟩])
 (.cond (.t 126) (.seq (.reg [⟨(some 4), none, .mov (.c (.bool false))⟩])
 .ret)
 .skip)))))
 (.reg [⟨(some 105), none, .mov (.t 11)⟩,
  ⟨(some 106), none, .bin .add (.t 105) (.c (.int .i64 1))⟩,
  ⟨(some 11), none, .mov (.t 106)⟩]))))))
 (.seq (.seq (.reg [⟨(some 127), none, .mov (.t 6)⟩,
  ⟨(some 128), none, .len 1 (.t 127)⟩,
  ⟨(some 129), none, .bin .eql (.t 128) (.c (.int .i64 0))⟩])
 (.cond (.t 129) (.seq (.reg [⟨(some 130), none, .mov (.t 5)⟩,
  ⟨(some 4), none, .mov (.t 130)⟩])
 .ret)
 .skip))
 (.seq mid3 rest3)))))))))),
  [.t 4], false, true, 156⟩
theorem co3 : compF Tryd.prog ⟨[24], [(9, [1, 5, 6, 7, 8], []), (13, [1, 5, 6, 7, 8, 9, 10], []), (19, [1, 5, 6, 7, 11], []), (23, [1, 5, 6, 7, 11, 12, 13], [])], [], [], [], [], 3, [], [], []⟩ false true Tryd.f3 = some ac3 := by kernel_rfl

/-- paideia/paideialaw8.SchemeFree -/
def ac4 : AF := ⟨(.seq (.reg [⟨(some 4), none, .mov (.c (.bool false))⟩])
 (.seq (.reg [⟨(some 13), none, .call 0 [] (.c (.fn 7 [])) []⟩,
  ⟨(some 5), none, .mov (.t 13)⟩])
 (.seq (.seq (.reg [⟨(some 14), none, .mov (.t 5)⟩,
  ⟨(some 15), none, .not (.t 14)⟩])
 (.cond (.t 15) (.seq (.reg [⟨(some 4), none, .mov (.c (.bool false))⟩])
 .ret)
 .skip))
 (.seq (.seq (.reg [⟨(some 16), none, .mov (.t 0)⟩,
  ⟨(some 17), none, .len 1 (.t 16)⟩,
  ⟨(some 18), none, .bin .gtr (.t 17) (.c (.int .i64 100))⟩])
 (.cond (.t 18) (.seq (.reg [⟨(some 19), none, .mov (.t 5)⟩,
  ⟨(some 4), none, .mov (.t 19)⟩])
 .ret)
 .skip))
 (.seq (.reg [⟨(some 20), none, .mov (.t 0)⟩,
  ⟨(some 21), none, .build [(.sl .clip []), (.int .i64 0)] [(0, 1, (.t 20))]⟩,
  ⟨(some 22), none, .box (.t 21) 2 true⟩,
  ⟨(some 23), none, .call 0 [] (.c (.fn 14 [])) [(.t 22), (.c (.int .i64 4))]⟩,
  ⟨(some 6), none, .alloc [(.int .i64 0), (.str []), (.sl .clip [])] false⟩,
  ⟨none, none, .store 3 (.t 6) (.t 23)⟩])
 (.seq (.reg [⟨(some 24), none, .bslice [(.str [])] 3 [(0, (.c (.str [97]))), (1, (.c (.str [98]))), (2, (.c (.str [99])))]⟩,
  ⟨(some 25), none, .mov (.t 1)⟩,
  ⟨(some 26), none, .bin .rem (.t 25) (.c (.int .i64 3))⟩,
  ⟨(some 27), none, .bin .add (.t 26) (.c (.int .i64 3))⟩,
  ⟨(some 28), none, .bin .rem (.t 27) (.c (.int .i64 3))⟩,
  ⟨(some 29), none, .iaddr 1 (.t 24) (.t 28)⟩,
  ⟨(some 30), none, .load none (.t 29)⟩,
  ⟨(some 7), none, .mov (.t 30)⟩])
 (.seq (.reg [⟨(some 31), none, .load (some 3) (.t 6)⟩,
  ⟨(some 32), none, .mov (.t 7)⟩,
  ⟨(some 33), none, .bslice [(.str [])] 1 [(0, (.t 32))]⟩,
  ⟨(some 34), none, .call 0 [] (.c (.fn 15 [])) [(.c (.sl .clip [])), (.t 31), (.t 33)]⟩,
  ⟨(some 8), none, .alloc [(.sl .clip []), (.sl .clip []), (.int .i64 0), (.str []), (.sl .clip [])] false⟩,
  ⟨none, none, .store 5 (.t 8) (.t 34)⟩])
 (.seq (.reg [⟨(some 35), none, .load (some 5) (.t 8)⟩,
  ⟨(some 36), none, .call 0 [] (.c (.fn 16 [])) [(.t 35)]⟩,
  ⟨(some 9), none, .alloc [(.sl .clip []), (.sl .clip []), (.int .i64 0), (.str []), (.sl .clip [])] false⟩,
  ⟨none, none, .store 5 (.t 9) (.t 36)⟩])
 (.seq (.reg [⟨(some 37), none, .load (some 3) (.t 6)⟩,
  ⟨(some 38), none, .bslice [(.int .i64 0), (.str []), (.sl .clip [])] 1 [(0, (.t 37))]⟩,
  ⟨(some 39), none, .call 0 [] (.c (.fn 18 [])) [(.t 38)]⟩,
  ⟨(some 40), none, .mov (.t 7)⟩,
  ⟨(some 41), none, .call 0 [] (.c (.fn 17 [])) [(.t 39), (.t 40)]⟩,
  ⟨(some 10), none, .mov (.t 41)⟩])
 (.seq (.reg [⟨(some 42), none, .load (some 5) (.t 9)⟩,
  ⟨(some 43), none, .call 0 [] (.c (.fn 19 [])) [(.t 42)]⟩,
  ⟨(some 11), none, .mov (.t 43)⟩])
 (.seq (.seq (.reg [⟨(some 12), none, .mov (.c (.int .i64 0))⟩])
 (.block 0 (.loop [5, 7, 10, 11, 12] [6, 8, 9] (.seq (.seq (.reg [⟨(some 44), none, .mov (.t 12)⟩,
  ⟨(some 45), none, .faddr 0 (.t 9)⟩,
  ⟨(some 46), none, .load none (.t 45)⟩,
  ⟨(some 47), none, .len 1 (.t 46)⟩,
  ⟨(some 48), none, .bin .lss (.t 44) (.t 47)⟩])
 (.cond (.t 48) .skip
 (.exit 0)))
 (.seq (.block 1 (.seq (.reg [⟨(some 51), none, .mov (.t 10)⟩,
  ⟨(some 52), none, .mov (.t 51)⟩,
  ⟨(some 53), (some (52, true)), .faddr 0 (.t 9)⟩,
  ⟨(some 54), (some (52, true)), .load none (.t 53)⟩,
  ⟨(some 55), (some (52, true)), .mov (.t 12)⟩,
  ⟨(some 56), (some (52, true)), .iaddr 1 (.t 54) (.t 55)⟩,
  ⟨(some 57), (some (52, true)), .load none (.t 56)⟩,
  ⟨(some 58), (some (52, true)), .mov (.t 7)⟩,
  ⟨(some 59), (some (52, true)), .bin .eql (.t 57) (.t 58)⟩,
  ⟨(some 60), none, .pick (.t 52) (.t 59) (.c (.bool false))⟩])
 (.cond (.t 60) (.seq (.reg [⟨(some 4), none, .mov (.c (.bool false))⟩])
 .ret)
 .skip)))
 (.reg [⟨(some 49), none, .mov (.t 12)⟩,
  ⟨(some 50), none, .bin .add (.t 49) (.c (.int .i64 1))⟩,
  ⟨(some 12), none, .mov (.t 50)⟩]))))))
 (.seq (.reg [⟨(some 61), none, .mov (.t 5)⟩,
  ⟨(some 62), none, .mov (.t 61)⟩,
  ⟨(some 63), (some (62, true)), .mov (.t 11)⟩,
  ⟨(some 64), (some (62, true)), .len 1 (.t 63)⟩,
  ⟨(some 65), (some (62, true)), .load (some 5) (.t 8)⟩,
  ⟨(some 66), (some (62, true)), .call 0 [] (.c (.fn 19 [])) [(.t 65)]⟩,
  ⟨(some 67), (some (62, true)), .len 1 (.t 66)⟩,
  ⟨(some 68), (some (62, true)), .bin .eql (.t 64) (.t 67)⟩,
  ⟨(some 69), none, .pick (.t 62) (.t 68) (.c (.bool false))⟩,
  ⟨(some 70), none, .mov (.t 69)⟩,
  ⟨(some 71), (some (70, true)), .mov (.t 11)⟩,
  ⟨(some 72), (some (70, true)), .len 1 (.t 71)⟩,
  ⟨(some 73), (some (70, true)), .bin .eql (.t 72) (.c (.int .i64 1))⟩,
  ⟨(some 74), (some (70, true)), .mov (.t 10)⟩,
  ⟨(some 75), (some (70, true)), .eqb false (.t 73) (.t 74)⟩,
  ⟨(some 76), none, .pick (.t 70) (.t 75) (.c (.bool false))⟩,
  ⟨(some 77), none, .mov (.t 76)⟩,
  ⟨(some 78), (some (77, true)), .mov (.t 10)⟩,
  ⟨(some 79), (some (77, true)), .not (.t 78)⟩,
  ⟨(some 80), (some (77, true)), .mov (.t 79)⟩,
  ⟨(some 81), (some (80, false)), .mov (.t 11)⟩,
  ⟨(some 82), (some (80, false)), .iaddr 1 (.t 81) (.c (.int .i64 0))⟩,
  ⟨(some 83), (some (80, false)), .load none (.t 82)⟩,
  ⟨(some 84), (some (80, false)), .mov (.t 7)⟩,
  ⟨(some 85), (some (80, false)), .bin .eql (.t 83) (.t 84)⟩,
  ⟨(some 86), (some (77, true)), .pick (.t 80) (.c (.bool true)) (.t 85)⟩,
  ⟨(some 87), none, .pick (.t 77) (.t 86) (.c (.bool false))⟩,
  ⟨(some 88), none, .mov (.t 87)⟩,
  ⟨(some 89), (some (88, true)), .faddr 2 (.t 9)⟩,
  ⟨(some 90), (some (88, true)), .load (some 3) (.t 89)⟩,
  ⟨(some 91), (some (88, true)), .call 0 [] (.c (.fn 20 [])) [(.t 90)]⟩,
  ⟨(some 92), (some (88, true)), .loadL (some 3) (.t 6)⟩,
  ⟨(some 93), (some (88, true)), .call 0 [] (.c (.fn 20 [])) [(.t 92)]⟩,
  ⟨(some 94), (some (88, true)), .bin .eql (.t 91) (.t 93)⟩,
  ⟨(some 95), none, .pick (.t 88) (.t 94) (.c (.bool false))⟩,
  ⟨(some 4), none, .mov (.t 95)⟩])
 .ret)))))))))))),
  [.t 4], false, true, 96⟩
theorem co4 : compF Tryd.prog ⟨[22], [(13, [5, 7, 10, 11, 12], [6, 8, 9])], [], [], [], [], 4, [], [], []⟩ false true Tryd.f4 = some ac4 := by kernel_rfl

/-- paideia/paideialaw8.SchemeNames -/
def ac5 : AF := ⟨(.seq (.reg [⟨(some 4), none, .mov (.c (.bool false))⟩])
 (.seq (.reg [⟨(some 22), none, .call 0 [] (.c (.fn 7 [])) []⟩,
  ⟨(some 5), none, .mov (.t 22)⟩])
 (.seq (.seq (.reg [⟨(some 23), none, .mov (.t 5)⟩,
  ⟨(some 24), none, .not (.t 23)⟩])
 (.cond (.t 24) (.seq (.reg [⟨(some 4), none, .mov (.c (.bool false))⟩])
 .ret)
 .skip))
 (.seq (.seq (.reg [⟨(some 25), none, .mov (.t 0)⟩,
  ⟨(some 26), none, .len 1 (.t 25)⟩,
  ⟨(some 27), none, .bin .gtr (.t 26) (.c (.int .i64 100))⟩])
 (.cond (.t 27) (.seq (.reg [⟨(some 28), none, .mov (.t 5)⟩,
  ⟨(some 4), none, .mov (.t 28)⟩])
 .ret)
 .skip))
 (.seq (.reg [⟨(some 29), none, .mov (.t 0)⟩,
  ⟨(some 30), none, .build [(.sl .clip []), (.int .i64 0)] [(0, 1, (.t 29))]⟩,
  ⟨(some 31), none, .box (.t 30) 2 true⟩,
  ⟨(some 6), none, .mov (.t 31)⟩])
 (.seq (.reg [⟨(some 32), none, .mov (.t 6)⟩,
  ⟨(some 33), none, .call 0 [] (.c (.fn 14 [])) [(.t 32), (.c (.int .i64 3))]⟩,
  ⟨(some 7), none, .alloc [(.int .i64 0), (.str []), (.sl .clip [])] false⟩,
  ⟨none, none, .store 3 (.t 7) (.t 33)⟩])
 (.seq (.reg [⟨(some 34), none, .mov (.t 6)⟩,
  ⟨(some 35), none, .call 0 [] (.c (.fn 8 [])) [(.t 34), (.c (.int .i64 4)), (.c (.int .i64 0))]⟩,
  ⟨(some 8), none, .mov (.t 35)⟩])
 (.seq (.reg [⟨(some 36), none, .mov (.t 8)⟩,
  ⟨(some 37), none, .load (some 3) (.t 7)⟩,
  ⟨(some 38), none, .call 0 [] (.c (.fn 21 [])) [(.t 36), (.t 37), (.c (.sl .clip []))]⟩,
  ⟨(some 9), none, .alloc [(.sl .clip []), (.sl .clip []), (.int .i64 0), (.str []), (.sl .clip [])] false⟩,
  ⟨none, none, .store 5 (.t 9) (.t 38)⟩])
 (.seq (.reg [⟨(some 39), none, .bslice [(.str [])] 3 [(0, (.c (.str [120]))), (1, (.c (.str [121]))), (2, (.c (.str [122])))]⟩,
  ⟨(some 40), none, .bslice [(.str [])] 3 [(0, (.c (.str [98]))), (1, (.c (.str [99]))), (2, (.c (.str [97])))]⟩,
  ⟨(some 41), none, .bslice [(.str [])] 3 [(0, (.c (.str [99]))), (1, (.c (.str [97]))), (2, (.c (.str [98])))]⟩,
  ⟨(some 42), none, .bslice [(.str [])] 3 [(0, (.c (.str [113, 49]))), (1, (.c (.str [97]))), (2, (.c (.str [122, 122])))]⟩,
  ⟨(some 43), none, .bslice [(.sl .clip [])] 4 [(0, (.t 39)), (1, (.t 40)), (2, (.t 41)), (3, (.t 42))]⟩,
  ⟨(some 44), none, .mov (.t 1)⟩,
  ⟨(some 45), none, .bin .rem (.t 44) (.c (.int .i64 4))⟩,
  ⟨(some 46), none, .bin .add (.t 45) (.c (.int .i64 4))⟩,
  ⟨(some 47), none, .bin .rem (.t 46) (.c (.int .i64 4))⟩,
  ⟨(some 48), none, .iaddr 1 (.t 43) (.t 47)⟩,
  ⟨(some 49), none, .load none (.t 48)⟩,
  ⟨(some 10), none, .mov (.t 49)⟩])
 (.seq (.reg [⟨(some 11), none, .mov (.c (.sl .clip []))⟩])
 (.seq (.seq (.reg [⟨(some 12), none, .mov (.c (.int .i64 0))⟩])
 (.block 0 (.loop [5, 8, 10, 11, 12] [7, 9] (.seq (.seq (.reg [⟨(some 50), none, .mov (.t 12)⟩,
  ⟨(some 51), none, .bin .lss (.t 50) (.c (.int .i64 3))⟩])
 (.cond (.t 51) .skip
 (.exit 0)))
 (.seq (.block 1 (.reg [⟨(some 54), none, .mov (.t 11)⟩,
  ⟨(some 55), none, .bslice [(.str [])] 3 [(0, (.c (.str [97]))), (1, (.c (.str [98]))), (2, (.c (.str [99])))]⟩,
  ⟨(some 56), none, .mov (.t 12)⟩,
  ⟨(some 57), none, .iaddr 1 (.t 55) (.t 56)⟩,
  ⟨(some 58), none, .loadL none (.t 57)⟩,
  ⟨(some 59), none, .mov (.t 10)⟩,
  ⟨(some 60), none, .mov (.t 12)⟩,
  ⟨(some 61), none, .iaddr 1 (.t 59) (.t 60)⟩,
  ⟨(some 62), none, .load none (.t 61)⟩,
  ⟨(some 63), none, .call 0 [] (.c (.fn 22 [])) [(.t 62)]⟩,
  ⟨(some 64), none, .build [(.str []), (.int .i64 0), (.str []), (.sl .clip [])] [(0, 1, (.t 58)), (1, 3, (.t 63))]⟩,
  ⟨(some 65), none, .bslice [(.str []), (.int .i64 0), (.str []), (.sl .clip [])] 1 [(0, (.t 64))]⟩,
  ⟨(some 66), none, .append 4 (.t 54) (.t 65)⟩,
  ⟨(some 11), none, .mov (.t 66)⟩]))
 (.reg [⟨(some 52), none, .mov (.t 12)⟩,
  ⟨(some 53), none, .bin .add (.t 52) (.c (.int .i64 1))⟩,
  ⟨(some 12), none, .mov (.t 53)⟩]))))))
 (.seq (.reg [⟨(some 13), none, .mov (.c (.sl .clip []))⟩])
 (.seq (.seq (.reg [⟨(some 67), none, .mov (.t 8)⟩,
  ⟨(some 68), none, .len 1 (.t 67)⟩,
  ⟨(some 69), none, .bin .sub (.t 68) (.c (.int .i64 1))⟩,
  ⟨(some 14), none, .mov (.t 69)⟩])
 (.block 2 (.loop [5, 8, 11, 13, 14] [7, 9] (.seq (.seq (.reg [⟨(some 70), none, .mov (.t 14)⟩,
  ⟨(some 71), none, .bin .geq (.t 70) (.c (.int .i64 0))⟩])
 (.cond (.t 71) .skip
 (.exit 2)))
 (.seq (.block 3 (.reg [⟨(some 74), none, .mov (.t 13)⟩,
  ⟨(some 75), none, .mov (.t 8)⟩,
  ⟨(some 76), none, .mov (.t 14)⟩,
  ⟨(some 77), none, .iaddr 4 (.t 75) (.t 76)⟩,
  ⟨(some 78), none, .load (some 4) (.t 77)⟩,
  ⟨(some 79), none, .bslice [(.str []), (.int .i64 0), (.str []), (.sl .clip [])] 1 [(0, (.t 78))]⟩,
  ⟨(some 80), none, .append 4 (.t 74) (.t 79)⟩,
  ⟨(some 13), none, .mov (.t 80)⟩]))
 (.reg [⟨(some 72), none, .mov (.t 14)⟩,
  ⟨(some 73), none, .bin .sub (.t 72) (.c (.int .i64 1))⟩,
  ⟨(some 14), none, .mov (.t 73)⟩]))))))
 (.seq (.reg [⟨(some 81), none, .mov (.t 11)⟩,
  ⟨(some 82), none, .mov (.t 13)⟩,
  ⟨(some 83), none, .call 0 [] (.c (.fn 23 [])) [(.t 81), (.t 82)]⟩,
  ⟨(some 84), none, .mov (.t 11)⟩,
  ⟨(some 85), none, .loadL (some 3) (.t 7)⟩,
  ⟨(some 86), none, .call 0 [] (.c (.fn 24 [])) [(.t 84), (.t 85)]⟩,
  ⟨(some 87), none, .call 0 [] (.c (.fn 21 [])) [(.t 83), (.t 86), (.c (.sl .clip []))]⟩,
  ⟨(some 15), none, .alloc [(.sl .clip []), (.sl .clip []), (.int .i64 0), (.str []), (.sl .clip [])] false⟩,
  ⟨none, none, .store 5 (.t 15) (.t 87)⟩])
 (.seq (.reg [⟨(some 88), none, .load (some 5) (.t 9)⟩,
  ⟨(some 89), none, .call 0 [] (.c (.fn 16 [])) [(.t 88)]⟩,
  ⟨(some 16), none, .alloc [(.sl .clip []), (.sl .clip []), (.int .i64 0), (.str []), (.sl .clip [])] false⟩,
  ⟨none, none, .store 5 (.t 16) (.t 89)⟩])
 (.seq (.reg [⟨(some 17), none, .mov (.c (.bool true))⟩])
 (.seq (.reg [⟨(some 90), none, .load (some 3) (.t 7)⟩,
  ⟨(some 91), none, .bslice [(.int .i64 0), (.str []), (.sl .clip [])] 1 [(0, (.t 90))]⟩,
  ⟨(some 92), none, .call 0 [] (.c (.fn 18 [])) [(.t 91)]⟩,
  ⟨(some 18), none, .mov (.t 92)⟩])
 (.seq (.seq (.reg [⟨(some 19), none, .mov (.c (.int .i64 0))⟩])
 (.block 4 (.loop [5, 8, 17, 18, 19] [9, 15, 16] (.seq (.seq (.reg [⟨(some 93), none, .mov (.t 19)⟩,
  ⟨(some 94), none, .mov (.t 8)⟩,
  ⟨(some 95), none, .len 1 (.t 94)⟩,
  ⟨(some 96), none, .bin .lss (.t 93) (.t 95)⟩])
 (.cond (.t 96) .skip
 (.exit 4)))
 (.seq (.block 5 (.seq (.reg [⟨(some 99), none, .mov (.t 8)⟩,
  ⟨(some 100), none, .mov (.t 19)⟩,
  ⟨(some 101), none, .iaddr 4 (.t 99) (.t 100)⟩,
  ⟨(some 102), none, .faddr 1 (.t 101)⟩,
  ⟨(some 103), none, .load (some 3) (.t 102)⟩,
  ⟨(some 104), none, .bslice [(.int .i64 0), (.str []), (.sl .clip [])] 1 [(0, (.t 103))]⟩,
  ⟨(some 105), none, .call 0 [] (.c (.fn 18 [])) [(.t 104)]⟩,
  ⟨(some 20), none, .mov (.t 105)⟩])
 (.seq (.reg [⟨(some 21), none, .mov (.c (.int .i64 0))⟩])
 (.block 6 (.loop [5, 8, 17, 18, 19, 20, 21] [9, 15, 16] (.seq (.seq (.reg [⟨(some 106), none, .mov (.t 21)⟩,
  ⟨(some 107), none, .mov (.t 20)⟩,
  ⟨(some 108), none, .len 1 (.t 107)⟩,
  ⟨(some 109), none, .bin .lss (.t 106) (.t 108)⟩])
 (.cond (.t 109) .skip
 (.exit 6)))
 (.seq (.block 7 (.reg [⟨(some 112), none, .mov (.t 17)⟩,
  ⟨(some 113), none, .mov (.t 112)⟩,
  ⟨(some 114), (some (113, true)), .mov (.t 18)⟩,
  ⟨(some 115), (some (113, true)), .mov (.t 20)⟩,
  ⟨(some 116), (some (113, true)), .mov (.t 21)⟩,
  ⟨(some 117), (some (113, true)), .iaddr 1 (.t 115) (.t 116)⟩,
  ⟨(some 118), (some (113, true)), .load none (.t 117)⟩,
  ⟨(some 119), (some (113, true)), .call 0 [] (.c (.fn 17 [])) [(.t 114), (.t 118)]⟩,
  ⟨(some 120), none, .pick (.t 113) (.t 119) (.c (.bool false))⟩,
  ⟨(some 17), none, .mov (.t 120)⟩]))
 (.reg [⟨(some 110), none, .mov (.t 21)⟩,
  ⟨(some 111), none, .bin .add (.t 110) (.c (.int .i64 1))⟩,
  ⟨(some 21), none, .mov (.t 111)⟩]))))))))
 (.reg [⟨(some 97), none, .mov (.t 19)⟩,
  ⟨(some 98), none, .bin .add (.t 97) (.c (.int .i64 1))⟩,
  ⟨(some 19), none, .mov (.t 98)⟩]))))))
 (.seq (.reg [⟨(some 121), none, .mov (.t 5)⟩,
  ⟨(some 122), none, .mov (.t 121)⟩,
  ⟨(some 123), (some (122, true)), .mov (.t 17)⟩,
  ⟨(some 124), (some (122, true)), .not (.t 123)⟩,
  ⟨(some 125), (some (122, true)), .mov (.t 124)⟩,
  ⟨(some 126), (some (125, false)), .load (some 5) (.t 9)⟩,
  ⟨(some 127), (some (125, false)), .load (some 5) (.t 15)⟩,
  ⟨(some 128), (some (125, false)), .call 0 [] (.c (.fn 25 [])) [(.t 126), (.t 127)]⟩,
  ⟨(some 129), (some (122, true)), .pick (.t 125) (.c (.bool true)) (.t 128)⟩,
  ⟨(some 130), none, .pick (.t 122) (.t 129) (.c (.bool false))⟩,
  ⟨(some 131), none, .mov (.t 130)⟩,
  ⟨(some 132), (some (131, true)), .load (some 5) (.t 16)⟩,
  ⟨(some 133), (some (131, true)), .call 0 [] (.c (.fn 16 [])) [(.t 132)]⟩,
  ⟨(some 134), (some (131, true)), .loadL (some 5) (.t 16)⟩,
  ⟨(some 135), (some (131, true)), .call 0 [] (.c (.fn 26 [])) [(.t 133), (.t 134)]⟩,
  ⟨(some 136), none, .pick (.t 131) (.t 135) (.c (.bool false))⟩,
  ⟨(some 137), none, .mov (.t 136)⟩,
  ⟨(some 138), (some (137, true)), .load (some 5) (.t 9)⟩,
  ⟨(some 139), (some (137, true)), .call 0 [] (.c (.fn 19 [])) [(.t 138)]⟩,
  ⟨(some 140), (some (137, true)), .len 1 (.t 139)⟩,
  ⟨(some 141), (some (137, true)), .bin .eql (.t 140) (.c (.int .i64 0))⟩,
  ⟨(some 142), none, .pick (.t 137) (.t 141) (.c (.bool false))⟩,
  ⟨(some 143), none, .mov (.t 142)⟩,
  ⟨(some 144), (some (143, true)), .load (some 5) (.t 16)⟩,
  ⟨(some 145), (some (143, true)), .call 0 [] (.c (.fn 19 [])) [(.t 144)]⟩,
  ⟨(some 146), (some (143, true)), .len 1 (.t 145)⟩,
  ⟨(some 147), (some (143, true)), .bin .eql (.t 146) (.c (.int .i64 0))⟩,
  ⟨(some 148), none, .pick (.t 143) (.t 147) (.c (.bool false))⟩,
  ⟨(some 4), none, .mov (.t 148)⟩])
 .ret))))))))))))))))))),
  [.t 4], false, true, 149⟩
theorem co5 : compF Tryd.prog ⟨[31], [(13, [5, 8, 10, 11, 12], [7, 9]), (18, [5, 8, 11, 13, 14], [7, 9]), (26, [5, 8, 17, 18, 19], [9, 15, 16]), (30, [5, 8, 17, 18, 19, 20, 21], [9, 15, 16])], [], [], [], [], 5, [], [], []⟩ false true Tryd.f5 = some ac5 := by kernel_rfl

/-- paideia/paideialaw8.SchemeSays -/
def ac6 : AF := ⟨(.seq (.reg [⟨(some 8), none, .mov (.c (.bool false))⟩])
 (.seq (.reg [⟨(some 19), none, .call 0 [] (.c (.fn 7 [])) []⟩,
  ⟨(some 9), none, .mov (.t 19)⟩])
 (.seq (.seq (.reg [⟨(some 20), none, .mov (.t 9)⟩,
  ⟨(some 21), none, .not (.t 20)⟩])
 (.cond (.t 21) (.seq (.reg [⟨(some 8), none, .mov (.c (.bool false))⟩])
 .ret)
 .skip))
 (.seq (.seq (.reg [⟨(some 22), none, .mov (.t 0)⟩,
  ⟨(some 23), none, .len 1 (.t 22)⟩,
  ⟨(some 24), none, .bin .gtr (.t 23) (.c (.int .i64 200))⟩,
  ⟨(some 25), none, .mov (.t 24)⟩,
  ⟨(some 26), (some (25, false)), .mov (.t 3)⟩,
  ⟨(some 27), (some (25, false)), .len 1 (.t 26)⟩,
  ⟨(some 28), (some (25, false)), .bin .gtr (.t 27) (.c (.int .i64 5))⟩,
  ⟨(some 29), none, .pick (.t 25) (.c (.bool true)) (.t 28)⟩])
 (.cond (.t 29) (.seq (.reg [⟨(some 30), none, .mov (.t 9)⟩,
  ⟨(some 8), none, .mov (.t 30)⟩])
 .ret)
 .skip))
 (.seq (.reg [⟨(some 31), none, .mov (.t 0)⟩,
  ⟨(some 32), none, .build [(.sl .clip []), (.int .i64 0)] [(0, 1, (.t 31))]⟩,
  ⟨(some 33), none, .box (.t 32) 2 true⟩,
  ⟨(some 10), none, .mov (.t 33)⟩])
 (.seq (.reg [⟨(some 34), none, .mov (.t 10)⟩,
  ⟨(some 35), none, .call 0 [] (.c (.fn 27 [])) [(.t 34)]⟩,
  ⟨(some 11), none, .alloc [(.sl .clip []), (.sl .clip []), (.int .i64 0), (.str []), (.sl .clip [])] false⟩,
  ⟨none, none, .store 5 (.t 11) (.t 35)⟩])
 (.seq (.reg [⟨(some 36), none, .mov (.t 10)⟩,
  ⟨(some 37), none, .call 0 [] (.c (.fn 27 [])) [(.t 36)]⟩,
  ⟨(some 12), none, .alloc [(.sl .clip []), (.sl .clip []), (.int .i64 0), (.str []), (.sl .clip [])] false⟩,
  ⟨none, none, .store 5 (.t 12) (.t 37)⟩])
 (.seq (.reg [⟨(some 38), none, .mov (.t 10)⟩,
  ⟨(some 39), none, .call 0 [] (.c (.fn 8 [])) [(.t 38), (.c (.int .i64 5)), (.c (.int .i64 2))]⟩,
  ⟨(some 13), none, .mov (.t 39)⟩])
 (.seq (.seq (.reg [⟨(some 40), none, .mov (.t 2)⟩,
  ⟨(some 41), none, .bin .lss (.t 40) (.c (.int .i64 0))⟩])
 (.cond (.t 41) (.reg [⟨(some 42), none, .mov (.t 2)⟩,
  ⟨(some 43), none, .bin .add (.t 42) (.c (.int .i64 1))⟩,
  ⟨(some 44), none, .neg (.t 43)⟩,
  ⟨(some 2), none, .mov (.t 44)⟩])
 .skip))
 (.seq (.reg [⟨(some 45), none, .mov (.t 2)⟩,
  ⟨(some 46), none, .bin .rem (.t 45) (.c (.int .i64 100000))⟩,
  ⟨(some 2), none, .mov (.t 46)⟩])
 (.seq (.reg [⟨(some 48), none, .load (some 5) (.t 11)⟩,
  ⟨(some 49), none, .mov (.t 2)⟩,
  ⟨(some 50), none, .call 0 [] (.c (.fn 28 [])) [(.t 48), (.t 49)]⟩,
  ⟨(some 47), none, .mov (.t 50)⟩,
  ⟨(some 51), none, .extract (.t 47) 0⟩,
  ⟨(some 52), none, .extract (.t 47) 1⟩,
  ⟨(some 14), none, .alloc [(.sl .clip []), (.sl .clip []), (.int .i64 0), (.str []), (.sl .clip [])] false⟩,
  ⟨none, none, .store 5 (.t 14) (.t 51)⟩,
  ⟨(some 15), none, .mov (.t 52)⟩])
 (.seq (.reg [⟨(some 54), none, .load (some 5) (.t 11)⟩,
  ⟨(some 55), none, .mov (.t 2)⟩,
  ⟨(some 56), none, .call 0 [] (.c (.fn 29 [])) [(.t 54), (.t 55)]⟩,
  ⟨(some 53), none, .mov (.t 56)⟩,
  ⟨(some 57), none, .extract (.t 53) 0⟩,
  ⟨(some 58), none, .extract (.t 53) 1⟩,
  ⟨(some 16), none, .alloc [(.sl .clip []), (.sl .clip []), (.int .i64 0), (.str []), (.sl .clip [])] false⟩,
  ⟨none, none, .store 5 (.t 16) (.t 57)⟩,
  ⟨(some 17), none, .mov (.t 58)⟩])
 (.seq (.reg [⟨(some 59), none, .mov (.t 1)⟩,
  ⟨(some 60), none, .bin .rem (.t 59) (.c (.int .i64 100000))⟩,
  ⟨(some 1), none, .mov (.t 60)⟩])
 (.seq (.reg [⟨(some 61), none, .load (some 5) (.t 11)⟩,
  ⟨(some 62), none, .call 0 [] (.c (.fn 30 [])) [(.t 61)]⟩,
  ⟨(some 63), none, .loadL (some 5) (.t 12)⟩,
  ⟨(some 64), none, .call 0 [] (.c (.fn 30 [])) [(.t 63)]⟩,
  ⟨(some 65), none, .call 0 [] (.c (.fn 26 [])) [(.t 62), (.t 64)]⟩,
  ⟨(some 18), none, .mov (.t 65)⟩])
 (.seq (.reg [⟨(some 66), none, .mov (.t 9)⟩,
  ⟨(some 67), none, .mov (.t 66)⟩,
  ⟨(some 68), (some (67, true)), .load (some 5) (.t 11)⟩,
  ⟨(some 69), (some (67, true)), .call 0 [] (.c (.fn 16 [])) [(.t 68)]⟩,
  ⟨(some 70), (some (67, true)), .loadL (some 5) (.t 11)⟩,
  ⟨(some 71), (some (67, true)), .call 0 [] (.c (.fn 30 [])) [(.t 70)]⟩,
  ⟨(some 72), (some (67, true)), .call 0 [] (.c (.fn 26 [])) [(.t 69), (.t 71)]⟩,
  ⟨(some 73), none, .pick (.t 67) (.t 72) (.c (.bool false))⟩,
  ⟨(some 74), none, .mov (.t 73)⟩,
  ⟨(some 75), (some (74, true)), .load (some 5) (.t 11)⟩,
  ⟨(some 76), (some (74, true)), .call 0 [] (.c (.fn 19 [])) [(.t 75)]⟩,
  ⟨(some 77), (some (74, true)), .loadL (some 5) (.t 11)⟩,
  ⟨(some 78), (some (74, true)), .call 0 [] (.c (.fn 32 [])) [(.t 77)]⟩,
  ⟨(some 79), (some (74, true)), .call 0 [] (.c (.fn 31 [])) [(.t 76), (.t 78)]⟩,
  ⟨(some 80), none, .pick (.t 74) (.t 79) (.c (.bool false))⟩,
  ⟨(some 81), none, .mov (.t 80)⟩,
  ⟨(some 82), (some (81, true)), .mov (.t 13)⟩,
  ⟨(some 83), (some (81, true)), .faddr 2 (.t 11)⟩,
  ⟨(some 84), (some (81, true)), .load (some 3) (.t 83)⟩,
  ⟨(some 85), (some (81, true)), .mov (.t 3)⟩,
  ⟨(some 86), (some (81, true)), .call 0 [] (.c (.fn 15 [])) [(.t 82), (.t 84), (.t 85)]⟩,
  ⟨(some 87), (some (81, true)), .mov (.t 13)⟩,
  ⟨(some 88), (some (81, true)), .faddr 2 (.t 11)⟩,
  ⟨(some 89), (some (81, true)), .loadL (some 3) (.t 88)⟩,
  ⟨(some 90), (some (81, true)), .mov (.t 3)⟩,
  ⟨(some 91), (some (81, true)), .call 0 [] (.c (.fn 21 [])) [(.t 87), (.t 89), (.t 90)]⟩,
  ⟨(some 92), (some (81, true)), .call 0 [] (.c (.fn 26 [])) [(.t 86), (.t 91)]⟩,
  ⟨(some 93), none, .pick (.t 81) (.t 92) (.c (.bool false))⟩,
  ⟨(some 94), none, .mov (.t 93)⟩,
  ⟨(some 95), (some (94, true)), .load (some 5) (.t 14)⟩,
  ⟨(some 96), (some (94, true)), .load (some 5) (.t 16)⟩,
  ⟨(some 97), (some (94, true)), .call 0 [] (.c (.fn 26 [])) [(.t 95), (.t 96)]⟩,
  ⟨(some 98), none, .pick (.t 94) (.t 97) (.c (.bool false))⟩,
  ⟨(some 99), none, .mov (.t 98)⟩,
  ⟨(some 100), (some (99, true)), .mov (.t 15)⟩,
  ⟨(some 101), (some (99, true)), .mov (.t 17)⟩,
  ⟨(some 102), (some (99, true)), .bin .eql (.t 100) (.t 101)⟩,
  ⟨(some 103), none, .pick (.t 99) (.t 102) (.c (.bool false))⟩,
  ⟨(some 104), none, .mov (.t 103)⟩,
  ⟨(some 105), (some (104, true)), .mov (.t 13)⟩,
  ⟨(some 106), (some (104, true)), .call 0 [] (.c (.fn 9 [])) [(.t 105)]⟩,
  ⟨(some 107), (some (104, true)), .mov (.t 13)⟩,
  ⟨(some 108), (some (104, true)), .call 0 [] (.c (.fn 33 [])) [(.t 107)]⟩,
  ⟨(some 109), (some (104, true)), .call 0 [] (.c (.fn 13 [])) [(.t 106), (.t 108)]⟩,
  ⟨(some 110), none, .pick (.t 104) (.t 109) (.c (.bool false))⟩,
  ⟨(some 111), none, .mov (.t 110)⟩,
  ⟨(some 112), (some (111, true)), .mov (.t 1)⟩,
  ⟨(some 113), (some (111, true)), .call 0 [] (.c (.fn 34 [])) [(.t 112)]⟩,
  ⟨(some 114), (some (111, true)), .mov (.t 1)⟩,
  ⟨(some 115), (some (111, true)), .call 0 [] (.c (.fn 35 [])) [(.t 114)]⟩,
  ⟨(some 116), (some (111, true)), .bin .eql (.t 113) (.t 115)⟩,
  ⟨(some 117), none, .pick (.t 111) (.t 116) (.c (.bool false))⟩,
  ⟨(some 118), none, .mov (.t 117)⟩,
  ⟨(some 119), (some (118, true)), .load (some 5) (.t 11)⟩,
  ⟨(some 120), (some (118, true)), .load (some 5) (.t 12)⟩,
  ⟨(some 121), (some (118, true)), .call 0 [] (.c (.fn 25 [])) [(.t 119), (.t 120)]⟩,
  ⟨(some 122), (some (118, true)), .mov (.t 18)⟩,
  ⟨(some 123), (some (118, true)), .eqb false (.t 121) (.t 122)⟩,
  ⟨(some 124), none, .pick (.t 118) (.t 123) (.c (.bool false))⟩,
  ⟨(some 125), none, .mov (.t 124)⟩,
  ⟨(some 126), (some (125, true)), .load (some 5) (.t 11)⟩,
  ⟨(some 127), (some (125, true)), .load (some 5) (.t 11)⟩,
  ⟨(some 128), (some (125, true)), .call 0 [] (.c (.fn 25 [])) [(.t 126), (.t 127)]⟩,
  ⟨(some 129), none, .pick (.t 125) (.t 128) (.c (.bool false))⟩,
  ⟨(some 8), none, .mov (.t 129)⟩])
 .ret))))))))))))))),
  [.t 8], false, true, 130⟩
theorem co6 : compF Tryd.prog ⟨[33], [], [], [], [], [], 6, [], [], []⟩ false true Tryd.f6 = some ac6 := by kernel_rfl

/-- paideia/paideialaw8.first -/
def ac7 : AF := ⟨(.seq (.reg [⟨(some 0), none, .mov (.c (.bool false))⟩])
 (.seq (.reg [⟨(some 1), none, .call 0 [] (.c (.fn 34 [])) [(.c (.int .i64 27))]⟩,
  ⟨(some 2), none, .bin .eql (.t 1) (.c (.str [98, 49]))⟩,
  ⟨(some 3), none, .mov (.t 2)⟩,
  ⟨(some 4), (some (3, true)), .call 0 [] (.c (.fn 34 [])) [(.c (.int .i64 0))]⟩,
  ⟨(some 5), (some (3, true)), .bin .eql (.t 4) (.c (.str [97]))⟩,
  ⟨(some 6), none, .pick (.t 3) (.t 5) (.c (.bool false))⟩,
  ⟨(some 7), none, .mov (.t 6)⟩,
  ⟨(some 8), (some (7, true)), .call 0 [] (.c (.fn 34 [])) [(.c (.int .i64 (-3)))]⟩,
  ⟨(some 9), (some (7, true)), .bin .eql (.t 8) (.c (.str [97]))⟩,
  ⟨(some 10), none, .pick (.t 7) (.t 9) (.c (.bool false))⟩,
  ⟨(some 0), none, .mov (.t 10)⟩])
 .ret)),
  [.t 0], false, true, 11⟩
theorem co7 : compF Tryd.prog ⟨[], [], [], [], [], [], 7, [], [], []⟩ false true Tryd.f7 = some ac7 := by kernel_rfl

/-- paideia/paideiamake.Preds -/
def ac8 : AF := ⟨(.seq (.reg [⟨(some 6), none, .mov (.c (.sl .clip []))⟩])
 (.seq (.reg [⟨(some 7), none, .mov (.c (.sl .clip []))⟩])
 (.seq (.seq (.reg [⟨(some 9), none, .mov (.t 0)⟩,
  ⟨(some 10), none, .mov (.t 1)⟩,
  ⟨(some 11), none, .bin .add (.t 10) (.c (.int .i64 1))⟩,
  ⟨(some 12), none, .call 0 [] (.c (.fn 36 [])) [(.t 9), (.t 11)]⟩,
  ⟨(some 8), none, .mov (.t 12)⟩])
 (.block 0 (.loop [0, 2, 7, 8] [] (.seq (.seq (.reg [⟨(some 13), none, .mov (.t 8)⟩,
  ⟨(some 14), none, .bin .gtr (.t 13) (.c (.int .i64 0))⟩])
 (.cond (.t 14) .skip
 (.exit 0)))
 (.seq (.block 1 (.reg [⟨(some 17), none, .mov (.t 7)⟩,
  ⟨(some 18), none, .mov (.t 0)⟩,
  ⟨(some 19), none, .mov (.t 2)⟩,
  ⟨(some 20), none, .call 0 [] (.c (.fn 37 [])) [(.t 18), (.t 19)]⟩,
  ⟨(some 21), none, .bslice [(.str []), (.int .i64 0), (.str []), (.sl .clip [])] 1 [(0, (.t 20))]⟩,
  ⟨(some 22), none, .append 4 (.t 17) (.t 21)⟩,
  ⟨(some 7), none, .mov (.t 22)⟩]))
 (.reg [⟨(some 15), none, .mov (.t 8)⟩,
  ⟨(some 16), none, .bin .sub (.t 15) (.c (.int .i64 1))⟩,
  ⟨(some 8), none, .mov (.t 16)⟩]))))))
 (.seq (.reg [⟨(some 23), none, .mov (.t 7)⟩,
  ⟨(some 6), none, .mov (.t 23)⟩])
 .ret)))),
  [.t 6], false, true, 24⟩
theorem co8 : compF Tryd.prog ⟨[], [(3, [0, 2, 7, 8], [])], [], [], [], [], 8, [], [], []⟩ false true Tryd.f8 = some ac8 := by kernel_rfl

/-- paideia/scheme.SortPreds -/
def ac9 : AF := ⟨(.seq (.reg [⟨(some 2), none, .mov (.c (.sl .clip []))⟩])
 (.seq (.reg [⟨(some 4), none, .build [(.map none)] []⟩,
  ⟨(some 5), none, .mov (.t 0)⟩,
  ⟨(some 6), none, .call 1 [] (.c (.fn 38 [])) [(.t 4), (.t 5)]⟩,
  ⟨(some 3), none, .mov (.t 6)⟩])
 (.seq (.reg [⟨(some 7), none, .mov (.t 3)⟩,
  ⟨(some 8), none, .call 0 [] (.c (.fn 39 [])) [(.t 7), (.c (.fn 40 []))]⟩])
 (.seq (.reg [⟨(some 9), none, .mov (.t 3)⟩,
  ⟨(some 10), none, .call 0 [] (.c (.fn 42 [])) [(.t 9), (.c (.fn 43 []))]⟩,
  ⟨(some 11), none, .call 0 [] (.c (.fn 41 [])) [(.t 10)]⟩,
  ⟨(some 2), none, .mov (.t 11)⟩])
 .ret)))),
  [.t 2], false, true, 12⟩
theorem co9 : compF Tryd.prog ⟨[], [], [(38, 1, [])], [], [], [], 9, [], [], []⟩ false true Tryd.f9 = some ac9 := by kernel_rfl

/-- paideia/paideiaref.SamePred -/
def ac10 : AF := ⟨(.seq (.reg [⟨(some 2), none, .box (.t 0) 4 false⟩,
  ⟨(some 3), none, .box (.t 1) 4 false⟩,
  ⟨(some 4), none, .mov (.c (.bool false))⟩])
 (.seq (.reg [⟨(some 5), none, .faddr 0 (.t 2)⟩,
  ⟨(some 6), none, .load none (.t 5)⟩,
  ⟨(some 7), none, .faddr 0 (.t 3)⟩,
  ⟨(some 8), none, .load none (.t 7)⟩,
  ⟨(some 9), none, .bin .eql (.t 6) (.t 8)⟩,
  ⟨(some 10), none, .mov (.t 9)⟩,
  ⟨(some 11), (some (10, true)), .faddr 1 (.t 2)⟩,
  ⟨(some 12), (some (10, true)), .load (some 3) (.t 11)⟩,
  ⟨(some 13), (some (10, true)), .faddr 1 (.t 3)⟩,
  ⟨(some 14), (some (10, true)), .load (some 3) (.t 13)⟩,
  ⟨(some 15), (some (10, true)), .call 0 [] (.c (.fn 44 [])) [(.t 12), (.t 14)]⟩,
  ⟨(some 16), none, .pick (.t 10) (.t 15) (.c (.bool false))⟩,
  ⟨(some 4), none, .mov (.t 16)⟩])
 .ret)),
  [.t 4], false, true, 17⟩
theorem co10 : compF Tryd.prog ⟨[], [], [], [], [], [], 10, [], [], []⟩ false true Tryd.f10 = some ac10 := by kernel_rfl

/-- paideia/paideiaref4.Compare -/
def ac11 : AF := ⟨(.seq (.reg [⟨(some 2), none, .box (.t 0) 3 false⟩,
  ⟨(some 3), none, .box (.t 1) 3 false⟩,
  ⟨(some 4), none, .mov (.c (.int .i64 0))⟩])
 (.seq (.reg [⟨(some 7), none, .faddr 0 (.t 2)⟩,
  ⟨(some 8), none, .load none (.t 7)⟩,
  ⟨(some 9), none, .faddr 0 (.t 3)⟩,
  ⟨(some 10), none, .load none (.t 9)⟩,
  ⟨(some 11), none, .call 0 [] (.c (.fn 45 [])) [(.t 8), (.t 10)]⟩,
  ⟨(some 5), none, .mov (.t 11)⟩])
 (.seq (.seq (.reg [⟨(some 12), none, .mov (.t 5)⟩,
  ⟨(some 13), none, .bin .eql (.t 12) (.c (.int .i64 0))⟩,
  ⟨(some 14), none, .mov (.t 13)⟩,
  ⟨(some 15), (some (14, true)), .faddr 1 (.t 2)⟩,
  ⟨(some 16), (some (14, true)), .load none (.t 15)⟩,
  ⟨(some 17), (some (14, true)), .faddr 1 (.t 3)⟩,
  ⟨(some 18), (some (14, true)), .load none (.t 17)⟩,
  ⟨(some 19), (some (14, true)), .bin .neq (.t 16) (.t 18)⟩,
  ⟨(some 20), none, .pick (.t 14) (.t 19) (.c (.bool false))⟩])
 (.cond (.t 20) (.seq (.reg [⟨(some 5), none, .mov (.c (.int .i64 1))⟩])
 (.seq (.reg [⟨(some 21), none, .faddr 1 (.t 2)⟩,
  ⟨(some 22), none, .load none (.t 21)⟩,
  ⟨(some 23), none, .faddr 1 (.t 3)⟩,
  ⟨(some 24), none, .load none (.t 23)⟩,
  ⟨(some 25), none, .bin .lss (.t 22) (.t 24)⟩])
 (.cond (.t 25) (.reg [⟨(some 5), none, .mov (.c (.int .i64 (-1)))⟩])
 .skip)))
 .skip))
 (.seq (.seq (.reg [⟨(some 26), none, .mov (.t 5)⟩,
  ⟨(some 27), none, .bin .eql (.t 26) (.c (.int .i64 0))⟩])
 (.cond (.t 27) (.reg [⟨(some 28), none, .faddr 2 (.t 2)⟩,
  ⟨(some 29), none, .load none (.t 28)⟩,
  ⟨(some 30), none, .len 1 (.t 29)⟩,
  ⟨(some 31), none, .faddr 2 (.t 3)⟩,
  ⟨(some 32), none, .load none (.t 31)⟩,
  ⟨(some 33), none, .len 1 (.t 32)⟩,
  ⟨(some 34), none, .call 0 [] (.c (.fn 45 [])) [(.t 30), (.t 33)]⟩,
  ⟨(some 5), none, .mov (.t 34)⟩])
 .skip))
 (.seq (.seq (.reg [⟨(some 6), none, .mov (.c (.int .i64 0))⟩])
 (.block 0 (.loop [5, 6] [2, 3] (.seq (.seq (.reg [⟨(some 35), none, .mov (.t 6)⟩,
  ⟨(some 36), none, .faddr 2 (.t 2)⟩,
  ⟨(some 37), none, .load none (.t 36)⟩,
  ⟨(some 38), none, .len 1 (.t 37)⟩,
  ⟨(some 39), none, .bin .lss (.t 35) (.t 38)⟩,
  ⟨(some 40), none, .mov (.t 39)⟩,
  ⟨(some 41), (some (40, true)), .mov (.t 5)⟩,
  ⟨(some 42), (some (40, true)), .bin .eql (.t 41) (.c (.int .i64 0))⟩,
  ⟨(some 43), none, .pick (.t 40) (.t 42) (.c (.bool false))⟩])
 (.cond (.t 43) .skip
 (.exit 0)))
 (.seq (.block 1 (.reg [⟨(some 46), none, .faddr 2 (.t 2)⟩,
  ⟨(some 47), none, .load none (.t 46)⟩,
  ⟨(some 48), none, .mov (.t 6)⟩,
  ⟨(some 49), none, .iaddr 3 (.t 47) (.t 48)⟩,
  ⟨(some 50), none, .load (some 3) (.t 49)⟩,
  ⟨(some 51), none, .faddr 2 (.t 3)⟩,
  ⟨(some 52), none, .load none (.t 51)⟩,
  ⟨(some 53), none, .mov (.t 6)⟩,
  ⟨(some 54), none, .iaddr 3 (.t 52) (.t 53)⟩,
  ⟨(some 55), none, .load (some 3) (.t 54)⟩,
  ⟨(some 56), none, .call 0 [] (.c (.fn 11 [])) [(.t 50), (.t 55)]⟩,
  ⟨(some 5), none, .mov (.t 56)⟩]))
 (.reg [⟨(some 44), none, .mov (.t 6)⟩,
  ⟨(some 45), none, .bin .add (.t 44) (.c (.int .i64 1))⟩,
  ⟨(some 6), none, .mov (.t 45)⟩]))))))
 (.seq (.reg [⟨(some 57), none, .mov (.t 5)⟩,
  ⟨(some 4), none, .mov (.t 57)⟩])
 .ret)))))),
  [.t 4], false, true, 58⟩
theorem co11 : compF Tryd.prog ⟨[], [(9, [5, 6], [2, 3])], [], [], [], [], 11, [], [], []⟩ false true Tryd.f11 = some ac11 := by kernel_rfl

/-- paideia/paideiaref.Preds -/
def ac12 : AF := ⟨(.seq (.reg [⟨(some 2), none, .mov (.c (.sl .clip []))⟩])
 (.seq (.reg [⟨(some 5), none, .mov (.t 0)⟩,
  ⟨(some 6), none, .len 1 (.t 5)⟩,
  ⟨(some 7), none, .mkslice [(.str []), (.int .i64 0), (.str []), (.sl .clip [])] (.c (.int .i64 0)) (.t 6)⟩,
  ⟨(some 3), none, .mov (.t 7)⟩])
 (.seq (.seq (.reg [⟨(some 4), none, .mov (.c (.int .i64 0))⟩])
 (.block 0 (.loop [0, 3, 4] [] (.seq (.seq (.reg [⟨(some 8), none, .mov (.t 4)⟩,
  ⟨(some 9), none, .mov (.t 0)⟩,
  ⟨(some 10), none, .len 1 (.t 9)⟩,
  ⟨(some 11), none, .bin .lss (.t 8) (.t 10)⟩])
 (.cond (.t 11) .skip
 (.exit 0)))
 (.seq (.block 1 (.reg [⟨(some 14), none, .mov (.t 3)⟩,
  ⟨(some 15), none, .mov (.t 0)⟩,
  ⟨(some 16), none, .mov (.t 4)⟩,
  ⟨(some 17), none, .iaddr 4 (.t 15) (.t 16)⟩,
  ⟨(some 18), none, .load (some 4) (.t 17)⟩,
  ⟨(some 19), none, .bslice [(.str []), (.int .i64 0), (.str []), (.sl .clip [])] 1 [(0, (.t 18))]⟩,
  ⟨(some 20), none, .append 4 (.t 14) (.t 19)⟩,
  ⟨(some 3), none, .mov (.t 20)⟩]))
 (.reg [⟨(some 12), none, .mov (.t 4)⟩,
  ⟨(some 13), none, .bin .add (.t 12) (.c (.int .i64 1))⟩,
  ⟨(some 4), none, .mov (.t 13)⟩]))))))
 (.seq (.reg [⟨(some 21), none, .mov (.t 3)⟩,
  ⟨(some 2), none, .mov (.t 21)⟩])
 .ret)))),
  [.t 2], true, false, 22⟩
theorem co12 : compF Tryd.prog ⟨[], [(3, [0, 3, 4], [])], [], [], [], [], 12, [], [], []⟩ true false Tryd.f12 = some ac12 := by kernel_rfl

/-- paideia/paideiaref.SamePreds -/
def ac13 : AF := ⟨(.seq (.reg [⟨(some 4), none, .mov (.c (.bool false))⟩])
 (.seq (.seq (.reg [⟨(some 7), none, .mov (.t 0)⟩,
  ⟨(some 8), none, .len 1 (.t 7)⟩,
  ⟨(some 9), none, .mov (.t 1)⟩,
  ⟨(some 10), none, .len 1 (.t 9)⟩,
  ⟨(some 11), none, .bin .neq (.t 8) (.t 10)⟩])
 (.cond (.t 11) (.seq (.reg [⟨(some 4), none, .mov (.c (.bool false))⟩])
 .ret)
 .skip))
 (.seq (.seq (.reg [⟨(some 5), none, .mov (.c (.int .i64 0))⟩])
 (.block 0 (.loop [0, 1, 5] [] (.seq (.seq (.reg [⟨(some 12), none, .mov (.t 5)⟩,
  ⟨(some 13), none, .mov (.t 0)⟩,
  ⟨(some 14), none, .len 1 (.t 13)⟩,
  ⟨(some 15), none, .bin .lss (.t 12) (.t 14)⟩])
 (.cond (.t 15) .skip
 (.exit 0)))
 (.seq (.block 1 (.seq (.reg [⟨(some 18), none, .mov (.t 0)⟩,
  ⟨(some 19), none, .mov (.t 5)⟩,
  ⟨(some 20), none, .iaddr 4 (.t 18) (.t 19)⟩,
  ⟨(some 21), none, .load (some 4) (.t 20)⟩,
  ⟨(some 22), none, .mov (.t 1)⟩,
  ⟨(some 23), none, .mov (.t 5)⟩,
  ⟨(some 24), none, .iaddr 4 (.t 22) (.t 23)⟩,
  ⟨(some 25), none, .load (some 4) (.t 24)⟩,
  ⟨(some 26), none, .call 0 [] (.c (.fn 10 [])) [(.t 21), (.t 25)]⟩,
  ⟨(some 6), none, .mov (.t 26)⟩])
 (.seq (.reg [⟨(some 27), none, .mov (.t 6)⟩,
  ⟨(some 28), none, .not (.t 27)⟩])
 (.cond (.t 28) (.seq (.reg [⟨(some 4), none, .mov (.c (.bool false))⟩])
 .ret)
 .skip))))
 (.reg [⟨(some 16), none, .mov (.t 5)⟩,
  ⟨(some 17), none, .bin .add (.t 16) (.c (.int .i64 1))⟩,
  ⟨(some 5), none, .mov (.t 17)⟩]))))))
 (.seq (.reg [⟨(some 4), none, .mov (.c (.bool true))⟩])
 .ret)))),
  [.t 4], false, true, 29⟩
theorem co13 : compF Tryd.prog ⟨[], [(4, [0, 1, 5], [])], [], [], [], [], 13, [], [], []⟩ false true Tryd.f13 = some ac13 := by kernel_rfl

/-- paideia/paideiamake.Type -/
def ac14 : AF := ⟨(.seq (.reg [⟨(some 4), none, .alloc [(.int .i64 0), (.str []), (.sl .clip [])] false⟩])
 (.seq (.reg [⟨(some 8), none, .mov (.t 0)⟩,
  ⟨(some 9), none, .call 0 [] (.c (.fn 36 [])) [(.t 8), (.c (.int .i64 9))]⟩,
  ⟨(some 5), none, .mov (.t 9)⟩])
 (.seq (.seq (.reg [⟨(some 10), none, .mov (.t 1)⟩,
  ⟨(some 11), none, .bin .lss (.t 10) (.c (.int .i64 1))⟩])
 (.cond (.t 11) (.reg [⟨(some 12), none, .mov (.t 5)⟩,
  ⟨(some 13), none, .bin .rem (.t 12) (.c (.int .i64 5))⟩,
  ⟨(some 5), none, .mov (.t 13)⟩])
 .skip))
 (.seq (.seq (.reg [⟨(some 14), none, .mov (.t 5)⟩])
 (.block 0 (.seq (.seq (.reg [⟨(some 16), none, .bin .eql (.t 14) (.c (.int .i64 0))⟩,
  ⟨(some 15), none, .mov (.t 16)⟩])
 (.cond (.t 15) .skip
 (.seq (.reg [⟨(some 17), none, .bin .eql (.t 14) (.c (.int .i64 1))⟩,
  ⟨(some 15), none, .mov (.t 17)⟩])
 (.cond (.t 15) .skip
 (.reg [⟨(some 18), none, .bin .eql (.t 14) (.c (.int .i64 2))⟩,
  ⟨(some 15), none, .mov (.t 18)⟩])))))
 (.cond (.t 15) (.seq (.reg [⟨(some 19), none, .bslice [(.str [])] 3 [(0, (.c (.str [97]))), (1, (.c (.str [98]))), (2, (.c (.str [99])))]⟩,
  ⟨(some 20), none, .mov (.t 5)⟩,
  ⟨(some 21), none, .iaddr 1 (.t 19) (.t 20)⟩,
  ⟨(some 22), none, .load none (.t 21)⟩,
  ⟨(some 23), none, .call 0 [] (.c (.fn 22 [])) [(.t 22)]⟩,
  ⟨none, none, .store 3 (.t 4) (.t 23)⟩])
 .ret)
 (.seq (.reg [⟨(some 25), none, .bin .eql (.t 14) (.c (.int .i64 3))⟩,
  ⟨(some 24), none, .mov (.t 25)⟩])
 (.cond (.t 24) (.seq (.reg [⟨(some 26), none, .call 0 [] (.c (.fn 46 [])) [(.c (.str [73, 110, 116])), (.c (.sl .clip []))]⟩,
  ⟨none, none, .store 3 (.t 4) (.t 26)⟩])
 .ret)
 (.seq (.reg [⟨(some 28), none, .bin .eql (.t 14) (.c (.int .i64 4))⟩,
  ⟨(some 27), none, .mov (.t 28)⟩])
 (.cond (.t 27) (.seq (.reg [⟨(some 29), none, .call 0 [] (.c (.fn 46 [])) [(.c (.str [66, 111, 111, 108])), (.c (.sl .clip []))]⟩,
  ⟨none, none, .store 3 (.t 4) (.t 29)⟩])
 .ret)
 (.seq (.reg [⟨(some 31), none, .bin .eql (.t 14) (.c (.int .i64 5))⟩,
  ⟨(some 30), none, .mov (.t 31)⟩])
 (.cond (.t 30) (.seq (.reg [⟨(some 32), none, .mov (.t 0)⟩,
  ⟨(some 33), none, .mov (.t 1)⟩,
  ⟨(some 34), none, .bin .sub (.t 33) (.c (.int .i64 1))⟩,
  ⟨(some 35), none, .call 0 [] (.c (.fn 14 [])) [(.t 32), (.t 34)]⟩,
  ⟨(some 36), none, .bslice [(.int .i64 0), (.str []), (.sl .clip [])] 1 [(0, (.t 35))]⟩,
  ⟨(some 37), none, .call 0 [] (.c (.fn 46 [])) [(.c (.str [76, 105, 115, 116])), (.t 36)]⟩,
  ⟨none, none, .store 3 (.t 4) (.t 37)⟩])
 .ret)
 (.seq (.reg [⟨(some 39), none, .bin .eql (.t 14) (.c (.int .i64 6))⟩,
  ⟨(some 38), none, .mov (.t 39)⟩])
 (.cond (.t 38) (.seq (.reg [⟨(some 40), none, .mov (.t 0)⟩,
  ⟨(some 41), none, .mov (.t 1)⟩,
  ⟨(some 42), none, .bin .sub (.t 41) (.c (.int .i64 1))⟩,
  ⟨(some 43), none, .call 0 [] (.c (.fn 14 [])) [(.t 40), (.t 42)]⟩,
  ⟨(some 6), none, .alloc [(.int .i64 0), (.str []), (.sl .clip [])] false⟩,
  ⟨none, none, .store 3 (.t 6) (.t 43)⟩])
 (.seq (.reg [⟨(some 44), none, .loadL (some 3) (.t 6)⟩,
  ⟨(some 45), none, .mov (.t 0)⟩,
  ⟨(some 46), none, .mov (.t 1)⟩,
  ⟨(some 47), none, .bin .sub (.t 46) (.c (.int .i64 1))⟩,
  ⟨(some 48), none, .call 0 [] (.c (.fn 14 [])) [(.t 45), (.t 47)]⟩,
  ⟨(some 49), none, .bslice [(.int .i64 0), (.str []), (.sl .clip [])] 2 [(0, (.t 44)), (1, (.t 48))]⟩,
  ⟨(some 50), none, .call 0 [] (.c (.fn 46 [])) [(.c (.str [80, 97, 105, 114])), (.t 49)]⟩,
  ⟨none, none, .store 3 (.t 4) (.t 50)⟩])
 .ret))
 .skip))))))))))))
 (.seq (.reg [⟨(some 51), none, .mov (.t 0)⟩,
  ⟨(some 52), none, .mov (.t 1)⟩,
  ⟨(some 53), none, .bin .sub (.t 52) (.c (.int .i64 1))⟩,
  ⟨(some 54), none, .call 0 [] (.c (.fn 14 [])) [(.t 51), (.t 53)]⟩,
  ⟨(some 7), none, .alloc [(.int .i64 0), (.str []), (.sl .clip [])] false⟩,
  ⟨none, none, .store 3 (.t 7) (.t 54)⟩])
 (.seq (.reg [⟨(some 55), none, .loadL (some 3) (.t 7)⟩,
  ⟨(some 56), none, .mov (.t 0)⟩,
  ⟨(some 57), none, .mov (.t 1)⟩,
  ⟨(some 58), none, .bin .sub (.t 57) (.c (.int .i64 1))⟩,
  ⟨(some 59), none, .call 0 [] (.c (.fn 14 [])) [(.t 56), (.t 58)]⟩,
  ⟨(some 60), none, .call 0 [] (.c (.fn 47 [])) [(.t 55), (.t 59)]⟩,
  ⟨none, none, .store 3 (.t 4) (.t 60)⟩])
 .ret)))))),
  [.cell 4 (some 3)], false, true, 61⟩
theorem co14 : compF Tryd.prog ⟨[], [], [], [], [], [], 14, [], [], []⟩ false true Tryd.f14 = some ac14 := by kernel_rfl

/-- paideia/scheme.Close -/
def ac15 : AF := ⟨(.seq (.reg [⟨(some 4), none, .box (.t 1) 3 false⟩,
  ⟨(some 6), none, .alloc [(.sl .clip []), (.sl .clip []), (.int .i64 0), (.str []), (.sl .clip [])] false⟩])
 (.seq (.reg [⟨(some 7), none, .mov (.t 0)⟩,
  ⟨(some 8), none, .load (some 3) (.t 4)⟩,
  ⟨(some 9), none, .call 0 [] (.c (.fn 49 [])) [(.t 7), (.t 8)]⟩,
  ⟨(some 10), none, .mov (.t 2)⟩,
  ⟨(some 11), none, .call 0 [] (.c (.fn 48 [])) [(.t 9), (.t 10)]⟩,
  ⟨(some 12), none, .build [(.map none)] []⟩,
  ⟨(some 13), none, .mov (.t 0)⟩,
  ⟨(some 14), none, .call 0 [] (.c (.fn 38 [])) [(.t 12), (.t 13)]⟩,
  ⟨(some 15), none, .loadL (some 3) (.t 4)⟩,
  ⟨(some 16), none, .call 0 [] (.c (.fn 50 [])) [(.t 15)]⟩,
  ⟨(some 17), none, .build [(.sl .clip []), (.sl .clip []), (.int .i64 0), (.str []), (.sl .clip [])] [(0, 1, (.t 11)), (1, 1, (.t 14)), (2, 3, (.t 16))]⟩,
  ⟨none, none, .store 5 (.t 6) (.t 17)⟩])
 .ret)),
  [.cell 6 (some 5)], false, true, 18⟩
theorem co15 : compF Tryd.prog ⟨[], [], [], [], [], [], 15, [], [], []⟩ false true Tryd.f15 = some ac15 := by kernel_rfl

/-- paideia/scheme.Canon -/
def ac16 : AF := ⟨(.seq (.reg [⟨(some 1), none, .box (.t 0) 5 false⟩,
  ⟨(some 2), none, .alloc [(.sl .clip []), (.sl .clip []), (.int .i64 0), (.str []), (.sl .clip [])] false⟩])
 (.seq (.reg [⟨(some 9), none, .load (some 5) (.t 1)⟩,
  ⟨(some 10), none, .call 0 [] (.c (.fn 51 [])) [(.t 9)]⟩,
  ⟨(some 11), none, .loadL (some 5) (.t 1)⟩,
  ⟨(some 12), none, .call 0 [] (.c (.fn 19 [])) [(.t 11)]⟩,
  ⟨(some 3), none, .mov (.t 10)⟩,
  ⟨(some 4), none, .mov (.t 12)⟩])
 (.seq (.reg [⟨(some 5), none, .mov (.c (.sl .clip []))⟩])
 (.seq (.seq (.reg [⟨(some 6), none, .mov (.c (.int .i64 0))⟩])
 (.block 0 (.loop [3, 4, 5, 6] [1, 2] (.seq (.seq (.reg [⟨(some 13), none, .mov (.t 5)⟩,
  ⟨(some 14), none, .len 1 (.t 13)⟩,
  ⟨(some 15), none, .mov (.t 3)⟩,
  ⟨(some 16), none, .len 1 (.t 15)⟩,
  ⟨(some 17), none, .bin .lss (.t 14) (.t 16)⟩])
 (.cond (.t 17) .skip
 (.exit 0)))
 (.seq (.block 1 (.seq (.reg [⟨(some 20), none, .mov (.t 6)⟩,
  ⟨(some 21), none, .call 0 [] (.c (.fn 34 [])) [(.t 20)]⟩,
  ⟨(some 7), none, .mov (.t 21)⟩])
 (.seq (.reg [⟨(some 22), none, .mov (.t 4)⟩,
  ⟨(some 23), none, .mov (.t 7)⟩,
  ⟨(some 24), none, .call 0 [] (.c (.fn 52 [])) [(.t 22), (.t 23)]⟩,
  ⟨(some 25), none, .not (.t 24)⟩])
 (.cond (.t 25) (.reg [⟨(some 26), none, .mov (.t 5)⟩,
  ⟨(some 27), none, .mov (.t 7)⟩,
  ⟨(some 28), none, .bslice [(.str [])] 1 [(0, (.t 27))]⟩,
  ⟨(some 29), none, .append 1 (.t 26) (.t 28)⟩,
  ⟨(some 5), none, .mov (.t 29)⟩])
 .skip))))
 (.reg [⟨(some 18), none, .mov (.t 6)⟩,
  ⟨(some 19), none, .bin .add (.t 18) (.c (.int .i64 1))⟩,
  ⟨(some 6), none, .mov (.t 19)⟩]))))))
 (.seq (.reg [⟨(some 30), none, .load (some 5) (.t 1)⟩,
  ⟨(some 31), none, .mov (.t 3)⟩,
  ⟨(some 32), none, .mov (.t 5)⟩,
  ⟨(some 33), none, .call 0 [] (.c (.fn 53 [])) [(.t 30), (.t 31), (.t 32)]⟩,
  ⟨(some 8), none, .alloc [(.sl .clip []), (.sl .clip []), (.int .i64 0), (.str []), (.sl .clip [])] false⟩,
  ⟨none, none, .store 5 (.t 8) (.t 33)⟩])
 (.seq (.reg [⟨(some 34), none, .faddr 1 (.t 8)⟩,
  ⟨(some 35), none, .load none (.t 34)⟩,
  ⟨(some 36), none, .call 0 [] (.c (.fn 9 [])) [(.t 35)]⟩,
  ⟨(some 37), none, .faddr 1 (.t 8)⟩,
  ⟨none, none, .store 1 (.t 37) (.t 36)⟩])
 (.seq (.reg [⟨(some 38), none, .load (some 5) (.t 8)⟩,
  ⟨none, none, .store 5 (.t 2) (.t 38)⟩])
 .ret))))))),
  [.cell 2 (some 5)], false, true, 39⟩
theorem co16 : compF Tryd.prog ⟨[], [(4, [3, 4, 5, 6], [1, 2])], [], [], [], [], 16, [], [], []⟩ false true Tryd.f16 = some ac16 := by kernel_rfl

/-- paideia/paideiaref.Has -/
def ac17 : AF := ⟨(.seq (.reg [⟨(some 4), none, .mov (.c (.bool false))⟩])
 (.seq (.reg [⟨(some 5), none, .mov (.t 0)⟩,
  ⟨(some 6), none, .mov (.t 1)⟩,
  ⟨(some 7), none, .call 0 [] (.c (.fn 54 [])) [(.t 5), (.t 6)]⟩,
  ⟨(some 8), none, .bin .geq (.t 7) (.c (.int .i64 0))⟩,
  ⟨(some 4), none, .mov (.t 8)⟩])
 .ret)),
  [.t 4], false, true, 9⟩
theorem co17 : compF Tryd.prog ⟨[], [], [], [], [], [], 17, [], [], []⟩ false true Tryd.f17 = some ac17 := by kernel_rfl

/-- paideia/paideiaref4.Vars -/
def ac18 : AF := ⟨(.seq (.reg [⟨(some 2), none, .mov (.c (.sl .clip []))⟩])
 (.seq (.reg [⟨(some 3), none, .mov (.c (.sl .clip []))⟩])
 (.seq (.seq (.reg [⟨(some 4), none, .mov (.c (.int .i64 0))⟩])
 (.block 0 (.loop [0, 3, 4] [] (.seq (.seq (.reg [⟨(some 5), none, .mov (.t 4)⟩,
  ⟨(some 6), none, .mov (.t 0)⟩,
  ⟨(some 7), none, .len 1 (.t 6)⟩,
  ⟨(some 8), none, .bin .lss (.t 5) (.t 7)⟩])
 (.cond (.t 8) .skip
 (.exit 0)))
 (.seq (.block 1 (.reg [⟨(some 11), none, .mov (.t 3)⟩,
  ⟨(some 12), none, .mov (.t 0)⟩,
  ⟨(some 13), none, .mov (.t 4)⟩,
  ⟨(some 14), none, .iaddr 3 (.t 12) (.t 13)⟩,
  ⟨(some 15), none, .load (some 3) (.t 14)⟩,
  ⟨(some 16), none, .call 0 [] (.c (.fn 55 [])) [(.t 11), (.c (.sl .clip [])), (.t 15)]⟩,
  ⟨(some 3), none, .mov (.t 16)⟩]))
 (.reg [⟨(some 9), none, .mov (.t 4)⟩,
  ⟨(some 10), none, .bin .add (.t 9) (.c (.int .i64 1))⟩,
  ⟨(some 4), none, .mov (.t 10)⟩]))))))
 (.seq (.reg [⟨(some 17), none, .mov (.t 3)⟩,
  ⟨(some 2), none, .mov (.t 17)⟩])
 .ret)))),
  [.t 2], false, true, 18⟩
theorem co18 : compF Tryd.prog ⟨[], [(3, [0, 3, 4], [])], [], [], [], [], 18, [], [], []⟩ false true Tryd.f18 = some ac18 := by kernel_rfl

/-- paideia/scheme.Free -/
def ac19 : AF := ⟨(.seq (.reg [⟨(some 1), none, .box (.t 0) 5 false⟩,
  ⟨(some 2), none, .mov (.c (.sl .clip []))⟩])
 (.seq (.reg [⟨(some 3), none, .faddr 1 (.t 1)⟩,
  ⟨(some 4), none, .load none (.t 3)⟩,
  ⟨(some 5), none, .faddr 2 (.t 1)⟩,
  ⟨(some 6), none, .load (some 3) (.t 5)⟩,
  ⟨(some 7), none, .call 0 [] (.c (.fn 49 [])) [(.t 4), (.t 6)]⟩,
  ⟨(some 8), none, .faddr 0 (.t 1)⟩,
  ⟨(some 9), none, .loadL none (.t 8)⟩,
  ⟨(some 10), none, .call 0 [] (.c (.fn 48 [])) [(.t 7), (.t 9)]⟩,
  ⟨(some 2), none, .mov (.t 10)⟩])
 .ret)),
  [.t 2], false, true, 11⟩
theorem co19 : compF Tryd.prog ⟨[], [], [], [], [], [], 19, [], [], []⟩ false true Tryd.f19 = some ac19 := by kernel_rfl

/-- paideia/paideiaref4.Size -/
def ac20 : AF := ⟨(.seq (.reg [⟨(some 1), none, .box (.t 0) 3 false⟩,
  ⟨(some 2), none, .mov (.c (.int .i64 0))⟩])
 (.seq (.reg [⟨(some 3), none, .mov (.c (.int .i64 1))⟩])
 (.seq (.seq (.reg [⟨(some 4), none, .mov (.c (.int .i64 0))⟩])
 (.block 0 (.loop [3, 4] [1] (.seq (.seq (.reg [⟨(some 5), none, .mov (.t 4)⟩,
  ⟨(some 6), none, .faddr 2 (.t 1)⟩,
  ⟨(some 7), none, .load none (.t 6)⟩,
  ⟨(some 8), none, .len 1 (.t 7)⟩,
  ⟨(some 9), none, .bin .lss (.t 5) (.t 8)⟩])
 (.cond (.t 9) .skip
 (.exit 0)))
 (.seq (.block 1 (.reg [⟨(some 12), none, .mov (.t 3)⟩,
  ⟨(some 13), none, .faddr 2 (.t 1)⟩,
  ⟨(some 14), none, .load none (.t 13)⟩,
  ⟨(some 15), none, .mov (.t 4)⟩,
  ⟨(some 16), none, .iaddr 3 (.t 14) (.t 15)⟩,
  ⟨(some 17), none, .load (some 3) (.t 16)⟩,
  ⟨(some 18), none, .call 0 [] (.c (.fn 20 [])) [(.t 17)]⟩,
  ⟨(some 19), none, .bin .add (.t 12) (.t 18)⟩,
  ⟨(some 3), none, .mov (.t 19)⟩]))
 (.reg [⟨(some 10), none, .mov (.t 4)⟩,
  ⟨(some 11), none, .bin .add (.t 10) (.c (.int .i64 1))⟩,
  ⟨(some 4), none, .mov (.t 11)⟩]))))))
 (.seq (.reg [⟨(some 20), none, .mov (.t 3)⟩,
  ⟨(some 2), none, .mov (.t 20)⟩])
 .ret)))),
  [.t 2], false, true, 21⟩
theorem co20 : compF Tryd.prog ⟨[], [(3, [3, 4], [1])], [], [], [], [], 20, [], [], []⟩ false true Tryd.f20 = some ac20 := by kernel_rfl

/-- paideia/paideiaref4.Close -/
def ac21 : AF := ⟨(.seq (.reg [⟨(some 4), none, .box (.t 1) 3 false⟩,
  ⟨(some 6), none, .alloc [(.sl .clip []), (.sl .clip []), (.int .i64 0), (.str []), (.sl .clip [])] false⟩])
 (.seq (.reg [⟨(some 10), none, .mov (.t 0)⟩,
  ⟨(some 11), none, .load (some 3) (.t 4)⟩,
  ⟨(some 12), none, .build [(.sl .clip []), (.sl .clip []), (.int .i64 0), (.str []), (.sl .clip [])] [(1, 1, (.t 10)), (2, 3, (.t 11))]⟩,
  ⟨(some 7), none, .alloc [(.sl .clip []), (.sl .clip []), (.int .i64 0), (.str []), (.sl .clip [])] false⟩,
  ⟨none, none, .store 5 (.t 7) (.t 12)⟩])
 (.seq (.reg [⟨(some 13), none, .load (some 3) (.t 4)⟩,
  ⟨(some 14), none, .mov (.t 0)⟩,
  ⟨(some 15), none, .call 0 [] (.c (.fn 56 [])) [(.t 13), (.t 14)]⟩,
  ⟨(some 16), none, .call 0 [] (.c (.fn 18 [])) [(.t 15)]⟩,
  ⟨(some 8), none, .mov (.t 16)⟩])
 (.seq (.seq (.reg [⟨(some 9), none, .mov (.c (.int .i64 0))⟩])
 (.block 0 (.loop [2, 8, 9] [6, 7] (.seq (.seq (.reg [⟨(some 17), none, .mov (.t 9)⟩,
  ⟨(some 18), none, .mov (.t 8)⟩,
  ⟨(some 19), none, .len 1 (.t 18)⟩,
  ⟨(some 20), none, .bin .lss (.t 17) (.t 19)⟩])
 (.cond (.t 20) .skip
 (.exit 0)))
 (.seq (.block 1 (.seq (.reg [⟨(some 23), none, .mov (.t 2)⟩,
  ⟨(some 24), none, .mov (.t 8)⟩,
  ⟨(some 25), none, .mov (.t 9)⟩,
  ⟨(some 26), none, .iaddr 1 (.t 24) (.t 25)⟩,
  ⟨(some 27), none, .load none (.t 26)⟩,
  ⟨(some 28), none, .call 0 [] (.c (.fn 17 [])) [(.t 23), (.t 27)]⟩,
  ⟨(some 29), none, .not (.t 28)⟩])
 (.cond (.t 29) (.reg [⟨(some 30), none, .faddr 0 (.t 7)⟩,
  ⟨(some 31), none, .load none (.t 30)⟩,
  ⟨(some 32), none, .mov (.t 8)⟩,
  ⟨(some 33), none, .mov (.t 9)⟩,
  ⟨(some 34), none, .iaddr 1 (.t 32) (.t 33)⟩,
  ⟨(some 35), none, .load none (.t 34)⟩,
  ⟨(some 36), none, .bslice [(.str [])] 1 [(0, (.t 35))]⟩,
  ⟨(some 37), none, .append 1 (.t 31) (.t 36)⟩,
  ⟨(some 38), none, .faddr 0 (.t 7)⟩,
  ⟨none, none, .store 1 (.t 38) (.t 37)⟩])
 .skip)))
 (.reg [⟨(some 21), none, .mov (.t 9)⟩,
  ⟨(some 22), none, .bin .add (.t 21) (.c (.int .i64 1))⟩,
  ⟨(some 9), none, .mov (.t 22)⟩]))))))
 (.seq (.reg [⟨(some 39), none, .load (some 5) (.t 7)⟩,
  ⟨none, none, .store 5 (.t 6) (.t 39)⟩])
 .ret))))),
  [.cell 6 (some 5)], false, true, 40⟩
theorem co21 : compF Tryd.prog ⟨[], [(4, [2, 8, 9], [6, 7])], [], [], [], [], 21, [], [], []⟩ false true Tryd.f21 = some ac21 := by kernel_rfl

/-- paideia/paideiaref4.Var -/
def ac22 : AF := ⟨(.seq (.reg [⟨(some 2), none, .alloc [(.int .i64 0), (.str []), (.sl .clip [])] false⟩])
 (.seq (.reg [⟨(some 3), none, .mov (.t 0)⟩,
  ⟨(some 4), none, .build [(.int .i64 0), (.str []), (.sl .clip [])] [(0, 1, (.c (.int .i64 1))), (1, 1, (.t 3))]⟩,
  ⟨none, none, .store 3 (.t 2) (.t 4)⟩])
 .ret)),
  [.cell 2 (some 3)], false, true, 5⟩
theorem co22 : compF Tryd.prog ⟨[], [], [], [], [], [], 22, [], [], []⟩ false true Tryd.f22 = some ac22 := by kernel_rfl

/-- paideia/paideiaref4.Preds -/
def ac23 : AF := ⟨(.seq (.reg [⟨(some 4), none, .mov (.c (.sl .clip []))⟩])
 (.seq (.reg [⟨(some 5), none, .mov (.c (.sl .clip []))⟩])
 (.seq (.seq (.reg [⟨(some 6), none, .mov (.c (.int .i64 0))⟩])
 (.block 0 (.loop [0, 1, 5, 6] [] (.seq (.seq (.reg [⟨(some 7), none, .mov (.t 6)⟩,
  ⟨(some 8), none, .mov (.t 1)⟩,
  ⟨(some 9), none, .len 1 (.t 8)⟩,
  ⟨(some 10), none, .bin .lss (.t 7) (.t 9)⟩])
 (.cond (.t 10) .skip
 (.exit 0)))
 (.seq (.block 1 (.reg [⟨(some 13), none, .mov (.t 5)⟩,
  ⟨(some 14), none, .mov (.t 1)⟩,
  ⟨(some 15), none, .mov (.t 6)⟩,
  ⟨(some 16), none, .iaddr 4 (.t 14) (.t 15)⟩,
  ⟨(some 17), none, .faddr 0 (.t 16)⟩,
  ⟨(some 18), none, .loadL none (.t 17)⟩,
  ⟨(some 19), none, .mov (.t 0)⟩,
  ⟨(some 20), none, .mov (.t 1)⟩,
  ⟨(some 21), none, .mov (.t 6)⟩,
  ⟨(some 22), none, .iaddr 4 (.t 20) (.t 21)⟩,
  ⟨(some 23), none, .faddr 1 (.t 22)⟩,
  ⟨(some 24), none, .load (some 3) (.t 23)⟩,
  ⟨(some 25), none, .call 0 [] (.c (.fn 24 [])) [(.t 19), (.t 24)]⟩,
  ⟨(some 26), none, .build [(.str []), (.int .i64 0), (.str []), (.sl .clip [])] [(0, 1, (.t 18)), (1, 3, (.t 25))]⟩,
  ⟨(some 27), none, .bslice [(.str []), (.int .i64 0), (.str []), (.sl .clip [])] 1 [(0, (.t 26))]⟩,
  ⟨(some 28), none, .append 4 (.t 13) (.t 27)⟩,
  ⟨(some 5), none, .mov (.t 28)⟩]))
 (.reg [⟨(some 11), none, .mov (.t 6)⟩,
  ⟨(some 12), none, .bin .add (.t 11) (.c (.int .i64 1))⟩,
  ⟨(some 6), none, .mov (.t 12)⟩]))))))
 (.seq (.reg [⟨(some 29), none, .mov (.t 5)⟩,
  ⟨(some 4), none, .mov (.t 29)⟩])
 .ret)))),
  [.t 4], false, true, 30⟩
theorem co23 : compF Tryd.prog ⟨[], [(3, [0, 1, 5, 6], [])], [], [], [], [], 23, [], [], []⟩ false true Tryd.f23 = some ac23 := by kernel_rfl

/-- paideia/paideiaref4.Apply -/
def ac24 : AF := ⟨(.seq (.reg [⟨(some 3), none, .box (.t 1) 3 false⟩,
  ⟨(some 4), none, .alloc [(.int .i64 0), (.str []), (.sl .clip [])] false⟩])
 (.seq (.seq (.reg [⟨(some 9), none, .faddr 0 (.t 3)⟩,
  ⟨(some 10), none, .load none (.t 9)⟩,
  ⟨(some 11), none, .bin .eql (.t 10) (.c (.int .i64 1))⟩])
 (.cond (.t 11) (.seq (.reg [⟨(some 13), none, .mov (.t 0)⟩,
  ⟨(some 14), none, .faddr 1 (.t 3)⟩,
  ⟨(some 15), none, .load none (.t 14)⟩,
  ⟨(some 16), none, .call 0 [] (.c (.fn 57 [])) [(.t 13), (.t 15)]⟩,
  ⟨(some 12), none, .mov (.t 16)⟩,
  ⟨(some 17), none, .extract (.t 12) 0⟩,
  ⟨(some 18), none, .extract (.t 12) 1⟩,
  ⟨(some 5), none, .alloc [(.int .i64 0), (.str []), (.sl .clip [])] false⟩,
  ⟨none, none, .store 3 (.t 5) (.t 17)⟩,
  ⟨(some 6), none, .mov (.t 18)⟩])
 (.seq (.seq (.reg [⟨(some 19), none, .mov (.t 6)⟩])
 (.cond (.t 19) (.seq (.reg [⟨(some 20), none, .load (some 3) (.t 5)⟩,
  ⟨none, none, .store 3 (.t 4) (.t 20)⟩])
 .ret)
 .skip))
 (.seq (.reg [⟨(some 21), none, .load (some 3) (.t 3)⟩,
  ⟨none, none, .store 3 (.t 4) (.t 21)⟩])
 .ret)))
 .skip))
 (.seq (.reg [⟨(some 7), none, .mov (.c (.sl .clip []))⟩])
 (.seq (.seq (.reg [⟨(some 8), none, .mov (.c (.int .i64 0))⟩])
 (.block 0 (.loop [0, 7, 8] [3, 4] (.seq (.seq (.reg [⟨(some 22), none, .mov (.t 8)⟩,
  ⟨(some 23), none, .faddr 2 (.t 3)⟩,
  ⟨(some 24), none, .load none (.t 23)⟩,
  ⟨(some 25), none, .len 1 (.t 24)⟩,
  ⟨(some 26), none, .bin .lss (.t 22) (.t 25)⟩])
 (.cond (.t 26) .skip
 (.exit 0)))
 (.seq (.block 1 (.reg [⟨(some 29), none, .mov (.t 7)⟩,
  ⟨(some 30), none, .mov (.t 0)⟩,
  ⟨(some 31), none, .faddr 2 (.t 3)⟩,
  ⟨(some 32), none, .load none (.t 31)⟩,
  ⟨(some 33), none, .mov (.t 8)⟩,
  ⟨(some 34), none, .iaddr 3 (.t 32) (.t 33)⟩,
  ⟨(some 35), none, .load (some 3) (.t 34)⟩,
  ⟨(some 36), none, .call 0 [] (.c (.fn 24 [])) [(.t 30), (.t 35)]⟩,
  ⟨(some 37), none, .bslice [(.int .i64 0), (.str []), (.sl .clip [])] 1 [(0, (.t 36))]⟩,
  ⟨(some 38), none, .append 3 (.t 29) (.t 37)⟩,
  ⟨(some 7), none, .mov (.t 38)⟩]))
 (.reg [⟨(some 27), none, .mov (.t 8)⟩,
  ⟨(some 28), none, .bin .add (.t 27) (.c (.int .i64 1))⟩,
  ⟨(some 8), none, .mov (.t 28)⟩]))))))
 (.seq (.reg [⟨(some 39), none, .mov (.t 7)⟩,
  ⟨(some 40), none, .faddr 2 (.t 3)⟩,
  ⟨none, none, .store 1 (.t 40) (.t 39)⟩])
 (.seq (.reg [⟨(some 41), none, .load (some 3) (.t 3)⟩,
  ⟨none, none, .store 3 (.t 4) (.t 41)⟩])
 .ret)))))),
  [.cell 4 (some 3)], false, true, 42⟩
theorem co24 : compF Tryd.prog ⟨[], [(8, [0, 7, 8], [3, 4])], [], [], [], [], 24, [], [], []⟩ false true Tryd.f24 = some ac24 := by kernel_rfl

/-- paideia/scheme.Same -/
def ac25 : AF := ⟨(.seq (.reg [⟨(some 2), none, .box (.t 0) 5 false⟩,
  ⟨(some 3), none, .box (.t 1) 5 false⟩,
  ⟨(some 4), none, .mov (.c (.bool false))⟩])
 (.seq (.reg [⟨(some 7), none, .load (some 5) (.t 2)⟩,
  ⟨(some 8), none, .call 0 [] (.c (.fn 16 [])) [(.t 7)]⟩,
  ⟨(some 9), none, .loadL (some 5) (.t 3)⟩,
  ⟨(some 10), none, .call 0 [] (.c (.fn 16 [])) [(.t 9)]⟩,
  ⟨(some 5), none, .alloc [(.sl .clip []), (.sl .clip []), (.int .i64 0), (.str []), (.sl .clip [])] false⟩,
  ⟨(some 6), none, .alloc [(.sl .clip []), (.sl .clip []), (.int .i64 0), (.str []), (.sl .clip [])] false⟩,
  ⟨none, none, .store 5 (.t 5) (.t 8)⟩,
  ⟨none, none, .store 5 (.t 6) (.t 10)⟩])
 (.seq (.reg [⟨(some 11), none, .faddr 0 (.t 5)⟩,
  ⟨(some 12), none, .load none (.t 11)⟩,
  ⟨(some 13), none, .faddr 0 (.t 6)⟩,
  ⟨(some 14), none, .load none (.t 13)⟩,
  ⟨(some 15), none, .call 0 [] (.c (.fn 58 [])) [(.t 12), (.t 14)]⟩,
  ⟨(some 16), none, .mov (.t 15)⟩,
  ⟨(some 17), (some (16, true)), .faddr 2 (.t 5)⟩,
  ⟨(some 18), (some (16, true)), .load (some 3) (.t 17)⟩,
  ⟨(some 19), (some (16, true)), .faddr 2 (.t 6)⟩,
  ⟨(some 20), (some (16, true)), .load (some 3) (.t 19)⟩,
  ⟨(some 21), (some (16, true)), .call 0 [] (.c (.fn 59 [])) [(.t 18), (.t 20)]⟩,
  ⟨(some 22), none, .pick (.t 16) (.t 21) (.c (.bool false))⟩,
  ⟨(some 23), none, .mov (.t 22)⟩,
  ⟨(some 24), (some (23, true)), .faddr 1 (.t 5)⟩,
  ⟨(some 25), (some (23, true)), .load none (.t 24)⟩,
  ⟨(some 26), (some (23, true)), .faddr 1 (.t 6)⟩,
  ⟨(some 27), (some (23, true)), .load none (.t 26)⟩,
  ⟨(some 28), (some (23, true)), .call 0 [] (.c (.fn 60 [])) [(.t 25), (.t 27), (.c (.fn 61 []))]⟩,
  ⟨(some 29), none, .pick (.t 23) (.t 28) (.c (.bool false))⟩,
  ⟨(some 4), none, .mov (.t 29)⟩])
 .ret))),
  [.t 4], false, true, 30⟩
theorem co25 : compF Tryd.prog ⟨[], [], [], [], [], [], 25, [], [], []⟩ false true Tryd.f25 = some ac25 := by kernel_rfl

/-- paideia/paideiaref.SameScheme -/
def ac26 : AF := ⟨(.seq (.reg [⟨(some 2), none, .box (.t 0) 5 false⟩,
  ⟨(some 3), none, .box (.t 1) 5 false⟩,
  ⟨(some 4), none, .mov (.c (.bool false))⟩])
 (.seq (.reg [⟨(some 5), none, .faddr 0 (.t 2)⟩,
  ⟨(some 6), none, .load none (.t 5)⟩,
  ⟨(some 7), none, .faddr 0 (.t 3)⟩,
  ⟨(some 8), none, .load none (.t 7)⟩,
  ⟨(some 9), none, .call 0 [] (.c (.fn 31 [])) [(.t 6), (.t 8)]⟩,
  ⟨(some 10), none, .mov (.t 9)⟩,
  ⟨(some 11), (some (10, true)), .faddr 1 (.t 2)⟩,
  ⟨(some 12), (some (10, true)), .load none (.t 11)⟩,
  ⟨(some 13), (some (10, true)), .faddr 1 (.t 3)⟩,
  ⟨(some 14), (some (10, true)), .load none (.t 13)⟩,
  ⟨(some 15), (some (10, true)), .call 0 [] (.c (.fn 13 [])) [(.t 12), (.t 14)]⟩,
  ⟨(some 16), none, .pick (.t 10) (.t 15) (.c (.bool false))⟩,
  ⟨(some 17), none, .mov (.t 16)⟩,
  ⟨(some 18), (some (17, true)), .faddr 2 (.t 2)⟩,
  ⟨(some 19), (some (17, true)), .load (some 3) (.t 18)⟩,
  ⟨(some 20), (some (17, true)), .faddr 2 (.t 3)⟩,
  ⟨(some 21), (some (17, true)), .load (some 3) (.t 20)⟩,
  ⟨(some 22), (some (17, true)), .call 0 [] (.c (.fn 44 [])) [(.t 19), (.t 21)]⟩,
  ⟨(some 23), none, .pick (.t 17) (.t 22) (.c (.bool false))⟩,
  ⟨(some 4), none, .mov (.t 23)⟩])
 .ret)),
  [.t 4], false, true, 24⟩
theorem co26 : compF Tryd.prog ⟨[], [], [], [], [], [], 26, [], [], []⟩ false true Tryd.f26 = some ac26 := by kernel_rfl

/-- paideia/paideiamake.Scheme -/
def ac27 : AF := ⟨(.seq (.reg [⟨(some 2), none, .alloc [(.sl .clip []), (.sl .clip []), (.int .i64 0), (.str []), (.sl .clip [])] false⟩])
 (.seq (.reg [⟨(some 7), none, .mov (.t 0)⟩,
  ⟨(some 8), none, .call 0 [] (.c (.fn 14 [])) [(.t 7), (.c (.int .i64 3))]⟩,
  ⟨(some 9), none, .build [(.sl .clip []), (.sl .clip []), (.int .i64 0), (.str []), (.sl .clip [])] [(2, 3, (.t 8))]⟩,
  ⟨(some 3), none, .alloc [(.sl .clip []), (.sl .clip []), (.int .i64 0), (.str []), (.sl .clip [])] false⟩,
  ⟨none, none, .store 5 (.t 3) (.t 9)⟩])
 (.seq (.reg [⟨(some 10), none, .mov (.t 0)⟩,
  ⟨(some 11), none, .call 0 [] (.c (.fn 8 [])) [(.t 10), (.c (.int .i64 3)), (.c (.int .i64 0))]⟩,
  ⟨(some 4), none, .mov (.t 11)⟩])
 (.seq (.reg [⟨(some 12), none, .mov (.t 4)⟩,
  ⟨(some 13), none, .faddr 1 (.t 3)⟩,
  ⟨none, none, .store 1 (.t 13) (.t 12)⟩])
 (.seq (.reg [⟨(some 14), none, .bslice [(.str [])] 4 [(0, (.c (.str [97]))), (1, (.c (.str [98]))), (2, (.c (.str [99]))), (3, (.c (.str [100])))]⟩,
  ⟨(some 5), none, .mov (.t 14)⟩])
 (.seq (.seq (.reg [⟨(some 6), none, .mov (.c (.int .i64 0))⟩])
 (.block 0 (.loop [0, 5, 6] [2, 3] (.seq (.seq (.reg [⟨(some 15), none, .mov (.t 6)⟩,
  ⟨(some 16), none, .bin .lss (.t 15) (.c (.int .i64 4))⟩])
 (.cond (.t 16) .skip
 (.exit 0)))
 (.seq (.block 1 (.seq (.reg [⟨(some 19), none, .mov (.t 0)⟩,
  ⟨(some 20), none, .call 0 [] (.c (.fn 36 [])) [(.t 19), (.c (.int .i64 3))]⟩,
  ⟨(some 21), none, .bin .gtr (.t 20) (.c (.int .i64 0))⟩])
 (.cond (.t 21) (.reg [⟨(some 22), none, .faddr 0 (.t 3)⟩,
  ⟨(some 23), none, .load none (.t 22)⟩,
  ⟨(some 24), none, .mov (.t 5)⟩,
  ⟨(some 25), none, .mov (.t 6)⟩,
  ⟨(some 26), none, .iaddr 1 (.t 24) (.t 25)⟩,
  ⟨(some 27), none, .load none (.t 26)⟩,
  ⟨(some 28), none, .bslice [(.str [])] 1 [(0, (.t 27))]⟩,
  ⟨(some 29), none, .append 1 (.t 23) (.t 28)⟩,
  ⟨(some 30), none, .faddr 0 (.t 3)⟩,
  ⟨none, none, .store 1 (.t 30) (.t 29)⟩])
 .skip)))
 (.reg [⟨(some 17), none, .mov (.t 6)⟩,
  ⟨(some 18), none, .bin .add (.t 17) (.c (.int .i64 1))⟩,
  ⟨(some 6), none, .mov (.t 18)⟩]))))))
 (.seq (.reg [⟨(some 31), none, .load (some 5) (.t 3)⟩,
  ⟨none, none, .store 5 (.t 2) (.t 31)⟩])
 .ret))))))),
  [.cell 2 (some 5)], false, true, 32⟩
theorem co27 : compF Tryd.prog ⟨[], [(6, [0, 5, 6], [2, 3])], [], [], [], [], 27, [], [], []⟩ false true Tryd.f27 = some ac27 := by kernel_rfl

/-- paideia/scheme.Fresh -/
def ac28 : AF := ⟨(.seq (.reg [⟨(some 2), none, .box (.t 0) 5 false⟩,
  ⟨(some 4), none, .alloc [(.sl .clip []), (.sl .clip []), (.int .i64 0), (.str []), (.sl .clip [])] false⟩,
  ⟨(some 5), none, .mov (.c (.int .i64 0))⟩])
 (.seq (.reg [⟨(some 6), none, .mov (.c (.sl .clip []))⟩])
 (.seq (.seq (.reg [⟨(some 7), none, .faddr 0 (.t 2)⟩,
  ⟨(some 8), none, .load none (.t 7)⟩,
  ⟨(some 9), none, .len 1 (.t 8)⟩,
  ⟨(some 10), none, .mov (.c (.int .i64 0))⟩])
 (.block 0 (.loop [1, 6, 9, 10] [2, 4] (.seq (.reg [⟨(some 11), none, .bin .lss (.t 10) (.t 9)⟩])
 (.seq (.cond (.t 11) .skip
 (.exit 0))
 (.seq (.block 1 (.seq (.reg [⟨(some 12), none, .mov (.t 6)⟩,
  ⟨(some 13), none, .mov (.t 1)⟩,
  ⟨(some 14), none, .call 0 [] (.c (.fn 62 [])) [(.t 13)]⟩,
  ⟨(some 15), none, .bin .add (.c (.str [63])) (.t 14)⟩,
  ⟨(some 16), none, .bslice [(.str [])] 1 [(0, (.t 15))]⟩,
  ⟨(some 17), none, .append 1 (.t 12) (.t 16)⟩,
  ⟨(some 6), none, .mov (.t 17)⟩])
 (.reg [⟨(some 18), none, .mov (.t 1)⟩,
  ⟨(some 19), none, .bin .add (.t 18) (.c (.int .i64 1))⟩,
  ⟨(some 1), none, .mov (.t 19)⟩])))
 (.reg [⟨(some 20), none, .bin .add (.t 10) (.c (.int .i64 1))⟩,
  ⟨(some 10), none, .mov (.t 20)⟩])))))))
 (.seq (.reg [⟨(some 21), none, .load (some 5) (.t 2)⟩,
  ⟨(some 22), none, .faddr 0 (.t 2)⟩,
  ⟨(some 23), none, .load none (.t 22)⟩,
  ⟨(some 24), none, .mov (.t 6)⟩,
  ⟨(some 25), none, .call 0 [] (.c (.fn 53 [])) [(.t 21), (.t 23), (.t 24)]⟩,
  ⟨(some 26), none, .mov (.t 1)⟩,
  ⟨none, none, .store 5 (.t 4) (.t 25)⟩,
  ⟨(some 5), none, .mov (.t 26)⟩])
 .ret)))),
  [.cell 4 (some 5), .t 5], false, true, 27⟩
theorem co28 : compF Tryd.prog ⟨[], [(3, [1, 6, 9, 10], [2, 4])], [], [], [], [], 28, [], [], []⟩ false true Tryd.f28 = some ac28 := by kernel_rfl

/-- paideia/paideiaref4.Fresh -/
def ac29 : AF := ⟨(.seq (.reg [⟨(some 2), none, .box (.t 0) 5 false⟩,
  ⟨(some 4), none, .alloc [(.sl .clip []), (.sl .clip []), (.int .i64 0), (.str []), (.sl .clip [])] false⟩,
  ⟨(some 5), none, .mov (.c (.int .i64 0))⟩])
 (.seq (.reg [⟨(some 6), none, .mov (.c (.sl .clip []))⟩])
 (.seq (.reg [⟨(some 7), none, .mov (.c (.sl .clip []))⟩])
 (.seq (.seq (.reg [⟨(some 8), none, .mov (.c (.int .i64 0))⟩])
 (.block 0 (.loop [1, 6, 7, 8] [2, 4] (.seq (.seq (.reg [⟨(some 10), none, .mov (.t 8)⟩,
  ⟨(some 11), none, .faddr 0 (.t 2)⟩,
  ⟨(some 12), none, .load none (.t 11)⟩,
  ⟨(some 13), none, .len 1 (.t 12)⟩,
  ⟨(some 14), none, .bin .lss (.t 10) (.t 13)⟩])
 (.cond (.t 14) .skip
 (.exit 0)))
 (.seq (.block 1 (.seq (.reg [⟨(some 17), none, .mov (.t 1)⟩,
  ⟨(some 18), none, .call 0 [] (.c (.fn 63 [])) [(.t 17)]⟩,
  ⟨(some 19), none, .bin .add (.c (.str [63])) (.t 18)⟩,
  ⟨(some 9), none, .mov (.t 19)⟩])
 (.seq (.reg [⟨(some 20), none, .mov (.t 1)⟩,
  ⟨(some 21), none, .bin .add (.t 20) (.c (.int .i64 1))⟩,
  ⟨(some 1), none, .mov (.t 21)⟩])
 (.seq (.reg [⟨(some 22), none, .mov (.t 7)⟩,
  ⟨(some 23), none, .mov (.t 9)⟩,
  ⟨(some 24), none, .bslice [(.str [])] 1 [(0, (.t 23))]⟩,
  ⟨(some 25), none, .append 1 (.t 22) (.t 24)⟩,
  ⟨(some 7), none, .mov (.t 25)⟩])
 (.reg [⟨(some 26), none, .mov (.t 6)⟩,
  ⟨(some 27), none, .faddr 0 (.t 2)⟩,
  ⟨(some 28), none, .loadL none (.t 27)⟩,
  ⟨(some 29), none, .mov (.t 8)⟩,
  ⟨(some 30), none, .iaddr 1 (.t 28) (.t 29)⟩,
  ⟨(some 31), none, .loadL none (.t 30)⟩,
  ⟨(some 32), none, .mov (.t 9)⟩,
  ⟨(some 33), none, .call 0 [] (.c (.fn 22 [])) [(.t 32)]⟩,
  ⟨(some 34), none, .build [(.str []), (.int .i64 0), (.str []), (.sl .clip [])] [(0, 1, (.t 31)), (1, 3, (.t 33))]⟩,
  ⟨(some 35), none, .bslice [(.str []), (.int .i64 0), (.str []), (.sl .clip [])] 1 [(0, (.t 34))]⟩,
  ⟨(some 36), none, .append 4 (.t 26) (.t 35)⟩,
  ⟨(some 6), none, .mov (.t 36)⟩])))))
 (.reg [⟨(some 15), none, .mov (.t 8)⟩,
  ⟨(some 16), none, .bin .add (.t 15) (.c (.int .i64 1))⟩,
  ⟨(some 8), none, .mov (.t 16)⟩]))))))
 (.seq (.reg [⟨(some 37), none, .mov (.t 7)⟩,
  ⟨(some 38), none, .mov (.t 6)⟩,
  ⟨(some 39), none, .faddr 1 (.t 2)⟩,
  ⟨(some 40), none, .load none (.t 39)⟩,
  ⟨(some 41), none, .call 0 [] (.c (.fn 23 [])) [(.t 38), (.t 40)]⟩,
  ⟨(some 42), none, .mov (.t 6)⟩,
  ⟨(some 43), none, .faddr 2 (.t 2)⟩,
  ⟨(some 44), none, .loadL (some 3) (.t 43)⟩,
  ⟨(some 45), none, .call 0 [] (.c (.fn 24 [])) [(.t 42), (.t 44)]⟩,
  ⟨(some 46), none, .build [(.sl .clip []), (.sl .clip []), (.int .i64 0), (.str []), (.sl .clip [])] [(0, 1, (.t 37)), (1, 1, (.t 41)), (2, 3, (.t 45))]⟩,
  ⟨(some 47), none, .mov (.t 1)⟩,
  ⟨none, none, .store 5 (.t 4) (.t 46)⟩,
  ⟨(some 5), none, .mov (.t 47)⟩])
 .ret))))),
  [.cell 4 (some 5), .t 5], false, true, 48⟩
theorem co29 : compF Tryd.prog ⟨[], [(4, [1, 6, 7, 8], [2, 4])], [], [], [], [], 29, [], [], []⟩ false true Tryd.f29 = some ac29 := by kernel_rfl

/-- paideia/paideiaref4.Canon -/
def ac30 : AF := ⟨(.seq (.reg [⟨(some 1), none, .box (.t 0) 5 false⟩,
  ⟨(some 2), none, .alloc [(.sl .clip []), (.sl .clip []), (.int .i64 0), (.str []), (.sl .clip [])] false⟩])
 (.seq (.reg [⟨(some 9), none, .load (some 5) (.t 1)⟩,
  ⟨(some 10), none, .call 0 [] (.c (.fn 32 [])) [(.t 9)]⟩,
  ⟨(some 3), none, .mov (.t 10)⟩])
 (.seq (.reg [⟨(some 11), none, .faddr 2 (.t 1)⟩,
  ⟨(some 12), none, .loadL (some 3) (.t 11)⟩,
  ⟨(some 13), none, .faddr 1 (.t 1)⟩,
  ⟨(some 14), none, .load none (.t 13)⟩,
  ⟨(some 15), none, .call 0 [] (.c (.fn 33 [])) [(.t 14)]⟩,
  ⟨(some 16), none, .call 0 [] (.c (.fn 56 [])) [(.t 12), (.t 15)]⟩,
  ⟨(some 17), none, .call 0 [] (.c (.fn 18 [])) [(.t 16)]⟩,
  ⟨(some 4), none, .mov (.t 17)⟩])
 (.seq (.reg [⟨(some 5), none, .mov (.c (.sl .clip []))⟩])
 (.seq (.reg [⟨(some 18), none, .build [(.sl .clip []), (.sl .clip []), (.int .i64 0), (.str []), (.sl .clip [])] []⟩,
  ⟨(some 6), none, .alloc [(.sl .clip []), (.sl .clip []), (.int .i64 0), (.str []), (.sl .clip [])] false⟩,
  ⟨none, none, .store 5 (.t 6) (.t 18)⟩])
 (.seq (.reg [⟨(some 7), none, .mov (.c (.int .i64 0))⟩])
 (.seq (.seq (.reg [⟨(some 8), none, .mov (.c (.int .i64 0))⟩])
 (.block 0 (.loop [3, 4, 5, 7, 8] [1, 2, 6] (.seq (.seq (.reg [⟨(some 19), none, .mov (.t 8)⟩,
  ⟨(some 20), none, .mov (.t 4)⟩,
  ⟨(some 21), none, .len 1 (.t 20)⟩,
  ⟨(some 22), none, .bin .lss (.t 19) (.t 21)⟩])
 (.cond (.t 22) .skip
 (.exit 0)))
 (.seq (.block 1 (.seq (.seq (.reg [⟨(some 25), none, .faddr 0 (.t 1)⟩,
  ⟨(some 26), none, .load none (.t 25)⟩,
  ⟨(some 27), none, .mov (.t 4)⟩,
  ⟨(some 28), none, .mov (.t 8)⟩,
  ⟨(some 29), none, .iaddr 1 (.t 27) (.t 28)⟩,
  ⟨(some 30), none, .load none (.t 29)⟩,
  ⟨(some 31), none, .call 0 [] (.c (.fn 17 [])) [(.t 26), (.t 30)]⟩,
  ⟨(some 32), none, .not (.t 31)⟩])
 (.cond (.t 32) (.exit 1)
 .skip))
 (.seq (.block 2 (.loop [3, 4, 5, 7, 8] [1, 2, 6] (.seq (.seq (.reg [⟨(some 33), none, .mov (.t 3)⟩,
  ⟨(some 34), none, .mov (.t 7)⟩,
  ⟨(some 35), none, .call 0 [] (.c (.fn 35 [])) [(.t 34)]⟩,
  ⟨(some 36), none, .call 0 [] (.c (.fn 17 [])) [(.t 33), (.t 35)]⟩])
 (.cond (.t 36) .skip
 (.exit 2)))
 (.block 3 (.reg [⟨(some 37), none, .mov (.t 7)⟩,
  ⟨(some 38), none, .bin .add (.t 37) (.c (.int .i64 1))⟩,
  ⟨(some 7), none, .mov (.t 38)⟩])))))
 (.seq (.reg [⟨(some 39), none, .faddr 0 (.t 6)⟩,
  ⟨(some 40), none, .loadL none (.t 39)⟩,
  ⟨(some 41), none, .mov (.t 7)⟩,
  ⟨(some 42), none, .call 0 [] (.c (.fn 35 [])) [(.t 41)]⟩,
  ⟨(some 43), none, .bslice [(.str [])] 1 [(0, (.t 42))]⟩,
  ⟨(some 44), none, .append 1 (.t 40) (.t 43)⟩,
  ⟨(some 45), none, .faddr 0 (.t 6)⟩,
  ⟨none, none, .store 1 (.t 45) (.t 44)⟩])
 (.seq (.reg [⟨(some 46), none, .mov (.t 5)⟩,
  ⟨(some 47), none, .mov (.t 4)⟩,
  ⟨(some 48), none, .mov (.t 8)⟩,
  ⟨(some 49), none, .iaddr 1 (.t 47) (.t 48)⟩,
  ⟨(some 50), none, .loadL none (.t 49)⟩,
  ⟨(some 51), none, .mov (.t 7)⟩,
  ⟨(some 52), none, .call 0 [] (.c (.fn 35 [])) [(.t 51)]⟩,
  ⟨(some 53), none, .call 0 [] (.c (.fn 22 [])) [(.t 52)]⟩,
  ⟨(some 54), none, .build [(.str []), (.int .i64 0), (.str []), (.sl .clip [])] [(0, 1, (.t 50)), (1, 3, (.t 53))]⟩,
  ⟨(some 55), none, .bslice [(.str []), (.int .i64 0), (.str []), (.sl .clip [])] 1 [(0, (.t 54))]⟩,
  ⟨(some 56), none, .append 4 (.t 46) (.t 55)⟩,
  ⟨(some 5), none, .mov (.t 56)⟩])
 (.reg [⟨(some 57), none, .mov (.t 7)⟩,
  ⟨(some 58), none, .bin .add (.t 57) (.c (.int .i64 1))⟩,
  ⟨(some 7), none, .mov (.t 58)⟩]))))))
 (.reg [⟨(some 23), none, .mov (.t 8)⟩,
  ⟨(some 24), none, .bin .add (.t 23) (.c (.int .i64 1))⟩,
  ⟨(some 8), none, .mov (.t 24)⟩]))))))
 (.seq (.reg [⟨(some 59), none, .mov (.t 5)⟩,
  ⟨(some 60), none, .faddr 2 (.t 1)⟩,
  ⟨(some 61), none, .load (some 3) (.t 60)⟩,
  ⟨(some 62), none, .call 0 [] (.c (.fn 24 [])) [(.t 59), (.t 61)]⟩,
  ⟨(some 63), none, .faddr 2 (.t 6)⟩,
  ⟨none, none, .store 3 (.t 63) (.t 62)⟩])
 (.seq (.reg [⟨(some 64), none, .mov (.t 5)⟩,
  ⟨(some 65), none, .faddr 1 (.t 1)⟩,
  ⟨(some 66), none, .load none (.t 65)⟩,
  ⟨(some 67), none, .call 0 [] (.c (.fn 23 [])) [(.t 64), (.t 66)]⟩,
  ⟨(some 68), none, .call 0 [] (.c (.fn 33 [])) [(.t 67)]⟩,
  ⟨(some 69), none, .faddr 1 (.t 6)⟩,
  ⟨none, none, .store 1 (.t 69) (.t 68)⟩])
 (.seq (.reg [⟨(some 70), none, .load (some 5) (.t 6)⟩,
  ⟨none, none, .store 5 (.t 2) (.t 70)⟩])
 .ret)))))))))),
  [.cell 2 (some 5)], false, true, 71⟩
theorem co30 : compF Tryd.prog ⟨[], [(7, [3, 4, 5, 7, 8], [1, 2, 6]), (10, [3, 4, 5, 7, 8], [1, 2, 6])], [], [], [], [], 30, [], [], []⟩ false true Tryd.f30 = some ac30 := by kernel_rfl

/-- paideia/paideiaref.SameTexts -/
def ac31 : AF := ⟨(.seq (.reg [⟨(some 4), none, .mov (.c (.bool false))⟩])
 (.seq (.seq (.reg [⟨(some 7), none, .mov (.t 0)⟩,
  ⟨(some 8), none, .len 1 (.t 7)⟩,
  ⟨(some 9), none, .mov (.t 1)⟩,
  ⟨(some 10), none, .len 1 (.t 9)⟩,
  ⟨(some 11), none, .bin .neq (.t 8) (.t 10)⟩])
 (.cond (.t 11) (.seq (.reg [⟨(some 4), none, .mov (.c (.bool false))⟩])
 .ret)
 .skip))
 (.seq (.seq (.reg [⟨(some 5), none, .mov (.c (.int .i64 0))⟩])
 (.block 0 (.loop [0, 1, 5] [] (.seq (.seq (.reg [⟨(some 12), none, .mov (.t 5)⟩,
  ⟨(some 13), none, .mov (.t 0)⟩,
  ⟨(some 14), none, .len 1 (.t 13)⟩,
  ⟨(some 15), none, .bin .lss (.t 12) (.t 14)⟩])
 (.cond (.t 15) .skip
 (.exit 0)))
 (.seq (.block 1 (.seq (.reg [⟨(some 18), none, .mov (.t 0)⟩,
  ⟨(some 19), none, .mov (.t 5)⟩,
  ⟨(some 20), none, .iaddr 1 (.t 18) (.t 19)⟩,
  ⟨(some 21), none, .load none (.t 20)⟩,
  ⟨(some 22), none, .mov (.t 1)⟩,
  ⟨(some 23), none, .mov (.t 5)⟩,
  ⟨(some 24), none, .iaddr 1 (.t 22) (.t 23)⟩,
  ⟨(some 25), none, .load none (.t 24)⟩,
  ⟨(some 26), none, .bin .eql (.t 21) (.t 25)⟩,
  ⟨(some 6), none, .mov (.t 26)⟩])
 (.seq (.reg [⟨(some 27), none, .mov (.t 6)⟩,
  ⟨(some 28), none, .not (.t 27)⟩])
 (.cond (.t 28) (.seq (.reg [⟨(some 4), none, .mov (.c (.bool false))⟩])
 .ret)
 .skip))))
 (.reg [⟨(some 16), none, .mov (.t 5)⟩,
  ⟨(some 17), none, .bin .add (.t 16) (.c (.int .i64 1))⟩,
  ⟨(some 5), none, .mov (.t 17)⟩]))))))
 (.seq (.reg [⟨(some 4), none, .mov (.c (.bool true))⟩])
 .ret)))),
  [.t 4], false, true, 29⟩
theorem co31 : compF Tryd.prog ⟨[], [(4, [0, 1, 5], [])], [], [], [], [], 31, [], [], []⟩ false true Tryd.f31 = some ac31 := by kernel_rfl

/-- paideia/paideiaref4.Free -/
def ac32 : AF := ⟨(.seq (.reg [⟨(some 1), none, .box (.t 0) 5 false⟩,
  ⟨(some 2), none, .mov (.c (.sl .clip []))⟩])
 (.seq (.reg [⟨(some 3), none, .mov (.c (.sl .clip []))⟩])
 (.seq (.reg [⟨(some 6), none, .faddr 2 (.t 1)⟩,
  ⟨(some 7), none, .load (some 3) (.t 6)⟩,
  ⟨(some 8), none, .faddr 1 (.t 1)⟩,
  ⟨(some 9), none, .load none (.t 8)⟩,
  ⟨(some 10), none, .call 0 [] (.c (.fn 56 [])) [(.t 7), (.t 9)]⟩,
  ⟨(some 11), none, .call 0 [] (.c (.fn 18 [])) [(.t 10)]⟩,
  ⟨(some 4), none, .mov (.t 11)⟩])
 (.seq (.seq (.reg [⟨(some 5), none, .mov (.c (.int .i64 0))⟩])
 (.block 0 (.loop [3, 4, 5] [1] (.seq (.seq (.reg [⟨(some 12), none, .mov (.t 5)⟩,
  ⟨(some 13), none, .mov (.t 4)⟩,
  ⟨(some 14), none, .len 1 (.t 13)⟩,
  ⟨(some 15), none, .bin .lss (.t 12) (.t 14)⟩])
 (.cond (.t 15) .skip
 (.exit 0)))
 (.seq (.block 1 (.seq (.reg [⟨(some 18), none, .faddr 0 (.t 1)⟩,
  ⟨(some 19), none, .load none (.t 18)⟩,
  ⟨(some 20), none, .mov (.t 4)⟩,
  ⟨(some 21), none, .mov (.t 5)⟩,
  ⟨(some 22), none, .iaddr 1 (.t 20) (.t 21)⟩,
  ⟨(some 23), none, .load none (.t 22)⟩,
  ⟨(some 24), none, .call 0 [] (.c (.fn 17 [])) [(.t 19), (.t 23)]⟩,
  ⟨(some 25), none, .not (.t 24)⟩])
 (.cond (.t 25) (.reg [⟨(some 26), none, .mov (.t 3)⟩,
  ⟨(some 27), none, .mov (.t 4)⟩,
  ⟨(some 28), none, .mov (.t 5)⟩,
  ⟨(some 29), none, .iaddr 1 (.t 27) (.t 28)⟩,
  ⟨(some 30), none, .load none (.t 29)⟩,
  ⟨(some 31), none, .bslice [(.str [])] 1 [(0, (.t 30))]⟩,
  ⟨(some 32), none, .append 1 (.t 26) (.t 31)⟩,
  ⟨(some 3), none, .mov (.t 32)⟩])
 .skip)))
 (.reg [⟨(some 16), none, .mov (.t 5)⟩,
  ⟨(some 17), none, .bin .add (.t 16) (.c (.int .i64 1))⟩,
  ⟨(some 5), none, .mov (.t 17)⟩]))))))
 (.seq (.reg [⟨(some 33), none, .mov (.t 3)⟩,
  ⟨(some 2), none, .mov (.t 33)⟩])
 .ret))))),
  [.t 2], false, true, 34⟩
theorem co32 : compF Tryd.prog ⟨[], [(4, [3, 4, 5], [1])], [], [], [], [], 32, [], [], []⟩ false true Tryd.f32 = some ac32 := by kernel_rfl

/-- paideia/paideiaref4.SortPreds -/
def ac33 : AF := ⟨(.seq (.reg [⟨(some 2), none, .mov (.c (.sl .clip []))⟩])
 (.seq (.reg [⟨(some 3), none, .mov (.c (.sl .clip []))⟩])
 (.seq (.seq (.reg [⟨(some 4), none, .mov (.c (.int .i64 0))⟩])
 (.block 0 (.loop [0, 3, 4] [] (.seq (.seq (.reg [⟨(some 7), none, .mov (.t 4)⟩,
  ⟨(some 8), none, .mov (.t 0)⟩,
  ⟨(some 9), none, .len 1 (.t 8)⟩,
  ⟨(some 10), none, .bin .lss (.t 7) (.t 9)⟩])
 (.cond (.t 10) .skip
 (.exit 0)))
 (.seq (.block 1 (.seq (.reg [⟨(some 5), none, .mov (.c (.int .i64 0))⟩])
 (.seq (.block 2 (.loop [0, 3, 4, 5] [] (.seq (.seq (.reg [⟨(some 13), none, .mov (.t 5)⟩,
  ⟨(some 14), none, .mov (.t 3)⟩,
  ⟨(some 15), none, .len 1 (.t 14)⟩,
  ⟨(some 16), none, .bin .lss (.t 13) (.t 15)⟩,
  ⟨(some 17), none, .mov (.t 16)⟩,
  ⟨(some 18), (some (17, true)), .mov (.t 3)⟩,
  ⟨(some 19), (some (17, true)), .mov (.t 5)⟩,
  ⟨(some 20), (some (17, true)), .iaddr 4 (.t 18) (.t 19)⟩,
  ⟨(some 21), (some (17, true)), .load (some 4) (.t 20)⟩,
  ⟨(some 22), (some (17, true)), .mov (.t 0)⟩,
  ⟨(some 23), (some (17, true)), .mov (.t 4)⟩,
  ⟨(some 24), (some (17, true)), .iaddr 4 (.t 22) (.t 23)⟩,
  ⟨(some 25), (some (17, true)), .load (some 4) (.t 24)⟩,
  ⟨(some 26), (some (17, true)), .call 0 [] (.c (.fn 64 [])) [(.t 21), (.t 25)]⟩,
  ⟨(some 27), none, .pick (.t 17) (.t 26) (.c (.bool false))⟩])
 (.cond (.t 27) .skip
 (.exit 2)))
 (.block 3 (.reg [⟨(some 28), none, .mov (.t 5)⟩,
  ⟨(some 29), none, .bin .add (.t 28) (.c (.int .i64 1))⟩,
  ⟨(some 5), none, .mov (.t 29)⟩])))))
 (.seq (.seq (.reg [⟨(some 30), none, .mov (.t 5)⟩,
  ⟨(some 31), none, .mov (.t 3)⟩,
  ⟨(some 32), none, .len 1 (.t 31)⟩,
  ⟨(some 33), none, .bin .lss (.t 30) (.t 32)⟩,
  ⟨(some 34), none, .mov (.t 33)⟩,
  ⟨(some 35), (some (34, true)), .mov (.t 3)⟩,
  ⟨(some 36), (some (34, true)), .mov (.t 5)⟩,
  ⟨(some 37), (some (34, true)), .iaddr 4 (.t 35) (.t 36)⟩,
  ⟨(some 38), (some (34, true)), .load (some 4) (.t 37)⟩,
  ⟨(some 39), (some (34, true)), .mov (.t 0)⟩,
  ⟨(some 40), (some (34, true)), .mov (.t 4)⟩,
  ⟨(some 41), (some (34, true)), .iaddr 4 (.t 39) (.t 40)⟩,
  ⟨(some 42), (some (34, true)), .load (some 4) (.t 41)⟩,
  ⟨(some 43), (some (34, true)), .call 0 [] (.c (.fn 10 [])) [(.t 38), (.t 42)]⟩,
  ⟨(some 44), none, .pick (.t 34) (.t 43) (.c (.bool false))⟩])
 (.cond (.t 44) (.exit 1)
 .skip))
 (.seq (.reg [⟨(some 45), none, .mov (.t 3)⟩,
  ⟨(some 46), none, .mov (.t 5)⟩,
  ⟨(some 47), none, .slice 4 (.t 45) none (some (.t 46)) none⟩,
  ⟨(some 48), none, .call 0 [] (.c (.fn 12 [])) [(.t 47)]⟩,
  ⟨(some 49), none, .mov (.t 0)⟩,
  ⟨(some 50), none, .mov (.t 4)⟩,
  ⟨(some 51), none, .iaddr 4 (.t 49) (.t 50)⟩,
  ⟨(some 52), none, .loadL (some 4) (.t 51)⟩,
  ⟨(some 53), none, .bslice [(.str []), (.int .i64 0), (.str []), (.sl .clip [])] 1 [(0, (.t 52))]⟩,
  ⟨(some 54), none, .append 4 (.t 48) (.t 53)⟩,
  ⟨(some 6), none, .mov (.t 54)⟩])
 (.reg [⟨(some 55), none, .mov (.t 6)⟩,
  ⟨(some 56), none, .mov (.t 3)⟩,
  ⟨(some 57), none, .mov (.t 5)⟩,
  ⟨(some 58), none, .slice 4 (.t 56) (some (.t 57)) none none⟩,
  ⟨(some 59), none, .append 4 (.t 55) (.t 58)⟩,
  ⟨(some 3), none, .mov (.t 59)⟩]))))))
 (.reg [⟨(some 11), none, .mov (.t 4)⟩,
  ⟨(some 12), none, .bin .add (.t 11) (.c (.int .i64 1))⟩,
  ⟨(some 4), none, .mov (.t 12)⟩]))))))
 (.seq (.reg [⟨(some 60), none, .mov (.t 3)⟩,
  ⟨(some 2), none, .mov (.t 60)⟩])
 .ret)))),
  [.t 2], false, true, 61⟩
theorem co33 : compF Tryd.prog ⟨[], [(3, [0, 3, 4], []), (6, [0, 3, 4, 5], [])], [], [], [], [], 33, [], [], []⟩ false true Tryd.f33 = some ac33 := by kernel_rfl

/-- paideia/scheme.Name -/
def ac34 : AF := ⟨(.seq (.reg [⟨(some 2), none, .mov (.c (.str []))⟩])
 (.seq (.reg [⟨(some 4), none, .mov (.t 0)⟩,
  ⟨(some 5), none, .bmax (.t 4) (.c (.int .i64 0))⟩,
  ⟨(some 0), none, .mov (.t 5)⟩])
 (.seq (.reg [⟨(some 6), none, .mov (.t 0)⟩,
  ⟨(some 7), none, .bin .rem (.t 6) (.c (.int .i64 26))⟩,
  ⟨(some 8), none, .bin .add (.c (.int .i64 97)) (.t 7)⟩,
  ⟨(some 9), none, .conv (.int .i32) (.t 8)⟩,
  ⟨(some 10), none, .conv .rune (.t 9)⟩,
  ⟨(some 3), none, .mov (.t 10)⟩])
 (.seq (.seq (.reg [⟨(some 11), none, .mov (.t 0)⟩,
  ⟨(some 12), none, .bin .geq (.t 11) (.c (.int .i64 26))⟩])
 (.cond (.t 12) (.reg [⟨(some 13), none, .mov (.t 3)⟩,
  ⟨(some 14), none, .mov (.t 0)⟩,
  ⟨(some 15), none, .bin .quo (.t 14) (.c (.int .i64 26))⟩,
  ⟨(some 16), none, .call 0 [] (.c (.fn 62 [])) [(.t 15)]⟩,
  ⟨(some 17), none, .bin .add (.t 13) (.t 16)⟩,
  ⟨(some 3), none, .mov (.t 17)⟩])
 .skip))
 (.seq (.reg [⟨(some 18), none, .mov (.t 3)⟩,
  ⟨(some 2), none, .mov (.t 18)⟩])
 .ret))))),
  [.t 2], false, true, 19⟩
theorem co34 : compF Tryd.prog ⟨[], [], [], [], [], [], 34, [], [], []⟩ false true Tryd.f34 = some ac34 := by kernel_rfl

/-- paideia/paideiaref4.Name -/
def ac35 : AF := ⟨(.seq (.reg [⟨(some 2), none, .mov (.c (.str []))⟩])
 (.seq (.seq (.reg [⟨(some 6), none, .mov (.t 0)⟩,
  ⟨(some 7), none, .bin .lss (.t 6) (.c (.int .i64 0))⟩])
 (.cond (.t 7) (.reg [⟨(some 0), none, .mov (.c (.int .i64 0))⟩])
 .skip))
 (.seq (.reg [⟨(some 8), none, .mov (.t 0)⟩,
  ⟨(some 9), none, .bin .rem (.t 8) (.c (.int .i64 26))⟩,
  ⟨(some 10), none, .bin .add (.c (.int .i64 97)) (.t 9)⟩,
  ⟨(some 11), none, .conv (.int .u8) (.t 10)⟩,
  ⟨(some 12), none, .bslice [(.int .u8 0)] 1 [(0, (.t 11))]⟩,
  ⟨(some 13), none, .conv .text (.t 12)⟩,
  ⟨(some 3), none, .mov (.t 13)⟩])
 (.seq (.reg [⟨(some 14), none, .mov (.t 0)⟩,
  ⟨(some 15), none, .bin .quo (.t 14) (.c (.int .i64 26))⟩,
  ⟨(some 4), none, .mov (.t 15)⟩])
 (.seq (.reg [⟨(some 5), none, .mov (.c (.str []))⟩])
 (.seq (.block 0 (.loop [3, 4, 5] [] (.seq (.seq (.reg [⟨(some 16), none, .mov (.t 4)⟩,
  ⟨(some 17), none, .bin .gtr (.t 16) (.c (.int .i64 0))⟩])
 (.cond (.t 17) .skip
 (.exit 0)))
 (.block 1 (.seq (.reg [⟨(some 18), none, .mov (.t 4)⟩,
  ⟨(some 19), none, .bin .rem (.t 18) (.c (.int .i64 10))⟩,
  ⟨(some 20), none, .bin .add (.c (.int .i64 48)) (.t 19)⟩,
  ⟨(some 21), none, .conv (.int .u8) (.t 20)⟩,
  ⟨(some 22), none, .bslice [(.int .u8 0)] 1 [(0, (.t 21))]⟩,
  ⟨(some 23), none, .conv .text (.t 22)⟩,
  ⟨(some 24), none, .mov (.t 5)⟩,
  ⟨(some 25), none, .bin .add (.t 23) (.t 24)⟩,
  ⟨(some 5), none, .mov (.t 25)⟩])
 (.reg [⟨(some 26), none, .mov (.t 4)⟩,
  ⟨(some 27), none, .bin .quo (.t 26) (.c (.int .i64 10))⟩,
  ⟨(some 4), none, .mov (.t 27)⟩]))))))
 (.seq (.reg [⟨(some 28), none, .mov (.t 3)⟩,
  ⟨(some 29), none, .mov (.t 5)⟩,
  ⟨(some 30), none, .bin .add (.t 28) (.t 29)⟩,
  ⟨(some 2), none, .mov (.t 30)⟩])
 .ret))))))),
  [.t 2], false, true, 31⟩
theorem co35 : compF Tryd.prog ⟨[], [(6, [3, 4, 5], [])], [], [], [], [], 35, [], [], []⟩ false true Tryd.f35 = some ac35 := by kernel_rfl

/-- (*paideia/paideiamake.Seq).Next -/
def ac36 : AF := ⟨(.seq (.reg [⟨(some 4), none, .mov (.c (.int .i64 0))⟩])
 (.seq (.reg [⟨(some 5), none, .mov (.c (.int .i64 0))⟩])
 (.seq (.seq (.reg [⟨(some 6), none, .mov (.t 0)⟩,
  ⟨(some 7), none, .nilck (.t 6)⟩,
  ⟨(some 8), none, .faddr 1 (.t 7)⟩,
  ⟨(some 9), none, .load none (.t 8)⟩,
  ⟨(some 10), none, .mov (.t 0)⟩,
  ⟨(some 11), none, .nilck (.t 10)⟩,
  ⟨(some 12), none, .faddr 0 (.t 11)⟩,
  ⟨(some 13), none, .load none (.t 12)⟩,
  ⟨(some 14), none, .len 1 (.t 13)⟩,
  ⟨(some 15), none, .bin .lss (.t 9) (.t 14)⟩])
 (.cond (.t 15) (.reg [⟨(some 16), none, .mov (.t 0)⟩,
  ⟨(some 17), none, .nilck (.t 16)⟩,
  ⟨(some 18), none, .faddr 0 (.t 17)⟩,
  ⟨(some 19), none, .load none (.t 18)⟩,
  ⟨(some 20), none, .mov (.t 0)⟩,
  ⟨(some 21), none, .nilck (.t 20)⟩,
  ⟨(some 22), none, .faddr 1 (.t 21)⟩,
  ⟨(some 23), none, .load none (.t 22)⟩,
  ⟨(some 24), none, .iaddr 1 (.t 19) (.t 23)⟩,
  ⟨(some 25), none, .load none (.t 24)⟩,
  ⟨(some 5), none, .mov (.t 25)⟩])
 .skip))
 (.seq (.reg [⟨(some 26), none, .mov (.t 0)⟩,
  ⟨(some 27), none, .mov (.t 0)⟩,
  ⟨(some 28), none, .nilck (.t 27)⟩,
  ⟨(some 29), none, .faddr 1 (.t 28)⟩,
  ⟨(some 30), none, .load none (.t 29)⟩,
  ⟨(some 31), none, .bin .add (.t 30) (.c (.int .i64 1))⟩,
  ⟨(some 32), none, .nilck (.t 26)⟩,
  ⟨(some 33), none, .faddr 1 (.t 32)⟩,
  ⟨none, none, .store 1 (.t 33) (.t 31)⟩])
 (.seq (.reg [⟨(some 34), none, .mov (.t 5)⟩,
  ⟨(some 35), none, .mov (.t 1)⟩,
  ⟨(some 36), none, .call 0 [] (.c (.fn 65 [])) [(.t 34), (.t 35)]⟩,
  ⟨(some 4), none, .mov (.t 36)⟩])
 .ret))))),
  [.t 4], false, false, 37⟩
theorem co36 : compF Tryd.prog ⟨[], [], [], [], [], [], 36, [], [], []⟩ false false Tryd.f36 = some ac36 := by kernel_rfl

/-- paideia/paideiamake.Pred -/
def ac37 : AF := ⟨(.seq (.reg [⟨(some 4), none, .alloc [(.str []), (.int .i64 0), (.str []), (.sl .clip [])] false⟩])
 (.seq (.reg [⟨(some 6), none, .bslice [(.str [])] 4 [(0, (.c (.str [69, 113]))), (1, (.c (.str [79, 114, 100]))), (2, (.c (.str [83, 104, 111, 119]))), (3, (.c (.str [78, 117, 109])))]⟩,
  ⟨(some 7), none, .mov (.t 0)⟩,
  ⟨(some 8), none, .call 0 [] (.c (.fn 36 [])) [(.t 7), (.c (.int .i64 4))]⟩,
  ⟨(some 9), none, .iaddr 1 (.t 6) (.t 8)⟩,
  ⟨(some 10), none, .load none (.t 9)⟩,
  ⟨(some 5), none, .mov (.t 10)⟩])
 (.seq (.reg [⟨(some 11), none, .mov (.t 5)⟩,
  ⟨(some 12), none, .mov (.t 0)⟩,
  ⟨(some 13), none, .mov (.t 1)⟩,
  ⟨(some 14), none, .call 0 [] (.c (.fn 14 [])) [(.t 12), (.t 13)]⟩,
  ⟨(some 15), none, .build [(.str []), (.int .i64 0), (.str []), (.sl .clip [])] [(0, 1, (.t 11)), (1, 3, (.t 14))]⟩,
  ⟨none, none, .store 4 (.t 4) (.t 15)⟩])
 .ret))),
  [.cell 4 (some 4)], false, true, 16⟩
theorem co37 : compF Tryd.prog ⟨[], [], [], [], [], [], 37, [], [], []⟩ false true Tryd.f37 = some ac37 := by kernel_rfl

/-- (paideia/subst.Subst).Preds -/
def ac38 : AF := ⟨(.seq (.reg [⟨(some 2), none, .box (.t 0) 1 false⟩,
  ⟨(some 4), none, .mov (.c (.sl .clip []))⟩])
 (.seq (.reg [⟨(some 5), none, .mov (.c (.sl .clip []))⟩])
 (.seq (.seq (.reg [⟨(some 8), none, .mov (.t 1)⟩,
  ⟨(some 9), none, .len 1 (.t 8)⟩,
  ⟨(some 10), none, .mov (.c (.int .i64 0))⟩])
 (.block 0 (.loop [5, 8, 9, 10] [2] (.seq (.reg [⟨(some 11), none, .bin .lss (.t 10) (.t 9)⟩])
 (.seq (.cond (.t 11) .skip
 (.exit 0))
 (.seq (.block 1 (.seq (.reg [⟨(some 12), none, .iaddr 4 (.t 8) (.t 10)⟩,
  ⟨(some 13), none, .load (some 4) (.t 12)⟩,
  ⟨(some 7), none, .alloc [(.str []), (.int .i64 0), (.str []), (.sl .clip [])] false⟩,
  ⟨none, none, .store 4 (.t 7) (.t 13)⟩])
 (.reg [⟨(some 14), none, .mov (.t 5)⟩,
  ⟨(some 15), none, .faddr 0 (.t 7)⟩,
  ⟨(some 16), none, .loadL none (.t 15)⟩,
  ⟨(some 17), none, .load (some 1) (.t 2)⟩,
  ⟨(some 18), none, .faddr 1 (.t 7)⟩,
  ⟨(some 19), none, .load (some 3) (.t 18)⟩,
  ⟨(some 20), none, .call 0 [] (.c (.fn 66 [])) [(.t 17), (.t 19)]⟩,
  ⟨(some 21), none, .build [(.str []), (.int .i64 0), (.str []), (.sl .clip [])] [(0, 1, (.t 16)), (1, 3, (.t 20))]⟩,
  ⟨(some 22), none, .bslice [(.str []), (.int .i64 0), (.str []), (.sl .clip [])] 1 [(0, (.t 21))]⟩,
  ⟨(some 23), none, .append 4 (.t 14) (.t 22)⟩,
  ⟨(some 5), none, .mov (.t 23)⟩])))
 (.reg [⟨(some 24), none, .bin .add (.t 10) (.c (.int .i64 1))⟩,
  ⟨(some 10), none, .mov (.t 24)⟩])))))))
 (.seq (.reg [⟨(some 25), none, .mov (.t 5)⟩,
  ⟨(some 4), none, .mov (.t 25)⟩])
 .ret)))),
  [.t 4], false, true, 26⟩
theorem co38 : compF Tryd.prog ⟨[], [(3, [5, 8, 9, 10], [2])], [], [], [], [], 38, [], [], []⟩ false true Tryd.f38 = some ac38 := by kernel_rfl

/-- (paideia/subst.Subst).Preds -/
def ac38v1 : AF := ⟨(.seq (.reg [⟨(some 2), none, .box (.t 0) 1 false⟩,
  ⟨(some 4), none, .mov (.c (.sl .clip []))⟩])
 (.seq (.reg [⟨(some 5), none, .mov (.c (.sl .clip []))⟩])
 (.seq (.seq (.reg [⟨(some 8), none, .mov (.t 1)⟩,
  ⟨(some 9), none, .len 1 (.t 8)⟩,
  ⟨(some 10), none, .mov (.c (.int .i64 0))⟩])
 (.block 0 (.loop [5, 8, 9, 10] [2] (.seq (.reg [⟨(some 11), none, .bin .lss (.t 10) (.t 9)⟩])
 (.seq (.cond (.t 11) .skip
 (.exit 0))
 (.seq (.block 1 (.seq (.reg [⟨(some 12), none, .iaddr 4 (.t 8) (.t 10)⟩,
  ⟨(some 13), none, .load (some 4) (.t 12)⟩,
  ⟨(some 7), none, .alloc [(.str []), (.int .i64 0), (.str []), (.sl .clip [])] false⟩,
  ⟨none, none, .store 4 (.t 7) (.t 13)⟩])
 (.reg [⟨(some 14), none, .mov (.t 5)⟩,
  ⟨(some 15), none, .faddr 0 (.t 7)⟩,
  ⟨(some 16), none, .loadL none (.t 15)⟩,
  ⟨(some 17), none, .load (some 1) (.t 2)⟩,
  ⟨(some 18), none, .faddr 1 (.t 7)⟩,
  ⟨(some 19), none, .load (some 3) (.t 18)⟩,
  ⟨(some 20), none, .call 0 [] (.c (.fn 66 [])) [(.t 17), (.t 19)]⟩,
  ⟨(some 21), none, .build [(.str []), (.int .i64 0), (.str []), (.sl .clip [])] [(0, 1, (.t 16)), (1, 3, (.t 20))]⟩,
  ⟨(some 22), none, .bslice [(.str []), (.int .i64 0), (.str []), (.sl .clip [])] 1 [(0, (.t 21))]⟩,
  ⟨(some 23), none, .appV 4 (.t 14) (.t 22)⟩,
  ⟨(some 5), none, .mov (.t 23)⟩])))
 (.reg [⟨(some 24), none, .bin .add (.t 10) (.c (.int .i64 1))⟩,
  ⟨(some 10), none, .mov (.t 24)⟩])))))))
 (.seq (.reg [⟨(some 25), none, .mov (.t 5)⟩,
  ⟨(some 4), none, .mov (.t 25)⟩])
 .ret)))),
  [.t 4], false, false, 26⟩
theorem co38v1 : compF Tryd.prog ⟨[], [(3, [5, 8, 9, 10], [2])], [], [], [], [2000023], 38, [], [], []⟩ false false Tryd.f38 = some ac38v1 := by kernel_rfl

/-- slices.SortStableFunc[[]paideia/api.Pred,paideia/api.Pred] -/
def ac39 : AF := ⟨(.reg [⟨(some 4), none, .mov (.t 0)⟩,
  ⟨(some 5), none, .mov (.t 0)⟩,
  ⟨(some 6), none, .len 1 (.t 5)⟩,
  ⟨(some 7), none, .mov (.t 1)⟩,
  ⟨(some 8), none, .call 0 [] (.c (.fn 67 [])) [(.t 4), (.t 6), (.t 7)]⟩]),
  [], false, false, 9⟩
theorem co39 : compF Tryd.prog ⟨[], [], [], [], [], [], 39, [], [], []⟩ false false Tryd.f39 = some ac39 := by kernel_rfl

/-- paideia/scheme.compare -/
def ac40 : AF := ⟨(.seq (.reg [⟨(some 2), none, .box (.t 0) 4 false⟩,
  ⟨(some 3), none, .box (.t 1) 4 false⟩,
  ⟨(some 4), none, .mov (.c (.int .i64 0))⟩])
 (.seq (.reg [⟨(some 5), none, .faddr 0 (.t 2)⟩,
  ⟨(some 6), none, .load none (.t 5)⟩,
  ⟨(some 7), none, .faddr 0 (.t 3)⟩,
  ⟨(some 8), none, .load none (.t 7)⟩,
  ⟨(some 9), none, .call 0 [] (.c (.fn 69 [])) [(.t 6), (.t 8)]⟩,
  ⟨(some 10), none, .faddr 1 (.t 2)⟩,
  ⟨(some 11), none, .loadL (some 3) (.t 10)⟩,
  ⟨(some 12), none, .faddr 1 (.t 3)⟩,
  ⟨(some 13), none, .loadL (some 3) (.t 12)⟩,
  ⟨(some 14), none, .call 0 [] (.c (.fn 70 [])) [(.t 11), (.t 13)]⟩,
  ⟨(some 15), none, .bslice [(.int .i64 0)] 2 [(0, (.t 9)), (1, (.t 14))]⟩,
  ⟨(some 16), none, .call 0 [] (.c (.fn 68 [])) [(.t 15)]⟩,
  ⟨(some 4), none, .mov (.t 16)⟩])
 .ret)),
  [.t 4], false, true, 17⟩
theorem co40 : compF Tryd.prog ⟨[], [], [], [], [], [], 40, [], [], []⟩ false true Tryd.f40 = some ac40 := by kernel_rfl

/-- slices.Clip[[]paideia/api.Pred,paideia/api.Pred] -/
def ac41 : AF := ⟨(.seq (.reg [⟨(some 2), none, .mov (.c (.sl .clip []))⟩])
 (.seq (.reg [⟨(some 3), none, .mov (.t 0)⟩,
  ⟨(some 4), none, .mov (.t 0)⟩,
  ⟨(some 5), none, .len 1 (.t 4)⟩,
  ⟨(some 6), none, .mov (.t 0)⟩,
  ⟨(some 7), none, .len 1 (.t 6)⟩,
  ⟨(some 8), none, .slice 4 (.t 3) none (some (.t 5)) (some (.t 7))⟩,
  ⟨(some 2), none, .mov (.t 8)⟩])
 .ret)),
  [.t 2], true, false, 9⟩
theorem co41 : compF Tryd.prog ⟨[], [], [], [], [], [], 41, [], [], []⟩ true false Tryd.f41 = some ac41 := by kernel_rfl

/-- slices.CompactFunc[[]paideia/api.Pred,paideia/api.Pred] -/
def ac42 : AF := ⟨(.seq (.reg [⟨(some 4), none, .mov (.c (.sl .clip []))⟩])
 (.seq (.seq (.reg [⟨(some 8), none, .mov (.t 0)⟩,
  ⟨(some 9), none, .len 1 (.t 8)⟩,
  ⟨(some 10), none, .bin .lss (.t 9) (.c (.int .i64 2))⟩])
 (.cond (.t 10) (.seq (.reg [⟨(some 11), none, .mov (.t 0)⟩,
  ⟨(some 4), none, .mov (.t 11)⟩])
 .ret)
 .skip))
 (.seq (.seq (.reg [⟨(some 5), none, .mov (.c (.int .i64 1))⟩])
 (.block 0 (.loop [0, 1, 5] [] (.seq (.seq (.reg [⟨(some 12), none, .mov (.t 5)⟩,
  ⟨(some 13), none, .mov (.t 0)⟩,
  ⟨(some 14), none, .len 1 (.t 13)⟩,
  ⟨(some 15), none, .bin .lss (.t 12) (.t 14)⟩])
 (.cond (.t 15) .skip
 (.exit 0)))
 (.seq (.block 1 (.seq (.reg [⟨(some 18), none, .mov (.t 1)⟩,
  ⟨(some 19), none, .mov (.t 0)⟩,
  ⟨(some 20), none, .mov (.t 5)⟩,
  ⟨(some 21), none, .iaddr 4 (.t 19) (.t 20)⟩,
  ⟨(some 22), none, .load (some 4) (.t 21)⟩,
  ⟨(some 23), none, .mov (.t 0)⟩,
  ⟨(some 24), none, .mov (.t 5)⟩,
  ⟨(some 25), none, .bin .sub (.t 24) (.c (.int .i64 1))⟩,
  ⟨(some 26), none, .iaddr 4 (.t 23) (.t 25)⟩,
  ⟨(some 27), none, .load (some 4) (.t 26)⟩,
  ⟨(some 28), none, .call 0 [] (.t 18) [(.t 22), (.t 27)]⟩])
 (.cond (.t 28) (.seq (.reg [⟨(some 29), none, .mov (.t 0)⟩,
  ⟨(some 30), none, .mov (.t 5)⟩,
  ⟨(some 31), none, .slice 4 (.t 29) (some (.t 30)) none none⟩,
  ⟨(some 6), none, .mov (.t 31)⟩])
 (.seq (.seq (.reg [⟨(some 7), none, .mov (.c (.int .i64 1))⟩])
 (.block 2 (.loop [0, 1, 5, 6, 7] [] (.seq (.seq (.reg [⟨(some 32), none, .mov (.t 7)⟩,
  ⟨(some 33), none, .mov (.t 6)⟩,
  ⟨(some 34), none, .len 1 (.t 33)⟩,
  ⟨(some 35), none, .bin .lss (.t 32) (.t 34)⟩])
 (.cond (.t 35) .skip
 (.exit 2)))
 (.seq (.block 3 (.seq (.reg [⟨(some 38), none, .mov (.t 1)⟩,
  ⟨(some 39), none, .mov (.t 6)⟩,
  ⟨(some 40), none, .mov (.t 7)⟩,
  ⟨(some 41), none, .iaddr 4 (.t 39) (.t 40)⟩,
  ⟨(some 42), none, .load (some 4) (.t 41)⟩,
  ⟨(some 43), none, .mov (.t 6)⟩,
  ⟨(some 44), none, .mov (.t 7)⟩,
  ⟨(some 45), none, .bin .sub (.t 44) (.c (.int .i64 1))⟩,
  ⟨(some 46), none, .iaddr 4 (.t 43) (.t 45)⟩,
  ⟨(some 47), none, .load (some 4) (.t 46)⟩,
  ⟨(some 48), none, .call 0 [] (.t 38) [(.t 42), (.t 47)]⟩,
  ⟨(some 49), none, .not (.t 48)⟩])
 (.cond (.t 49) (.seq (.reg [⟨(some 50), none, .mov (.t 0)⟩,
  ⟨(some 51), none, .mov (.t 5)⟩,
  ⟨(some 52), none, .mov (.t 6)⟩,
  ⟨(some 53), none, .mov (.t 7)⟩,
  ⟨(some 54), none, .iaddr 4 (.t 52) (.t 53)⟩,
  ⟨(some 55), none, .load (some 4) (.t 54)⟩,
  ⟨(some 56), none, .iaddr 4 (.t 50) (.t 51)⟩,
  ⟨none, none, .store 4 (.t 56) (.t 55)⟩])
 (.reg [⟨(some 57), none, .mov (.t 5)⟩,
  ⟨(some 58), none, .bin .add (.t 57) (.c (.int .i64 1))⟩,
  ⟨(some 5), none, .mov (.t 58)⟩]))
 .skip)))
 (.reg [⟨(some 36), none, .mov (.t 7)⟩,
  ⟨(some 37), none, .bin .add (.t 36) (.c (.int .i64 1))⟩,
  ⟨(some 7), none, .mov (.t 37)⟩]))))))
 (.seq (.reg [⟨(some 59), none, .mov (.t 0)⟩,
  ⟨(some 60), none, .mov (.t 5)⟩,
  ⟨(some 61), none, .slice 4 (.t 59) (some (.t 60)) none none⟩,
  ⟨none, none, .clearM [(.str []), (.int .i64 0), (.str []), (.sl .clip [])] (.t 61)⟩])
 (.seq (.reg [⟨(some 62), none, .mov (.t 0)⟩,
  ⟨(some 63), none, .mov (.t 5)⟩,
  ⟨(some 64), none, .slice 4 (.t 62) none (some (.t 63)) none⟩,
  ⟨(some 4), none, .mov (.t 64)⟩])
 .ret))))
 .skip)))
 (.reg [⟨(some 16), none, .mov (.t 5)⟩,
  ⟨(some 17), none, .bin .add (.t 16) (.c (.int .i64 1))⟩,
  ⟨(some 5), none, .mov (.t 17)⟩]))))))
 (.seq (.reg [⟨(some 65), none, .mov (.t 0)⟩,
  ⟨(some 4), none, .mov (.t 65)⟩])
 .ret)))),
  [.t 4], true, false, 66⟩
theorem co42 : compF Tryd.prog ⟨[], [(4, [0, 1, 5], []), (9, [0, 1, 5, 6, 7], [])], [], [], [], [], 42, [], [], []⟩ true false Tryd.f42 = some ac42 := by kernel_rfl

/-- paideia/scheme.SortPreds$1 -/
def ac43 : AF := ⟨(.seq (.reg [⟨(some 2), none, .box (.t 0) 4 false⟩,
  ⟨(some 3), none, .box (.t 1) 4 false⟩,
  ⟨(some 4), none, .mov (.c (.bool false))⟩])
 (.seq (.reg [⟨(some 5), none, .load (some 4) (.t 2)⟩,
  ⟨(some 6), none, .load (some 4) (.t 3)⟩,
  ⟨(some 7), none, .call 0 [] (.c (.fn 40 [])) [(.t 5), (.t 6)]⟩,
  ⟨(some 8), none, .bin .eql (.t 7) (.c (.int .i64 0))⟩,
  ⟨(some 4), none, .mov (.t 8)⟩])
 .ret)),
  [.t 4], false, true, 9⟩
theorem co43 : compF Tryd.prog ⟨[], [], [], [], [], [], 43, [], [], []⟩ false true Tryd.f43 = some ac43 := by kernel_rfl

/-- paideia/paideiaref.SameType -/
def ac44 : AF := ⟨(.seq (.reg [⟨(some 2), none, .box (.t 0) 3 false⟩,
  ⟨(some 3), none, .box (.t 1) 3 false⟩,
  ⟨(some 4), none, .mov (.c (.bool false))⟩])
 (.seq (.reg [⟨(some 5), none, .faddr 0 (.t 2)⟩,
  ⟨(some 6), none, .load none (.t 5)⟩,
  ⟨(some 7), none, .faddr 0 (.t 3)⟩,
  ⟨(some 8), none, .load none (.t 7)⟩,
  ⟨(some 9), none, .bin .eql (.t 6) (.t 8)⟩,
  ⟨(some 10), none, .mov (.t 9)⟩,
  ⟨(some 11), (some (10, true)), .faddr 1 (.t 2)⟩,
  ⟨(some 12), (some (10, true)), .load none (.t 11)⟩,
  ⟨(some 13), (some (10, true)), .faddr 1 (.t 3)⟩,
  ⟨(some 14), (some (10, true)), .load none (.t 13)⟩,
  ⟨(some 15), (some (10, true)), .bin .eql (.t 12) (.t 14)⟩,
  ⟨(some 16), none, .pick (.t 10) (.t 15) (.c (.bool false))⟩,
  ⟨(some 17), none, .mov (.t 16)⟩,
  ⟨(some 18), (some (17, true)), .faddr 2 (.t 2)⟩,
  ⟨(some 19), (some (17, true)), .load none (.t 18)⟩,
  ⟨(some 20), (some (17, true)), .faddr 2 (.t 3)⟩,
  ⟨(some 21), (some (17, true)), .load none (.t 20)⟩,
  ⟨(some 22), (some (17, true)), .call 0 [] (.c (.fn 71 [])) [(.t 19), (.t 21)]⟩,
  ⟨(some 23), none, .pick (.t 17) (.t 22) (.c (.bool false))⟩,
  ⟨(some 4), none, .mov (.t 23)⟩])
 .ret)),
  [.t 4], false, true, 24⟩
theorem co44 : compF Tryd.prog ⟨[], [], [], [], [], [], 44, [], [], []⟩ false true Tryd.f44 = some ac44 := by kernel_rfl

/-- paideia/paideiaref4.sign -/
def ac45 : AF := ⟨(.seq (.reg [⟨(some 4), none, .mov (.c (.int .i64 0))⟩])
 (.seq (.block 0 (.seq (.reg [⟨(some 6), none, .mov (.t 0)⟩,
  ⟨(some 7), none, .mov (.t 1)⟩,
  ⟨(some 8), none, .bin .lss (.t 6) (.t 7)⟩,
  ⟨(some 5), none, .mov (.t 8)⟩])
 (.cond (.t 5) (.seq (.reg [⟨(some 4), none, .mov (.c (.int .i64 (-1)))⟩])
 .ret)
 (.seq (.reg [⟨(some 10), none, .mov (.t 0)⟩,
  ⟨(some 11), none, .mov (.t 1)⟩,
  ⟨(some 12), none, .bin .gtr (.t 10) (.t 11)⟩,
  ⟨(some 9), none, .mov (.t 12)⟩])
 (.cond (.t 9) (.seq (.reg [⟨(some 4), none, .mov (.c (.int .i64 1))⟩])
 .ret)
 .skip)))))
 (.seq (.reg [⟨(some 4), none, .mov (.c (.int .i64 0))⟩])
 .ret))),
  [.t 4], false, true, 13⟩
theorem co45 : compF Tryd.prog ⟨[], [], [], [], [], [], 45, [], [], []⟩ false true Tryd.f45 = some ac45 := by kernel_rfl

/-- paideia/paideiaref4.Con -/
def ac46 : AF := ⟨(.seq (.reg [⟨(some 4), none, .alloc [(.int .i64 0), (.str []), (.sl .clip [])] false⟩])
 (.seq (.reg [⟨(some 5), none, .mov (.t 0)⟩,
  ⟨(some 6), none, .mov (.t 1)⟩,
  ⟨(some 7), none, .build [(.int .i64 0), (.str []), (.sl .clip [])] [(0, 1, (.c (.int .i64 2))), (1, 1, (.t 5)), (2, 1, (.t 6))]⟩,
  ⟨none, none, .store 3 (.t 4) (.t 7)⟩])
 .ret)),
  [.cell 4 (some 3)], false, true, 8⟩
theorem co46 : compF Tryd.prog ⟨[], [], [], [], [], [], 46, [], [], []⟩ false true Tryd.f46 = some ac46 := by kernel_rfl

/-- paideia/paideiaref4.Fun2 -/
def ac47 : AF := ⟨(.seq (.reg [⟨(some 2), none, .box (.t 0) 3 false⟩,
  ⟨(some 3), none, .box (.t 1) 3 false⟩,
  ⟨(some 4), none, .alloc [(.int .i64 0), (.str []), (.sl .clip [])] false⟩])
 (.seq (.reg [⟨(some 5), none, .load (some 3) (.t 2)⟩,
  ⟨(some 6), none, .load (some 3) (.t 3)⟩,
  ⟨(some 7), none, .bslice [(.int .i64 0), (.str []), (.sl .clip [])] 2 [(0, (.t 5)), (1, (.t 6))]⟩,
  ⟨(some 8), none, .build [(.int .i64 0), (.str []), (.sl .clip [])] [(0, 1, (.c (.int .i64 3))), (2, 1, (.t 7))]⟩,
  ⟨none, none, .store 3 (.t 4) (.t 8)⟩])
 .ret)),
  [.cell 4 (some 3)], false, true, 9⟩
theorem co47 : compF Tryd.prog ⟨[], [], [], [], [], [], 47, [], [], []⟩ false true Tryd.f47 = some ac47 := by kernel_rfl

/-- paideia/scheme.without -/
def ac48 : AF := ⟨(.seq (.reg [⟨(some 3), none, .box (.t 1) 1 true⟩,
  ⟨(some 4), none, .mov (.c (.sl .clip []))⟩])
 (.seq (.reg [⟨(some 5), none, .mov (.t 0)⟩,
  ⟨(some 6), none, .mkfn 73 [(.t 3)]⟩,
  ⟨(some 7), none, .call 0 [] (.c (.fn 72 [])) [(.t 5), (.t 6)]⟩,
  ⟨(some 4), none, .mov (.t 7)⟩])
 .ret)),
  [.t 4], true, false, 8⟩
theorem co48 : compF Tryd.prog ⟨[3], [], [], [], [], [], 48, [], [], []⟩ true false Tryd.f48 = some ac48 := by kernel_rfl

/-- paideia/scheme.Stands -/
def ac49 : AF := ⟨(.seq (.reg [⟨(some 3), none, .box (.t 1) 3 false⟩,
  ⟨(some 4), none, .mov (.c (.sl .clip []))⟩])
 (.seq (.reg [⟨(some 8), none, .load (some 3) (.t 3)⟩,
  ⟨(some 9), none, .bslice [(.int .i64 0), (.str []), (.sl .clip [])] 1 [(0, (.t 8))]⟩,
  ⟨(some 5), none, .mov (.t 9)⟩])
 (.seq (.seq (.reg [⟨(some 10), none, .mov (.t 0)⟩,
  ⟨(some 11), none, .len 1 (.t 10)⟩,
  ⟨(some 12), none, .mov (.c (.int .i64 0))⟩])
 (.block 0 (.loop [5, 10, 11, 12] [] (.seq (.reg [⟨(some 13), none, .bin .lss (.t 12) (.t 11)⟩])
 (.seq (.cond (.t 13) .skip
 (.exit 0))
 (.seq (.block 1 (.seq (.reg [⟨(some 14), none, .iaddr 4 (.t 10) (.t 12)⟩,
  ⟨(some 15), none, .load (some 4) (.t 14)⟩,
  ⟨(some 7), none, .alloc [(.str []), (.int .i64 0), (.str []), (.sl .clip [])] false⟩,
  ⟨none, none, .store 4 (.t 7) (.t 15)⟩])
 (.reg [⟨(some 16), none, .mov (.t 5)⟩,
  ⟨(some 17), none, .faddr 1 (.t 7)⟩,
  ⟨(some 18), none, .load (some 3) (.t 17)⟩,
  ⟨(some 19), none, .bslice [(.int .i64 0), (.str []), (.sl .clip [])] 1 [(0, (.t 18))]⟩,
  ⟨(some 20), none, .append 3 (.t 16) (.t 19)⟩,
  ⟨(some 5), none, .mov (.t 20)⟩])))
 (.reg [⟨(some 21), none, .bin .add (.t 12) (.c (.int .i64 1))⟩,
  ⟨(some 12), none, .mov (.t 21)⟩])))))))
 (.seq (.reg [⟨(some 22), none, .mov (.t 5)⟩,
  ⟨(some 23), none, .call 0 [] (.c (.fn 74 [])) [(.t 22)]⟩,
  ⟨(some 4), none, .mov (.t 23)⟩])
 .ret)))),
  [.t 4], true, false, 24⟩
theorem co49 : compF Tryd.prog ⟨[], [(3, [5, 10, 11, 12], [])], [], [], [], [], 49, [], [], []⟩ true false Tryd.f49 = some ac49 := by kernel_rfl

/-- paideia/types.Clone -/
def ac50 : AF := ⟨(.seq (.reg [⟨(some 1), none, .box (.t 0) 3 false⟩,
  ⟨(some 2), none, .alloc [(.int .i64 0), (.str []), (.sl .clip [])] false⟩])
 (.seq (.reg [⟨(some 6), none, .faddr 0 (.t 1)⟩,
  ⟨(some 7), none, .load none (.t 6)⟩,
  ⟨(some 8), none, .faddr 1 (.t 1)⟩,
  ⟨(some 9), none, .load none (.t 8)⟩,
  ⟨(some 10), none, .build [(.int .i64 0), (.str []), (.sl .clip [])] [(0, 1, (.t 7)), (1, 1, (.t 9))]⟩,
  ⟨(some 3), none, .alloc [(.int .i64 0), (.str []), (.sl .clip [])] false⟩,
  ⟨none, none, .store 3 (.t 3) (.t 10)⟩])
 (.seq (.seq (.reg [⟨(some 11), none, .faddr 2 (.t 1)⟩,
  ⟨(some 12), none, .load none (.t 11)⟩,
  ⟨(some 13), none, .len 1 (.t 12)⟩,
  ⟨(some 14), none, .mov (.c (.int .i64 0))⟩])
 (.block 0 (.loop [12, 13, 14] [2, 3] (.seq (.reg [⟨(some 15), none, .bin .lss (.t 14) (.t 13)⟩])
 (.seq (.cond (.t 15) .skip
 (.exit 0))
 (.seq (.block 1 (.seq (.reg [⟨(some 16), none, .iaddr 3 (.t 12) (.t 14)⟩,
  ⟨(some 17), none, .load (some 3) (.t 16)⟩,
  ⟨(some 5), none, .alloc [(.int .i64 0), (.str []), (.sl .clip [])] false⟩,
  ⟨none, none, .store 3 (.t 5) (.t 17)⟩])
 (.reg [⟨(some 18), none, .faddr 2 (.t 3)⟩,
  ⟨(some 19), none, .loadL none (.t 18)⟩,
  ⟨(some 20), none, .load (some 3) (.t 5)⟩,
  ⟨(some 21), none, .call 0 [] (.c (.fn 50 [])) [(.t 20)]⟩,
  ⟨(some 22), none, .bslice [(.int .i64 0), (.str []), (.sl .clip [])] 1 [(0, (.t 21))]⟩,
  ⟨(some 23), none, .append 3 (.t 19) (.t 22)⟩,
  ⟨(some 24), none, .faddr 2 (.t 3)⟩,
  ⟨none, none, .store 1 (.t 24) (.t 23)⟩])))
 (.reg [⟨(some 25), none, .bin .add (.t 14) (.c (.int .i64 1))⟩,
  ⟨(some 14), none, .mov (.t 25)⟩])))))))
 (.seq (.reg [⟨(some 26), none, .load (some 3) (.t 3)⟩,
  ⟨none, none, .store 3 (.t 2) (.t 26)⟩])
 .ret)))),
  [.cell 2 (some 3)], false, true, 27⟩
theorem co50 : compF Tryd.prog ⟨[], [(3, [12, 13, 14], [2, 3])], [], [], [], [], 50, [], [], []⟩ false true Tryd.f50 = some ac50 := by kernel_rfl

/-- paideia/scheme.Order -/
def ac51 : AF := ⟨(.seq (.reg [⟨(some 1), none, .box (.t 0) 5 true⟩,
  ⟨(some 2), none, .mov (.c (.sl .clip []))⟩])
 (.seq (.reg [⟨(some 3), none, .faddr 1 (.t 1)⟩,
  ⟨(some 4), none, .load none (.t 3)⟩,
  ⟨(some 5), none, .callK 0 [] (.c (.fn 9 [])) [(.t 4)] [(.t 1)]⟩,
  ⟨(some 6), none, .faddr 2 (.t 1)⟩,
  ⟨(some 7), none, .loadX false (some 3) (.t 6) [] [(.t 1)]⟩,
  ⟨(some 8), none, .call 0 [] (.c (.fn 49 [])) [(.t 5), (.t 7)]⟩,
  ⟨(some 9), none, .mkfn 75 [(.t 1)]⟩,
  ⟨(some 10), none, .call 0 [] (.c (.fn 72 [])) [(.t 8), (.t 9)]⟩,
  ⟨(some 2), none, .mov (.t 10)⟩])
 .ret)),
  [.t 2], false, true, 11⟩
theorem co51 : compF Tryd.prog ⟨[1], [], [], [], [], [], 51, [], [], []⟩ false true Tryd.f51 = some ac51 := by kernel_rfl

/-- slices.Contains[[]string,string] -/
def ac52 : AF := ⟨(.seq (.reg [⟨(some 4), none, .mov (.c (.bool false))⟩])
 (.seq (.reg [⟨(some 5), none, .mov (.t 0)⟩,
  ⟨(some 6), none, .mov (.t 1)⟩,
  ⟨(some 7), none, .call 0 [] (.c (.fn 76 [])) [(.t 5), (.t 6)]⟩,
  ⟨(some 8), none, .bin .geq (.t 7) (.c (.int .i64 0))⟩,
  ⟨(some 4), none, .mov (.t 8)⟩])
 .ret)),
  [.t 4], false, false, 9⟩
theorem co52 : compF Tryd.prog ⟨[], [], [], [], [], [], 52, [], [], []⟩ false false Tryd.f52 = some ac52 := by kernel_rfl

/-- paideia/scheme.renamed -/
def ac53 : AF := ⟨(.seq (.reg [⟨(some 3), none, .box (.t 0) 5 false⟩,
  ⟨(some 6), none, .alloc [(.sl .clip []), (.sl .clip []), (.int .i64 0), (.str []), (.sl .clip [])] false⟩])
 (.seq (.reg [⟨(some 7), none, .mov (.c (.sl .clip []))⟩])
 (.seq (.seq (.reg [⟨(some 11), none, .mov (.t 1)⟩,
  ⟨(some 12), none, .len 1 (.t 11)⟩,
  ⟨(some 13), none, .mov (.c (.int .i64 0))⟩])
 (.block 0 (.loop [2, 7, 11, 12, 13] [3, 6] (.seq (.reg [⟨(some 14), none, .bin .lss (.t 13) (.t 12)⟩])
 (.seq (.cond (.t 14) .skip
 (.exit 0))
 (.seq (.block 1 (.seq (.reg [⟨(some 15), none, .mov (.t 13)⟩,
  ⟨(some 16), none, .iaddr 1 (.t 11) (.t 13)⟩,
  ⟨(some 17), none, .load none (.t 16)⟩,
  ⟨(some 8), none, .mov (.t 15)⟩,
  ⟨(some 9), none, .mov (.t 17)⟩])
 (.reg [⟨(some 18), none, .mov (.t 7)⟩,
  ⟨(some 19), none, .mov (.t 9)⟩,
  ⟨(some 20), none, .mov (.t 2)⟩,
  ⟨(some 21), none, .mov (.t 8)⟩,
  ⟨(some 22), none, .iaddr 1 (.t 20) (.t 21)⟩,
  ⟨(some 23), none, .load none (.t 22)⟩,
  ⟨(some 24), none, .call 0 [] (.c (.fn 77 [])) [(.t 23)]⟩,
  ⟨(some 25), none, .build [(.str []), (.int .i64 0), (.str []), (.sl .clip [])] [(0, 1, (.t 19)), (1, 3, (.t 24))]⟩,
  ⟨(some 26), none, .bslice [(.str []), (.int .i64 0), (.str []), (.sl .clip [])] 1 [(0, (.t 25))]⟩,
  ⟨(some 27), none, .append 4 (.t 18) (.t 26)⟩,
  ⟨(some 7), none, .mov (.t 27)⟩])))
 (.reg [⟨(some 28), none, .bin .add (.t 13) (.c (.int .i64 1))⟩,
  ⟨(some 13), none, .mov (.t 28)⟩])))))))
 (.seq (.reg [⟨(some 29), none, .mov (.t 7)⟩,
  ⟨(some 30), none, .call 0 [] (.c (.fn 78 [])) [(.t 29)]⟩,
  ⟨(some 10), none, .alloc [(.map none)] false⟩,
  ⟨none, none, .store 1 (.t 10) (.t 30)⟩])
 (.seq (.reg [⟨(some 31), none, .mov (.t 2)⟩,
  ⟨(some 32), none, .call 0 [] (.c (.fn 79 [])) [(.t 31)]⟩,
  ⟨(some 33), none, .loadL (some 1) (.t 10)⟩,
  ⟨(some 34), none, .faddr 1 (.t 3)⟩,
  ⟨(some 35), none, .loadL none (.t 34)⟩,
  ⟨(some 36), none, .call 0 [] (.c (.fn 38 [])) [(.t 33), (.t 35)]⟩,
  ⟨(some 37), none, .loadL (some 1) (.t 10)⟩,
  ⟨(some 38), none, .faddr 2 (.t 3)⟩,
  ⟨(some 39), none, .loadL (some 3) (.t 38)⟩,
  ⟨(some 40), none, .call 0 [] (.c (.fn 66 [])) [(.t 37), (.t 39)]⟩,
  ⟨(some 41), none, .build [(.sl .clip []), (.sl .clip []), (.int .i64 0), (.str []), (.sl .clip [])] [(0, 1, (.t 32)), (1, 1, (.t 36)), (2, 3, (.t 40))]⟩,
  ⟨none, none, .store 5 (.t 6) (.t 41)⟩])
 .ret))))),
  [.cell 6 (some 5)], false, true, 42⟩
theorem co53 : compF Tryd.prog ⟨[], [(3, [2, 7, 11, 12, 13], [3, 6])], [], [], [], [], 53, [], [], []⟩ false true Tryd.f53 = some ac53 := by kernel_rfl

/-- paideia/paideiaref.Place -/
def ac54 : AF := ⟨(.seq (.reg [⟨(some 4), none, .mov (.c (.int .i64 0))⟩])
 (.seq (.seq (.reg [⟨(some 5), none, .mov (.c (.int .i64 0))⟩])
 (.block 0 (.loop [0, 1, 5] [] (.seq (.seq (.reg [⟨(some 6), none, .mov (.t 5)⟩,
  ⟨(some 7), none, .mov (.t 0)⟩,
  ⟨(some 8), none, .len 1 (.t 7)⟩,
  ⟨(some 9), none, .bin .lss (.t 6) (.t 8)⟩])
 (.cond (.t 9) .skip
 (.exit 0)))
 (.seq (.block 1 (.seq (.reg [⟨(some 12), none, .mov (.t 0)⟩,
  ⟨(some 13), none, .mov (.t 5)⟩,
  ⟨(some 14), none, .iaddr 1 (.t 12) (.t 13)⟩,
  ⟨(some 15), none, .load none (.t 14)⟩,
  ⟨(some 16), none, .mov (.t 1)⟩,
  ⟨(some 17), none, .bin .eql (.t 15) (.t 16)⟩])
 (.cond (.t 17) (.seq (.reg [⟨(some 18), none, .mov (.t 5)⟩,
  ⟨(some 4), none, .mov (.t 18)⟩])
 .ret)
 .skip)))
 (.reg [⟨(some 10), none, .mov (.t 5)⟩,
  ⟨(some 11), none, .bin .add (.t 10) (.c (.int .i64 1))⟩,
  ⟨(some 5), none, .mov (.t 11)⟩]))))))
 (.seq (.reg [⟨(some 4), none, .mov (.c (.int .i64 (-1)))⟩])
 .ret))),
  [.t 4], false, true, 19⟩
theorem co54 : compF Tryd.prog ⟨[], [(2, [0, 1, 5], [])], [], [], [], [], 54, [], [], []⟩ false true Tryd.f54 = some ac54 := by kernel_rfl

/-- paideia/paideiaref4.vars -/
def ac55 : AF := ⟨(.seq (.reg [⟨(some 5), none, .box (.t 2) 3 false⟩,
  ⟨(some 6), none, .mov (.c (.sl .clip []))⟩])
 (.seq (.seq (.reg [⟨(some 8), none, .faddr 0 (.t 5)⟩,
  ⟨(some 9), none, .load none (.t 8)⟩])
 (.block 0 (.seq (.reg [⟨(some 11), none, .bin .eql (.t 9) (.c (.int .i64 1))⟩,
  ⟨(some 10), none, .mov (.t 11)⟩])
 (.cond (.t 10) (.seq (.seq (.reg [⟨(some 12), none, .mov (.t 0)⟩,
  ⟨(some 13), none, .faddr 1 (.t 5)⟩,
  ⟨(some 14), none, .load none (.t 13)⟩,
  ⟨(some 15), none, .call 0 [] (.c (.fn 17 [])) [(.t 12), (.t 14)]⟩,
  ⟨(some 16), none, .not (.t 15)⟩,
  ⟨(some 17), none, .mov (.t 16)⟩,
  ⟨(some 18), (some (17, true)), .mov (.t 1)⟩,
  ⟨(some 19), (some (17, true)), .faddr 1 (.t 5)⟩,
  ⟨(some 20), (some (17, true)), .load none (.t 19)⟩,
  ⟨(some 21), (some (17, true)), .call 0 [] (.c (.fn 17 [])) [(.t 18), (.t 20)]⟩,
  ⟨(some 22), (some (17, true)), .not (.t 21)⟩,
  ⟨(some 23), none, .pick (.t 17) (.t 22) (.c (.bool false))⟩])
 (.cond (.t 23) (.reg [⟨(some 24), none, .mov (.t 0)⟩,
  ⟨(some 25), none, .call 0 [] (.c (.fn 80 [])) [(.t 24)]⟩,
  ⟨(some 26), none, .faddr 1 (.t 5)⟩,
  ⟨(some 27), none, .loadL none (.t 26)⟩,
  ⟨(some 28), none, .bslice [(.str [])] 1 [(0, (.t 27))]⟩,
  ⟨(some 29), none, .append 1 (.t 25) (.t 28)⟩,
  ⟨(some 0), none, .mov (.t 29)⟩])
 .skip))
 (.seq (.reg [⟨(some 30), none, .mov (.t 0)⟩,
  ⟨(some 6), none, .mov (.t 30)⟩])
 .ret))
 (.seq (.reg [⟨(some 32), none, .bin .eql (.t 9) (.c (.int .i64 4))⟩,
  ⟨(some 31), none, .mov (.t 32)⟩])
 (.cond (.t 31) (.reg [⟨(some 33), none, .mov (.t 1)⟩,
  ⟨(some 34), none, .call 0 [] (.c (.fn 80 [])) [(.t 33)]⟩,
  ⟨(some 35), none, .faddr 1 (.t 5)⟩,
  ⟨(some 36), none, .loadL none (.t 35)⟩,
  ⟨(some 37), none, .bslice [(.str [])] 1 [(0, (.t 36))]⟩,
  ⟨(some 38), none, .append 1 (.t 34) (.t 37)⟩,
  ⟨(some 1), none, .mov (.t 38)⟩])
 .skip))))))
 (.seq (.seq (.reg [⟨(some 7), none, .mov (.c (.int .i64 0))⟩])
 (.block 1 (.loop [0, 1, 7] [5] (.seq (.seq (.reg [⟨(some 39), none, .mov (.t 7)⟩,
  ⟨(some 40), none, .faddr 2 (.t 5)⟩,
  ⟨(some 41), none, .load none (.t 40)⟩,
  ⟨(some 42), none, .len 1 (.t 41)⟩,
  ⟨(some 43), none, .bin .lss (.t 39) (.t 42)⟩])
 (.cond (.t 43) .skip
 (.exit 1)))
 (.seq (.block 2 (.reg [⟨(some 46), none, .mov (.t 0)⟩,
  ⟨(some 47), none, .mov (.t 1)⟩,
  ⟨(some 48), none, .faddr 2 (.t 5)⟩,
  ⟨(some 49), none, .load none (.t 48)⟩,
  ⟨(some 50), none, .mov (.t 7)⟩,
  ⟨(some 51), none, .iaddr 3 (.t 49) (.t 50)⟩,
  ⟨(some 52), none, .load (some 3) (.t 51)⟩,
  ⟨(some 53), none, .call 0 [] (.c (.fn 55 [])) [(.t 46), (.t 47), (.t 52)]⟩,
  ⟨(some 0), none, .mov (.t 53)⟩]))
 (.reg [⟨(some 44), none, .mov (.t 7)⟩,
  ⟨(some 45), none, .bin .add (.t 44) (.c (.int .i64 1))⟩,
  ⟨(some 7), none, .mov (.t 45)⟩]))))))
 (.seq (.reg [⟨(some 54), none, .mov (.t 0)⟩,
  ⟨(some 6), none, .mov (.t 54)⟩])
 .ret)))),
  [.t 6], false, true, 55⟩
theorem co55 : compF Tryd.prog ⟨[], [(9, [0, 1, 7], [5])], [], [], [], [], 55, [], [], []⟩ false true Tryd.f55 = some ac55 := by kernel_rfl

/-- paideia/paideiaref4.all -/
def ac56 : AF := ⟨(.seq (.reg [⟨(some 2), none, .box (.t 0) 3 false⟩,
  ⟨(some 4), none, .mov (.c (.sl .clip []))⟩])
 (.seq (.reg [⟨(some 7), none, .load (some 3) (.t 2)⟩,
  ⟨(some 8), none, .bslice [(.int .i64 0), (.str []), (.sl .clip [])] 1 [(0, (.t 7))]⟩,
  ⟨(some 5), none, .mov (.t 8)⟩])
 (.seq (.seq (.reg [⟨(some 6), none, .mov (.c (.int .i64 0))⟩])
 (.block 0 (.loop [1, 5, 6] [] (.seq (.seq (.reg [⟨(some 9), none, .mov (.t 6)⟩,
  ⟨(some 10), none, .mov (.t 1)⟩,
  ⟨(some 11), none, .len 1 (.t 10)⟩,
  ⟨(some 12), none, .bin .lss (.t 9) (.t 11)⟩])
 (.cond (.t 12) .skip
 (.exit 0)))
 (.seq (.block 1 (.reg [⟨(some 15), none, .mov (.t 5)⟩,
  ⟨(some 16), none, .mov (.t 1)⟩,
  ⟨(some 17), none, .mov (.t 6)⟩,
  ⟨(some 18), none, .iaddr 4 (.t 16) (.t 17)⟩,
  ⟨(some 19), none, .faddr 1 (.t 18)⟩,
  ⟨(some 20), none, .load (some 3) (.t 19)⟩,
  ⟨(some 21), none, .bslice [(.int .i64 0), (.str []), (.sl .clip [])] 1 [(0, (.t 20))]⟩,
  ⟨(some 22), none, .append 3 (.t 15) (.t 21)⟩,
  ⟨(some 5), none, .mov (.t 22)⟩]))
 (.reg [⟨(some 13), none, .mov (.t 6)⟩,
  ⟨(some 14), none, .bin .add (.t 13) (.c (.int .i64 1))⟩,
  ⟨(some 6), none, .mov (.t 14)⟩]))))))
 (.seq (.reg [⟨(some 23), none, .mov (.t 5)⟩,
  ⟨(some 4), none, .mov (.t 23)⟩])
 .ret)))),
  [.t 4], false, true, 24⟩
theorem co56 : compF Tryd.prog ⟨[], [(3, [1, 5, 6], [])], [], [], [], [], 56, [], [], []⟩ false true Tryd.f56 = some ac56 := by kernel_rfl

/-- paideia/paideiaref4.get -/
def ac57 : AF := ⟨(.seq (.reg [⟨(some 4), none, .alloc [(.int .i64 0), (.str []), (.sl .clip [])] false⟩,
  ⟨(some 5), none, .mov (.c (.bool false))⟩])
 (.seq (.seq (.reg [⟨(some 6), none, .mov (.c (.int .i64 0))⟩])
 (.block 0 (.loop [0, 1, 6] [4] (.seq (.seq (.reg [⟨(some 7), none, .mov (.t 6)⟩,
  ⟨(some 8), none, .mov (.t 0)⟩,
  ⟨(some 9), none, .len 1 (.t 8)⟩,
  ⟨(some 10), none, .bin .lss (.t 7) (.t 9)⟩])
 (.cond (.t 10) .skip
 (.exit 0)))
 (.seq (.block 1 (.seq (.reg [⟨(some 13), none, .mov (.t 0)⟩,
  ⟨(some 14), none, .mov (.t 6)⟩,
  ⟨(some 15), none, .iaddr 4 (.t 13) (.t 14)⟩,
  ⟨(some 16), none, .faddr 0 (.t 15)⟩,
  ⟨(some 17), none, .load none (.t 16)⟩,
  ⟨(some 18), none, .mov (.t 1)⟩,
  ⟨(some 19), none, .bin .eql (.t 17) (.t 18)⟩])
 (.cond (.t 19) (.seq (.reg [⟨(some 20), none, .mov (.t 0)⟩,
  ⟨(some 21), none, .mov (.t 6)⟩,
  ⟨(some 22), none, .iaddr 4 (.t 20) (.t 21)⟩,
  ⟨(some 23), none, .faddr 1 (.t 22)⟩,
  ⟨(some 24), none, .load (some 3) (.t 23)⟩,
  ⟨none, none, .store 3 (.t 4) (.t 24)⟩,
  ⟨(some 5), none, .mov (.c (.bool true))⟩])
 .ret)
 .skip)))
 (.reg [⟨(some 11), none, .mov (.t 6)⟩,
  ⟨(some 12), none, .bin .add (.t 11) (.c (.int .i64 1))⟩,
  ⟨(some 6), none, .mov (.t 12)⟩]))))))
 (.seq (.reg [⟨(some 25), none, .build [(.int .i64 0), (.str []), (.sl .clip [])] []⟩,
  ⟨none, none, .store 3 (.t 4) (.t 25)⟩,
  ⟨(some 5), none, .mov (.c (.bool false))⟩])
 .ret))),
  [.cell 4 (some 3), .t 5], false, true, 26⟩
theorem co57 : compF Tryd.prog ⟨[], [(2, [0, 1, 6], [4])], [], [], [], [], 57, [], [], []⟩ false true Tryd.f57 = some ac57 := by kernel_rfl

/-- slices.Equal[[]string,string] -/
def ac58 : AF := ⟨(.seq (.reg [⟨(some 4), none, .mov (.c (.bool false))⟩])
 (.seq (.seq (.reg [⟨(some 6), none, .mov (.t 0)⟩,
  ⟨(some 7), none, .len 1 (.t 6)⟩,
  ⟨(some 8), none, .mov (.t 1)⟩,
  ⟨(some 9), none, .len 1 (.t 8)⟩,
  ⟨(some 10), none, .bin .neq (.t 7) (.t 9)⟩])
 (.cond (.t 10) (.seq (.reg [⟨(some 4), none, .mov (.c (.bool false))⟩])
 .ret)
 .skip))
 (.seq (.seq (.reg [⟨(some 11), none, .mov (.t 0)⟩,
  ⟨(some 12), none, .len 1 (.t 11)⟩,
  ⟨(some 13), none, .mov (.c (.int .i64 0))⟩])
 (.block 0 (.loop [0, 1, 12, 13] [] (.seq (.reg [⟨(some 14), none, .bin .lss (.t 13) (.t 12)⟩])
 (.seq (.cond (.t 14) .skip
 (.exit 0))
 (.seq (.block 1 (.seq (.reg [⟨(some 15), none, .mov (.t 13)⟩,
  ⟨(some 5), none, .mov (.t 15)⟩])
 (.seq (.reg [⟨(some 16), none, .mov (.t 0)⟩,
  ⟨(some 17), none, .mov (.t 5)⟩,
  ⟨(some 18), none, .iaddr 1 (.t 16) (.t 17)⟩,
  ⟨(some 19), none, .load none (.t 18)⟩,
  ⟨(some 20), none, .mov (.t 1)⟩,
  ⟨(some 21), none, .mov (.t 5)⟩,
  ⟨(some 22), none, .iaddr 1 (.t 20) (.t 21)⟩,
  ⟨(some 23), none, .load none (.t 22)⟩,
  ⟨(some 24), none, .bin .neq (.t 19) (.t 23)⟩])
 (.cond (.t 24) (.seq (.reg [⟨(some 4), none, .mov (.c (.bool false))⟩])
 .ret)
 .skip))))
 (.reg [⟨(some 25), none, .bin .add (.t 13) (.c (.int .i64 1))⟩,
  ⟨(some 13), none, .mov (.t 25)⟩])))))))
 (.seq (.reg [⟨(some 4), none, .mov (.c (.bool true))⟩])
 .ret)))),
  [.t 4], false, true, 26⟩
theorem co58 : compF Tryd.prog ⟨[], [(4, [0, 1, 12, 13], [])], [], [], [], [], 58, [], [], []⟩ false true Tryd.f58 = some ac58 := by kernel_rfl

/-- paideia/types.Same -/
def ac59 : AF := ⟨(.seq (.reg [⟨(some 2), none, .box (.t 0) 3 false⟩,
  ⟨(some 3), none, .box (.t 1) 3 false⟩,
  ⟨(some 4), none, .mov (.c (.bool false))⟩])
 (.seq (.reg [⟨(some 5), none, .load (some 3) (.t 2)⟩,
  ⟨(some 6), none, .load (some 3) (.t 3)⟩,
  ⟨(some 7), none, .call 0 [] (.c (.fn 70 [])) [(.t 5), (.t 6)]⟩,
  ⟨(some 8), none, .bin .eql (.t 7) (.c (.int .i64 0))⟩,
  ⟨(some 4), none, .mov (.t 8)⟩])
 .ret)),
  [.t 4], false, true, 9⟩
theorem co59 : compF Tryd.prog ⟨[], [], [], [], [], [], 59, [], [], []⟩ false true Tryd.f59 = some ac59 := by kernel_rfl

/-- slices.EqualFunc[[]paideia/api.Pred,[]paideia/api.Pred,paideia/api.Pred,paideia/api.Pred] -/
def ac60 : AF := ⟨(.seq (.reg [⟨(some 6), none, .mov (.c (.bool false))⟩])
 (.seq (.seq (.reg [⟨(some 10), none, .mov (.t 0)⟩,
  ⟨(some 11), none, .len 1 (.t 10)⟩,
  ⟨(some 12), none, .mov (.t 1)⟩,
  ⟨(some 13), none, .len 1 (.t 12)⟩,
  ⟨(some 14), none, .bin .neq (.t 11) (.t 13)⟩])
 (.cond (.t 14) (.seq (.reg [⟨(some 6), none, .mov (.c (.bool false))⟩])
 .ret)
 .skip))
 (.seq (.seq (.reg [⟨(some 15), none, .mov (.t 0)⟩,
  ⟨(some 16), none, .len 1 (.t 15)⟩,
  ⟨(some 17), none, .mov (.c (.int .i64 0))⟩])
 (.block 0 (.loop [1, 2, 15, 16, 17] [] (.seq (.reg [⟨(some 18), none, .bin .lss (.t 17) (.t 16)⟩])
 (.seq (.cond (.t 18) .skip
 (.exit 0))
 (.seq (.block 1 (.seq (.reg [⟨(some 19), none, .mov (.t 17)⟩,
  ⟨(some 20), none, .iaddr 4 (.t 15) (.t 17)⟩,
  ⟨(some 21), none, .load (some 4) (.t 20)⟩,
  ⟨(some 8), none, .alloc [(.str []), (.int .i64 0), (.str []), (.sl .clip [])] false⟩,
  ⟨(some 7), none, .mov (.t 19)⟩,
  ⟨none, none, .store 4 (.t 8) (.t 21)⟩])
 (.seq (.reg [⟨(some 22), none, .mov (.t 1)⟩,
  ⟨(some 23), none, .mov (.t 7)⟩,
  ⟨(some 24), none, .iaddr 4 (.t 22) (.t 23)⟩,
  ⟨(some 25), none, .load (some 4) (.t 24)⟩,
  ⟨(some 9), none, .alloc [(.str []), (.int .i64 0), (.str []), (.sl .clip [])] false⟩,
  ⟨none, none, .store 4 (.t 9) (.t 25)⟩])
 (.seq (.reg [⟨(some 26), none, .mov (.t 2)⟩,
  ⟨(some 27), none, .load (some 4) (.t 8)⟩,
  ⟨(some 28), none, .load (some 4) (.t 9)⟩,
  ⟨(some 29), none, .call 0 [] (.t 26) [(.t 27), (.t 28)]⟩,
  ⟨(some 30), none, .not (.t 29)⟩])
 (.cond (.t 30) (.seq (.reg [⟨(some 6), none, .mov (.c (.bool false))⟩])
 .ret)
 .skip)))))
 (.reg [⟨(some 31), none, .bin .add (.t 17) (.c (.int .i64 1))⟩,
  ⟨(some 17), none, .mov (.t 31)⟩])))))))
 (.seq (.reg [⟨(some 6), none, .mov (.c (.bool true))⟩])
 .ret)))),
  [.t 6], false, true, 32⟩
theorem co60 : compF Tryd.prog ⟨[], [(4, [1, 2, 15, 16, 17], [])], [], [], [], [], 60, [], [], []⟩ false true Tryd.f60 = some ac60 := by kernel_rfl

/-- paideia/scheme.Same$1 -/
def ac61 : AF := ⟨(.seq (.reg [⟨(some 2), none, .box (.t 0) 4 false⟩,
  ⟨(some 3), none, .box (.t 1) 4 false⟩,
  ⟨(some 4), none, .mov (.c (.bool false))⟩])
 (.seq (.reg [⟨(some 5), none, .load (some 4) (.t 2)⟩,
  ⟨(some 6), none, .load (some 4) (.t 3)⟩,
  ⟨(some 7), none, .call 0 [] (.c (.fn 40 [])) [(.t 5), (.t 6)]⟩,
  ⟨(some 8), none, .bin .eql (.t 7) (.c (.int .i64 0))⟩,
  ⟨(some 4), none, .mov (.t 8)⟩])
 .ret)),
  [.t 4], false, true, 9⟩
theorem co61 : compF Tryd.prog ⟨[], [], [], [], [], [], 61, [], [], []⟩ false true Tryd.f61 = some ac61 := by kernel_rfl

/-- strconv.Itoa -/
def ac62 : AF := ⟨(.seq (.reg [⟨(some 2), none, .mov (.c (.str []))⟩])
 (.seq (.reg [⟨(some 3), none, .mov (.t 0)⟩,
  ⟨(some 4), none, .call 0 [] (.c (.fn 81 [])) [(.t 3)]⟩,
  ⟨(some 2), none, .mov (.t 4)⟩])
 .ret)),
  [.t 2], false, true, 5⟩
theorem co62 : compF Tryd.prog ⟨[], [], [], [], [], [], 62, [], [], []⟩ false true Tryd.f62 = some ac62 := by kernel_rfl

/-- paideia/paideiaref4.number -/
def ac63 : AF := ⟨(.seq (.reg [⟨(some 2), none, .mov (.c (.str []))⟩])
 (.seq (.reg [⟨(some 3), none, .mov (.c (.str []))⟩])
 (.block 0 (.loop [0, 3] [] (.block 1 (.seq (.reg [⟨(some 4), none, .mov (.t 0)⟩,
  ⟨(some 5), none, .bin .rem (.t 4) (.c (.int .i64 10))⟩,
  ⟨(some 6), none, .bin .add (.c (.int .i64 48)) (.t 5)⟩,
  ⟨(some 7), none, .conv (.int .u8) (.t 6)⟩,
  ⟨(some 8), none, .bslice [(.int .u8 0)] 1 [(0, (.t 7))]⟩,
  ⟨(some 9), none, .conv .text (.t 8)⟩,
  ⟨(some 10), none, .mov (.t 3)⟩,
  ⟨(some 11), none, .bin .add (.t 9) (.t 10)⟩,
  ⟨(some 3), none, .mov (.t 11)⟩])
 (.seq (.reg [⟨(some 12), none, .mov (.t 0)⟩,
  ⟨(some 13), none, .bin .quo (.t 12) (.c (.int .i64 10))⟩,
  ⟨(some 0), none, .mov (.t 13)⟩])
 (.seq (.reg [⟨(some 14), none, .mov (.t 0)⟩,
  ⟨(some 15), none, .bin .eql (.t 14) (.c (.int .i64 0))⟩])
 (.cond (.t 15) (.seq (.reg [⟨(some 16), none, .mov (.t 3)⟩,
  ⟨(some 2), none, .mov (.t 16)⟩])
 .ret)
 .skip))))))))),
  [.t 2], false, true, 17⟩
theorem co63 : compF Tryd.prog ⟨[], [(2, [0, 3], [])], [], [], [], [], 63, [], [], []⟩ false true Tryd.f63 = some ac63 := by kernel_rfl

/-- paideia/paideiaref4.before -/
def ac64 : AF := ⟨(.seq (.reg [⟨(some 2), none, .box (.t 0) 4 false⟩,
  ⟨(some 3), none, .box (.t 1) 4 false⟩,
  ⟨(some 4), none, .mov (.c (.bool false))⟩])
 (.seq (.reg [⟨(some 5), none, .faddr 0 (.t 2)⟩,
  ⟨(some 6), none, .load none (.t 5)⟩,
  ⟨(some 7), none, .faddr 0 (.t 3)⟩,
  ⟨(some 8), none, .load none (.t 7)⟩,
  ⟨(some 9), none, .bin .lss (.t 6) (.t 8)⟩,
  ⟨(some 10), none, .mov (.t 9)⟩,
  ⟨(some 11), (some (10, false)), .faddr 0 (.t 2)⟩,
  ⟨(some 12), (some (10, false)), .load none (.t 11)⟩,
  ⟨(some 13), (some (10, false)), .faddr 0 (.t 3)⟩,
  ⟨(some 14), (some (10, false)), .load none (.t 13)⟩,
  ⟨(some 15), (some (10, false)), .bin .eql (.t 12) (.t 14)⟩,
  ⟨(some 16), (some (10, false)), .mov (.t 15)⟩,
  ⟨(some 17), (some (16, true)), .faddr 1 (.t 2)⟩,
  ⟨(some 18), (some (16, true)), .load (some 3) (.t 17)⟩,
  ⟨(some 19), (some (16, true)), .faddr 1 (.t 3)⟩,
  ⟨(some 20), (some (16, true)), .load (some 3) (.t 19)⟩,
  ⟨(some 21), (some (16, true)), .call 0 [] (.c (.fn 11 [])) [(.t 18), (.t 20)]⟩,
  ⟨(some 22), (some (16, true)), .bin .lss (.t 21) (.c (.int .i64 0))⟩,
  ⟨(some 23), (some (10, false)), .pick (.t 16) (.t 22) (.c (.bool false))⟩,
  ⟨(some 24), none, .pick (.t 10) (.c (.bool true)) (.t 23)⟩,
  ⟨(some 4), none, .mov (.t 24)⟩])
 .ret)),
  [.t 4], false, true, 25⟩
theorem co64 : compF Tryd.prog ⟨[], [], [], [], [], [], 64, [], [], []⟩ false true Tryd.f64 = some ac64 := by kernel_rfl

/-- paideia/paideiaworld.Number -/
def ac65 : AF := ⟨(.seq (.reg [⟨(some 4), none, .mov (.c (.int .i64 0))⟩])
 (.seq (.reg [⟨(some 6), none, .mov (.t 0)⟩,
  ⟨(some 7), none, .mov (.t 1)⟩,
  ⟨(some 8), none, .bin .rem (.t 6) (.t 7)⟩,
  ⟨(some 5), none, .mov (.t 8)⟩])
 (.seq (.seq (.reg [⟨(some 9), none, .mov (.t 5)⟩,
  ⟨(some 10), none, .bin .lss (.t 9) (.c (.int .i64 0))⟩])
 (.cond (.t 10) (.reg [⟨(some 11), none, .mov (.t 5)⟩,
  ⟨(some 12), none, .mov (.t 1)⟩,
  ⟨(some 13), none, .bin .add (.t 11) (.t 12)⟩,
  ⟨(some 5), none, .mov (.t 13)⟩])
 .skip))
 (.seq (.reg [⟨(some 14), none, .mov (.t 5)⟩,
  ⟨(some 4), none, .mov (.t 14)⟩])
 .ret)))),
  [.t 4], false, true, 15⟩
theorem co65 : compF Tryd.prog ⟨[], [], [], [], [], [], 65, [], [], []⟩ false true Tryd.f65 = some ac65 := by kernel_rfl

/-- (paideia/subst.Subst).Apply -/
def ac66 : AF := ⟨(.seq (.reg [⟨(some 2), none, .box (.t 0) 1 false⟩,
  ⟨(some 3), none, .box (.t 1) 3 false⟩,
  ⟨(some 4), none, .alloc [(.int .i64 0), (.str []), (.sl .clip [])] false⟩])
 (.seq (.seq (.reg [⟨(some 10), none, .faddr 0 (.t 3)⟩,
  ⟨(some 11), none, .load none (.t 10)⟩,
  ⟨(some 12), none, .bin .eql (.t 11) (.c (.int .i64 1))⟩])
 (.cond (.t 12) (.seq (.reg [⟨(some 14), none, .faddr 0 (.t 2)⟩,
  ⟨(some 15), none, .load none (.t 14)⟩,
  ⟨(some 16), none, .faddr 1 (.t 3)⟩,
  ⟨(some 17), none, .load none (.t 16)⟩,
  ⟨(some 18), none, .lookup .str (.agg [(.int .i64 0), (.str []), (.sl .clip [])]) (.t 15) (.t 17) true⟩,
  ⟨(some 13), none, .mov (.t 18)⟩,
  ⟨(some 19), none, .extract (.t 13) 0⟩,
  ⟨(some 20), none, .extract (.t 13) 1⟩,
  ⟨(some 5), none, .alloc [(.int .i64 0), (.str []), (.sl .clip [])] false⟩,
  ⟨none, none, .store 3 (.t 5) (.t 19)⟩,
  ⟨(some 6), none, .mov (.t 20)⟩])
 (.seq (.reg [⟨(some 21), none, .mov (.t 6)⟩])
 (.cond (.t 21) (.seq (.reg [⟨(some 22), none, .load (some 3) (.t 5)⟩,
  ⟨(some 23), none, .call 0 [] (.c (.fn 50 [])) [(.t 22)]⟩,
  ⟨none, none, .store 3 (.t 4) (.t 23)⟩])
 .ret)
 .skip)))
 .skip))
 (.seq (.reg [⟨(some 24), none, .faddr 0 (.t 3)⟩,
  ⟨(some 25), none, .load none (.t 24)⟩,
  ⟨(some 26), none, .faddr 1 (.t 3)⟩,
  ⟨(some 27), none, .load none (.t 26)⟩,
  ⟨(some 28), none, .build [(.int .i64 0), (.str []), (.sl .clip [])] [(0, 1, (.t 25)), (1, 1, (.t 27))]⟩,
  ⟨(some 7), none, .alloc [(.int .i64 0), (.str []), (.sl .clip [])] false⟩,
  ⟨none, none, .store 3 (.t 7) (.t 28)⟩])
 (.seq (.seq (.reg [⟨(some 29), none, .faddr 2 (.t 3)⟩,
  ⟨(some 30), none, .load none (.t 29)⟩,
  ⟨(some 31), none, .len 1 (.t 30)⟩,
  ⟨(some 32), none, .mov (.c (.int .i64 0))⟩])
 (.block 0 (.loop [30, 31, 32] [2, 4, 7] (.seq (.reg [⟨(some 33), none, .bin .lss (.t 32) (.t 31)⟩])
 (.seq (.cond (.t 33) .skip
 (.exit 0))
 (.seq (.block 1 (.seq (.reg [⟨(some 34), none, .iaddr 3 (.t 30) (.t 32)⟩,
  ⟨(some 35), none, .load (some 3) (.t 34)⟩,
  ⟨(some 9), none, .alloc [(.int .i64 0), (.str []), (.sl .clip [])] false⟩,
  ⟨none, none, .store 3 (.t 9) (.t 35)⟩])
 (.reg [⟨(some 36), none, .faddr 2 (.t 7)⟩,
  ⟨(some 37), none, .loadL none (.t 36)⟩,
  ⟨(some 38), none, .load (some 1) (.t 2)⟩,
  ⟨(some 39), none, .load (some 3) (.t 9)⟩,
  ⟨(some 40), none, .call 0 [] (.c (.fn 66 [])) [(.t 38), (.t 39)]⟩,
  ⟨(some 41), none, .bslice [(.int .i64 0), (.str []), (.sl .clip [])] 1 [(0, (.t 40))]⟩,
  ⟨(some 42), none, .append 3 (.t 37) (.t 41)⟩,
  ⟨(some 43), none, .faddr 2 (.t 7)⟩,
  ⟨none, none, .store 1 (.t 43) (.t 42)⟩])))
 (.reg [⟨(some 44), none, .bin .add (.t 32) (.c (.int .i64 1))⟩,
  ⟨(some 32), none, .mov (.t 44)⟩])))))))
 (.seq (.reg [⟨(some 45), none, .load (some 3) (.t 7)⟩,
  ⟨none, none, .store 3 (.t 4) (.t 45)⟩])
 .ret))))),
  [.cell 4 (some 3)], false, true, 46⟩
theorem co66 : compF Tryd.prog ⟨[], [(7, [30, 31, 32], [2, 4, 7])], [], [], [], [], 66, [], [], []⟩ false true Tryd.f66 = some ac66 := by kernel_rfl

/-- slices.stableCmpFunc[paideia/api.Pred] -/
def ac67 : AF := ⟨(.seq (.reg [⟨(some 6), none, .mov (.c (.int .i64 20))⟩])
 (.seq (.reg [⟨(some 10), none, .mov (.t 6)⟩,
  ⟨(some 7), none, .mov (.c (.int .i64 0))⟩,
  ⟨(some 8), none, .mov (.t 10)⟩])
 (.seq (.block 0 (.loop [0, 1, 2, 6, 7, 8] [] (.seq (.seq (.reg [⟨(some 11), none, .mov (.t 8)⟩,
  ⟨(some 12), none, .mov (.t 1)⟩,
  ⟨(some 13), none, .bin .leq (.t 11) (.t 12)⟩])
 (.cond (.t 13) .skip
 (.exit 0)))
 (.block 1 (.seq (.reg [⟨(some 14), none, .mov (.t 0)⟩,
  ⟨(some 15), none, .mov (.t 7)⟩,
  ⟨(some 16), none, .mov (.t 8)⟩,
  ⟨(some 17), none, .mov (.t 2)⟩,
  ⟨(some 18), none, .call 0 [] (.c (.fn 82 [])) [(.t 14), (.t 15), (.t 16), (.t 17)]⟩])
 (.seq (.reg [⟨(some 19), none, .mov (.t 8)⟩,
  ⟨(some 7), none, .mov (.t 19)⟩])
 (.reg [⟨(some 20), none, .mov (.t 8)⟩,
  ⟨(some 21), none, .mov (.t 6)⟩,
  ⟨(some 22), none, .bin .add (.t 20) (.t 21)⟩,
  ⟨(some 8), none, .mov (.t 22)⟩])))))))
 (.seq (.reg [⟨(some 23), none, .mov (.t 0)⟩,
  ⟨(some 24), none, .mov (.t 7)⟩,
  ⟨(some 25), none, .mov (.t 1)⟩,
  ⟨(some 26), none, .mov (.t 2)⟩,
  ⟨(some 27), none, .call 0 [] (.c (.fn 82 [])) [(.t 23), (.t 24), (.t 25), (.t 26)]⟩])
 (.block 2 (.loop [0, 1, 2, 6] [] (.seq (.seq (.reg [⟨(some 28), none, .mov (.t 6)⟩,
  ⟨(some 29), none, .mov (.t 1)⟩,
  ⟨(some 30), none, .bin .lss (.t 28) (.t 29)⟩])
 (.cond (.t 30) .skip
 (.exit 2)))
 (.block 3 (.seq (.reg [⟨(some 31), none, .mov (.t 6)⟩,
  ⟨(some 32), none, .bin .mul (.c (.int .i64 2)) (.t 31)⟩,
  ⟨(some 7), none, .mov (.c (.int .i64 0))⟩,
  ⟨(some 8), none, .mov (.t 32)⟩])
 (.seq (.block 4 (.loop [0, 1, 2, 6, 7, 8] [] (.seq (.seq (.reg [⟨(some 33), none, .mov (.t 8)⟩,
  ⟨(some 34), none, .mov (.t 1)⟩,
  ⟨(some 35), none, .bin .leq (.t 33) (.t 34)⟩])
 (.cond (.t 35) .skip
 (.exit 4)))
 (.block 5 (.seq (.reg [⟨(some 36), none, .mov (.t 0)⟩,
  ⟨(some 37), none, .mov (.t 7)⟩,
  ⟨(some 38), none, .mov (.t 7)⟩,
  ⟨(some 39), none, .mov (.t 6)⟩,
  ⟨(some 40), none, .bin .add (.t 38) (.t 39)⟩,
  ⟨(some 41), none, .mov (.t 8)⟩,
  ⟨(some 42), none, .mov (.t 2)⟩,
  ⟨(some 43), none, .call 0 [] (.c (.fn 83 [])) [(.t 36), (.t 37), (.t 40), (.t 41), (.t 42)]⟩])
 (.seq (.reg [⟨(some 44), none, .mov (.t 8)⟩,
  ⟨(some 7), none, .mov (.t 44)⟩])
 (.reg [⟨(some 45), none, .mov (.t 8)⟩,
  ⟨(some 46), none, .mov (.t 6)⟩,
  ⟨(some 47), none, .bin .mul (.c (.int .i64 2)) (.t 46)⟩,
  ⟨(some 48), none, .bin .add (.t 45) (.t 47)⟩,
  ⟨(some 8), none, .mov (.t 48)⟩])))))))
 (.seq (.seq (.reg [⟨(some 49), none, .mov (.t 7)⟩,
  ⟨(some 50), none, .mov (.t 6)⟩,
  ⟨(some 51), none, .bin .add (.t 49) (.t 50)⟩,
  ⟨(some 9), none, .mov (.t 51)⟩])
 (.seq (.reg [⟨(some 52), none, .mov (.t 9)⟩,
  ⟨(some 53), none, .mov (.t 1)⟩,
  ⟨(some 54), none, .bin .lss (.t 52) (.t 53)⟩])
 (.cond (.t 54) (.reg [⟨(some 55), none, .mov (.t 0)⟩,
  ⟨(some 56), none, .mov (.t 7)⟩,
  ⟨(some 57), none, .mov (.t 9)⟩,
  ⟨(some 58), none, .mov (.t 1)⟩,
  ⟨(some 59), none, .mov (.t 2)⟩,
  ⟨(some 60), none, .call 0 [] (.c (.fn 83 [])) [(.t 55), (.t 56), (.t 57), (.t 58), (.t 59)]⟩])
 .skip)))
 (.reg [⟨(some 61), none, .mov (.t 6)⟩,
  ⟨(some 62), none, .bin .mul (.t 61) (.c (.int .i64 2))⟩,
  ⟨(some 6), none, .mov (.t 62)⟩])))))))))))),
  [], false, false, 63⟩
theorem co67 : compF Tryd.prog ⟨[], [(2, [0, 1, 2, 6, 7, 8], []), (7, [0, 1, 2, 6], []), (9, [0, 1, 2, 6, 7, 8], [])], [], [], [], [], 67, [], [], []⟩ false false Tryd.f67 = some ac67 := by kernel_rfl

/-- cmp.Or[int] -/
def ac68 : AF := ⟨(.seq (.reg [⟨(some 2), none, .mov (.c (.int .i64 0))⟩])
 (.seq (.reg [⟨(some 3), none, .mov (.c (.int .i64 0))⟩])
 (.seq (.seq (.reg [⟨(some 6), none, .mov (.t 0)⟩,
  ⟨(some 7), none, .len 1 (.t 6)⟩,
  ⟨(some 8), none, .mov (.c (.int .i64 0))⟩])
 (.block 0 (.loop [3, 6, 7, 8] [] (.seq (.reg [⟨(some 9), none, .bin .lss (.t 8) (.t 7)⟩])
 (.seq (.cond (.t 9) .skip
 (.exit 0))
 (.seq (.block 1 (.seq (.reg [⟨(some 10), none, .iaddr 1 (.t 6) (.t 8)⟩,
  ⟨(some 11), none, .load none (.t 10)⟩,
  ⟨(some 5), none, .mov (.t 11)⟩])
 (.seq (.reg [⟨(some 12), none, .mov (.t 5)⟩,
  ⟨(some 13), none, .mov (.t 3)⟩,
  ⟨(some 14), none, .bin .neq (.t 12) (.t 13)⟩])
 (.cond (.t 14) (.seq (.reg [⟨(some 15), none, .mov (.t 5)⟩,
  ⟨(some 2), none, .mov (.t 15)⟩])
 .ret)
 .skip))))
 (.reg [⟨(some 16), none, .bin .add (.t 8) (.c (.int .i64 1))⟩,
  ⟨(some 8), none, .mov (.t 16)⟩])))))))
 (.seq (.reg [⟨(some 17), none, .mov (.t 3)⟩,
  ⟨(some 2), none, .mov (.t 17)⟩])
 .ret)))),
  [.t 2], false, true, 18⟩
theorem co68 : compF Tryd.prog ⟨[], [(3, [3, 6, 7, 8], [])], [], [], [], [], 68, [], [], []⟩ false true Tryd.f68 = some ac68 := by kernel_rfl

/-- strings.Compare -/
def ac69 : AF := ⟨(.seq (.reg [⟨(some 4), none, .mov (.c (.int .i64 0))⟩])
 (.seq (.reg [⟨(some 5), none, .mov (.t 0)⟩,
  ⟨(some 6), none, .mov (.t 1)⟩,
  ⟨(some 7), none, .call 0 [] (.c (.fn 84 [])) [(.t 5), (.t 6)]⟩,
  ⟨(some 4), none, .mov (.t 7)⟩])
 .ret)),
  [.t 4], false, true, 8⟩
theorem co69 : compF Tryd.prog ⟨[], [], [], [], [], [], 69, [], [], []⟩ false true Tryd.f69 = some ac69 := by kernel_rfl

/-- paideia/types.Compare -/
def ac70 : AF := ⟨(.seq (.reg [⟨(some 2), none, .box (.t 0) 3 false⟩,
  ⟨(some 3), none, .box (.t 1) 3 false⟩,
  ⟨(some 4), none, .mov (.c (.int .i64 0))⟩])
 (.seq (.reg [⟨(some 5), none, .faddr 0 (.t 2)⟩,
  ⟨(some 6), none, .load none (.t 5)⟩,
  ⟨(some 7), none, .faddr 0 (.t 3)⟩,
  ⟨(some 8), none, .load none (.t 7)⟩,
  ⟨(some 9), none, .call 0 [] (.c (.fn 85 [])) [(.t 6), (.t 8)]⟩,
  ⟨(some 10), none, .faddr 1 (.t 2)⟩,
  ⟨(some 11), none, .loadL none (.t 10)⟩,
  ⟨(some 12), none, .faddr 1 (.t 3)⟩,
  ⟨(some 13), none, .loadL none (.t 12)⟩,
  ⟨(some 14), none, .call 0 [] (.c (.fn 69 [])) [(.t 11), (.t 13)]⟩,
  ⟨(some 15), none, .faddr 2 (.t 2)⟩,
  ⟨(some 16), none, .loadL none (.t 15)⟩,
  ⟨(some 17), none, .len 1 (.t 16)⟩,
  ⟨(some 18), none, .faddr 2 (.t 3)⟩,
  ⟨(some 19), none, .loadL none (.t 18)⟩,
  ⟨(some 20), none, .len 1 (.t 19)⟩,
  ⟨(some 21), none, .call 0 [] (.c (.fn 85 [])) [(.t 17), (.t 20)]⟩,
  ⟨(some 22), none, .faddr 2 (.t 2)⟩,
  ⟨(some 23), none, .loadL none (.t 22)⟩,
  ⟨(some 24), none, .faddr 2 (.t 3)⟩,
  ⟨(some 25), none, .loadL none (.t 24)⟩,
  ⟨(some 26), none, .call 0 [] (.c (.fn 86 [])) [(.t 23), (.t 25), (.c (.fn 70 []))]⟩,
  ⟨(some 27), none, .bslice [(.int .i64 0)] 4 [(0, (.t 9)), (1, (.t 14)), (2, (.t 21)), (3, (.t 26))]⟩,
  ⟨(some 28), none, .call 0 [] (.c (.fn 68 [])) [(.t 27)]⟩,
  ⟨(some 4), none, .mov (.t 28)⟩])
 .ret)),
  [.t 4], false, true, 29⟩
theorem co70 : compF Tryd.prog ⟨[], [], [], [], [], [], 70, [], [], []⟩ false true Tryd.f70 = some ac70 := by kernel_rfl

/-- paideia/paideiaref.SameTypes -/
def ac71 : AF := ⟨(.seq (.reg [⟨(some 4), none, .mov (.c (.bool false))⟩])
 (.seq (.seq (.reg [⟨(some 7), none, .mov (.t 0)⟩,
  ⟨(some 8), none, .len 1 (.t 7)⟩,
  ⟨(some 9), none, .mov (.t 1)⟩,
  ⟨(some 10), none, .len 1 (.t 9)⟩,
  ⟨(some 11), none, .bin .neq (.t 8) (.t 10)⟩])
 (.cond (.t 11) (.seq (.reg [⟨(some 4), none, .mov (.c (.bool false))⟩])
 .ret)
 .skip))
 (.seq (.seq (.reg [⟨(some 5), none, .mov (.c (.int .i64 0))⟩])
 (.block 0 (.loop [0, 1, 5] [] (.seq (.seq (.reg [⟨(some 12), none, .mov (.t 5)⟩,
  ⟨(some 13), none, .mov (.t 0)⟩,
  ⟨(some 14), none, .len 1 (.t 13)⟩,
  ⟨(some 15), none, .bin .lss (.t 12) (.t 14)⟩])
 (.cond (.t 15) .skip
 (.exit 0)))
 (.seq (.block 1 (.seq (.reg [⟨(some 18), none, .mov (.t 0)⟩,
  ⟨(some 19), none, .mov (.t 5)⟩,
  ⟨(some 20), none, .iaddr 3 (.t 18) (.t 19)⟩,
  ⟨(some 21), none, .load (some 3) (.t 20)⟩,
  ⟨(some 22), none, .mov (.t 1)⟩,
  ⟨(some 23), none, .mov (.t 5)⟩,
  ⟨(some 24), none, .iaddr 3 (.t 22) (.t 23)⟩,
  ⟨(some 25), none, .load (some 3) (.t 24)⟩,
  ⟨(some 26), none, .call 0 [] (.c (.fn 44 [])) [(.t 21), (.t 25)]⟩,
  ⟨(some 6), none, .mov (.t 26)⟩])
 (.seq (.reg [⟨(some 27), none, .mov (.t 6)⟩,
  ⟨(some 28), none, .not (.t 27)⟩])
 (.cond (.t 28) (.seq (.reg [⟨(some 4), none, .mov (.c (.bool false))⟩])
 .ret)
 .skip))))
 (.reg [⟨(some 16), none, .mov (.t 5)⟩,
  ⟨(some 17), none, .bin .add (.t 16) (.c (.int .i64 1))⟩,
  ⟨(some 5), none, .mov (.t 17)⟩]))))))
 (.seq (.reg [⟨(some 4), none, .mov (.c (.bool true))⟩])
 .ret)))),
  [.t 4], false, true, 29⟩
theorem co71 : compF Tryd.prog ⟨[], [(4, [0, 1, 5], [])], [], [], [], [], 71, [], [], []⟩ false true Tryd.f71 = some ac71 := by kernel_rfl

/-- slices.DeleteFunc[[]string,string] -/
def ac72 : AF := ⟨(.seq (.reg [⟨(some 4), none, .mov (.c (.sl .clip []))⟩])
 (.seq (.reg [⟨(some 8), none, .mov (.t 0)⟩,
  ⟨(some 9), none, .mov (.t 1)⟩,
  ⟨(some 10), none, .call 0 [] (.c (.fn 87 [])) [(.t 8), (.t 9)]⟩,
  ⟨(some 5), none, .mov (.t 10)⟩])
 (.seq (.seq (.reg [⟨(some 11), none, .mov (.t 5)⟩,
  ⟨(some 12), none, .bin .eql (.t 11) (.c (.int .i64 (-1)))⟩])
 (.cond (.t 12) (.seq (.reg [⟨(some 13), none, .mov (.t 0)⟩,
  ⟨(some 4), none, .mov (.t 13)⟩])
 .ret)
 .skip))
 (.seq (.seq (.reg [⟨(some 14), none, .mov (.t 5)⟩,
  ⟨(some 15), none, .bin .add (.t 14) (.c (.int .i64 1))⟩,
  ⟨(some 6), none, .mov (.t 15)⟩])
 (.block 0 (.loop [0, 1, 5, 6] [] (.seq (.seq (.reg [⟨(some 16), none, .mov (.t 6)⟩,
  ⟨(some 17), none, .mov (.t 0)⟩,
  ⟨(some 18), none, .len 1 (.t 17)⟩,
  ⟨(some 19), none, .bin .lss (.t 16) (.t 18)⟩])
 (.cond (.t 19) .skip
 (.exit 0)))
 (.seq (.block 1 (.seq (.reg [⟨(some 22), none, .mov (.t 0)⟩,
  ⟨(some 23), none, .mov (.t 6)⟩,
  ⟨(some 24), none, .iaddr 1 (.t 22) (.t 23)⟩,
  ⟨(some 25), none, .load none (.t 24)⟩,
  ⟨(some 7), none, .mov (.t 25)⟩])
 (.seq (.reg [⟨(some 26), none, .mov (.t 1)⟩,
  ⟨(some 27), none, .mov (.t 7)⟩,
  ⟨(some 28), none, .call 0 [] (.t 26) [(.t 27)]⟩,
  ⟨(some 29), none, .not (.t 28)⟩])
 (.cond (.t 29) (.seq (.reg [⟨(some 30), none, .mov (.t 0)⟩,
  ⟨(some 31), none, .mov (.t 5)⟩,
  ⟨(some 32), none, .mov (.t 7)⟩,
  ⟨(some 33), none, .iaddr 1 (.t 30) (.t 31)⟩,
  ⟨none, none, .store 1 (.t 33) (.t 32)⟩])
 (.reg [⟨(some 34), none, .mov (.t 5)⟩,
  ⟨(some 35), none, .bin .add (.t 34) (.c (.int .i64 1))⟩,
  ⟨(some 5), none, .mov (.t 35)⟩]))
 .skip))))
 (.reg [⟨(some 20), none, .mov (.t 6)⟩,
  ⟨(some 21), none, .bin .add (.t 20) (.c (.int .i64 1))⟩,
  ⟨(some 6), none, .mov (.t 21)⟩]))))))
 (.seq (.reg [⟨(some 36), none, .mov (.t 0)⟩,
  ⟨(some 37), none, .mov (.t 5)⟩,
  ⟨(some 38), none, .slice 1 (.t 36) (some (.t 37)) none none⟩,
  ⟨none, none, .clearM [(.str [])] (.t 38)⟩])
 (.seq (.reg [⟨(some 39), none, .mov (.t 0)⟩,
  ⟨(some 40), none, .mov (.t 5)⟩,
  ⟨(some 41), none, .slice 1 (.t 39) none (some (.t 40)) none⟩,
  ⟨(some 4), none, .mov (.t 41)⟩])
 .ret)))))),
  [.t 4], true, false, 42⟩
theorem co72 : compF Tryd.prog ⟨[], [(5, [0, 1, 5, 6], [])], [], [], [], [], 72, [], [], []⟩ true false Tryd.f72 = some ac72 := by kernel_rfl

/-- paideia/scheme.without$1 -/
def ac73 : AF := ⟨(.seq (.reg [⟨(some 3), none, .mov (.c (.bool false))⟩])
 (.seq (.reg [⟨(some 4), none, .load none (.t 1)⟩,
  ⟨(some 5), none, .mov (.t 0)⟩,
  ⟨(some 6), none, .call 0 [] (.c (.fn 52 [])) [(.t 4), (.t 5)]⟩,
  ⟨(some 3), none, .mov (.t 6)⟩])
 .ret)),
  [.t 3], false, true, 7⟩
theorem co73 : compF Tryd.prog ⟨[], [], [], [], [], [], 73, [], [], []⟩ false true Tryd.f73 = some ac73 := by kernel_rfl

/-- paideia/types.Vars -/
def ac74 : AF := ⟨(.seq (.reg [⟨(some 2), none, .mov (.c (.sl .clip []))⟩])
 (.seq (.reg [⟨(some 3), none, .mov (.c (.sl .clip []))⟩])
 (.seq (.seq (.reg [⟨(some 6), none, .mov (.t 0)⟩,
  ⟨(some 7), none, .len 1 (.t 6)⟩,
  ⟨(some 8), none, .mov (.c (.int .i64 0))⟩])
 (.block 0 (.loop [3, 6, 7, 8] [] (.seq (.reg [⟨(some 9), none, .bin .lss (.t 8) (.t 7)⟩])
 (.seq (.cond (.t 9) .skip
 (.exit 0))
 (.seq (.block 1 (.seq (.reg [⟨(some 10), none, .iaddr 3 (.t 6) (.t 8)⟩,
  ⟨(some 11), none, .load (some 3) (.t 10)⟩,
  ⟨(some 5), none, .alloc [(.int .i64 0), (.str []), (.sl .clip [])] false⟩,
  ⟨none, none, .store 3 (.t 5) (.t 11)⟩])
 (.reg [⟨(some 12), none, .load (some 3) (.t 5)⟩,
  ⟨(some 13), none, .mov (.t 3)⟩,
  ⟨(some 14), none, .call 0 [2] (.c (.fn 88 [])) [(.t 12), (.c (.sl .clip [])), (.t 13)]⟩,
  ⟨(some 3), none, .mov (.t 14)⟩])))
 (.reg [⟨(some 15), none, .bin .add (.t 8) (.c (.int .i64 1))⟩,
  ⟨(some 8), none, .mov (.t 15)⟩])))))))
 (.seq (.reg [⟨(some 16), none, .mov (.t 3)⟩,
  ⟨(some 2), none, .mov (.t 16)⟩])
 .ret)))),
  [.t 2], true, false, 17⟩
theorem co74 : compF Tryd.prog ⟨[], [(3, [3, 6, 7, 8], [])], [(88, 0, [2])], [], [], [], 74, [], [], []⟩ true false Tryd.f74 = some ac74 := by kernel_rfl

/-- paideia/scheme.Order$1 -/
def ac75 : AF := ⟨(.seq (.reg [⟨(some 3), none, .mov (.c (.bool false))⟩])
 (.seq (.reg [⟨(some 4), none, .faddr 0 (.t 1)⟩,
  ⟨(some 5), none, .load none (.t 4)⟩,
  ⟨(some 6), none, .mov (.t 0)⟩,
  ⟨(some 7), none, .call 0 [] (.c (.fn 52 [])) [(.t 5), (.t 6)]⟩,
  ⟨(some 8), none, .not (.t 7)⟩,
  ⟨(some 3), none, .mov (.t 8)⟩])
 .ret)),
  [.t 3], false, true, 9⟩
theorem co75 : compF Tryd.prog ⟨[], [], [], [], [], [], 75, [], [], []⟩ false true Tryd.f75 = some ac75 := by kernel_rfl

/-- slices.Index[[]string,string] -/
def ac76 : AF := ⟨(.seq (.reg [⟨(some 4), none, .mov (.c (.int .i64 0))⟩])
 (.seq (.seq (.reg [⟨(some 6), none, .mov (.t 0)⟩,
  ⟨(some 7), none, .len 1 (.t 6)⟩,
  ⟨(some 8), none, .mov (.c (.int .i64 0))⟩])
 (.block 0 (.loop [0, 1, 7, 8] [] (.seq (.reg [⟨(some 9), none, .bin .lss (.t 8) (.t 7)⟩])
 (.seq (.cond (.t 9) .skip
 (.exit 0))
 (.seq (.block 1 (.seq (.reg [⟨(some 10), none, .mov (.t 8)⟩,
  ⟨(some 5), none, .mov (.t 10)⟩])
 (.seq (.reg [⟨(some 11), none, .mov (.t 1)⟩,
  ⟨(some 12), none, .mov (.t 0)⟩,
  ⟨(some 13), none, .mov (.t 5)⟩,
  ⟨(some 14), none, .iaddr 1 (.t 12) (.t 13)⟩,
  ⟨(some 15), none, .load none (.t 14)⟩,
  ⟨(some 16), none, .bin .eql (.t 11) (.t 15)⟩])
 (.cond (.t 16) (.seq (.reg [⟨(some 17), none, .mov (.t 5)⟩,
  ⟨(some 4), none, .mov (.t 17)⟩])
 .ret)
 .skip))))
 (.reg [⟨(some 18), none, .bin .add (.t 8) (.c (.int .i64 1))⟩,
  ⟨(some 8), none, .mov (.t 18)⟩])))))))
 (.seq (.reg [⟨(some 4), none, .mov (.c (.int .i64 (-1)))⟩])
 .ret))),
  [.t 4], false, false, 19⟩
theorem co76 : compF Tryd.prog ⟨[], [(2, [0, 1, 7, 8], [])], [], [], [], [], 76, [], [], []⟩ false false Tryd.f76 = some ac76 := by kernel_rfl

/-- paideia/types.Var -/
def ac77 : AF := ⟨(.seq (.reg [⟨(some 2), none, .alloc [(.int .i64 0), (.str []), (.sl .clip [])] false⟩])
 (.seq (.reg [⟨(some 3), none, .mov (.t 0)⟩,
  ⟨(some 4), none, .build [(.int .i64 0), (.str []), (.sl .clip [])] [(0, 1, (.c (.int .i64 1))), (1, 1, (.t 3))]⟩,
  ⟨none, none, .store 3 (.t 2) (.t 4)⟩])
 .ret)),
  [.cell 2 (some 3)], false, true, 5⟩
theorem co77 : compF Tryd.prog ⟨[], [], [], [], [], [], 77, [], [], []⟩ false true Tryd.f77 = some ac77 := by kernel_rfl

/-- paideia/subst.Of -/
def ac78 : AF := ⟨(.seq (.reg [⟨(some 2), none, .alloc [(.map none)] false⟩])
 (.seq (.reg [⟨(some 7), none, .mkmap⟩,
  ⟨(some 8), none, .build [(.map none)] [(0, 1, (.t 7))]⟩,
  ⟨(some 3), none, .alloc [(.map none)] false⟩,
  ⟨none, none, .store 1 (.t 3) (.t 8)⟩])
 (.seq (.reg [⟨(some 9), none, .mkmap⟩,
  ⟨(some 4), none, .mov (.t 9)⟩])
 (.seq (.seq (.reg [⟨(some 10), none, .mov (.t 0)⟩,
  ⟨(some 11), none, .len 1 (.t 10)⟩,
  ⟨(some 12), none, .mov (.c (.int .i64 0))⟩])
 (.block 0 (.loop [4, 10, 11, 12] [2, 3] (.seq (.reg [⟨(some 13), none, .bin .lss (.t 12) (.t 11)⟩])
 (.seq (.cond (.t 13) .skip
 (.exit 0))
 (.seq (.block 1 (.seq (.reg [⟨(some 14), none, .iaddr 4 (.t 10) (.t 12)⟩,
  ⟨(some 15), none, .load (some 4) (.t 14)⟩,
  ⟨(some 6), none, .alloc [(.str []), (.int .i64 0), (.str []), (.sl .clip [])] false⟩,
  ⟨none, none, .store 4 (.t 6) (.t 15)⟩])
 (.seq (.reg [⟨(some 16), none, .mov (.t 4)⟩,
  ⟨(some 17), none, .faddr 0 (.t 6)⟩,
  ⟨(some 18), none, .load none (.t 17)⟩,
  ⟨(some 19), none, .lookup .str (.bool false) (.t 16) (.t 18) false⟩,
  ⟨(some 20), none, .not (.t 19)⟩])
 (.cond (.t 20) (.seq (.reg [⟨(some 21), none, .mov (.t 4)⟩,
  ⟨(some 22), none, .faddr 0 (.t 6)⟩,
  ⟨(some 23), none, .load none (.t 22)⟩,
  ⟨none, none, .mapset .str (.t 21) (.t 23) (.c (.bool true))⟩])
 (.reg [⟨(some 24), none, .load (some 1) (.t 3)⟩,
  ⟨(some 25), none, .faddr 0 (.t 6)⟩,
  ⟨(some 26), none, .load none (.t 25)⟩,
  ⟨(some 27), none, .faddr 1 (.t 6)⟩,
  ⟨(some 28), none, .load (some 3) (.t 27)⟩,
  ⟨(some 29), none, .call 0 [] (.c (.fn 89 [])) [(.t 24), (.t 26), (.t 28)]⟩]))
 .skip))))
 (.reg [⟨(some 30), none, .bin .add (.t 12) (.c (.int .i64 1))⟩,
  ⟨(some 12), none, .mov (.t 30)⟩])))))))
 (.seq (.reg [⟨(some 31), none, .load (some 1) (.t 3)⟩,
  ⟨none, none, .store 1 (.t 2) (.t 31)⟩])
 .ret))))),
  [.cell 2 (some 1)], false, false, 32⟩
theorem co78 : compF Tryd.prog ⟨[], [(4, [4, 10, 11, 12], [2, 3])], [], [], [], [], 78, [], [], []⟩ false false Tryd.f78 = some ac78 := by kernel_rfl

/-- slices.Clone[[]string,string] -/
def ac79 : AF := ⟨(.seq (.reg [⟨(some 2), none, .mov (.c (.sl .clip []))⟩])
 (.seq (.seq (.reg [⟨(some 3), none, .mov (.t 0)⟩,
  ⟨(some 4), none, .nilsl false (.t 3)⟩])
 (.cond (.t 4) (.seq (.reg [⟨(some 2), none, .mov (.c (.sl .clip []))⟩])
 .ret)
 .skip))
 (.seq (.reg [⟨(some 5), none, .bslice [(.str [])] 0 []⟩,
  ⟨(some 6), none, .mov (.t 0)⟩,
  ⟨(some 7), none, .append 1 (.t 5) (.t 6)⟩,
  ⟨(some 2), none, .mov (.t 7)⟩])
 .ret))),
  [.t 2], false, true, 8⟩
theorem co79 : compF Tryd.prog ⟨[], [], [], [], [], [], 79, [], [], []⟩ false true Tryd.f79 = some ac79 := by kernel_rfl

/-- paideia/paideiaref.Texts -/
def ac80 : AF := ⟨(.seq (.reg [⟨(some 2), none, .mov (.c (.sl .clip []))⟩])
 (.seq (.reg [⟨(some 5), none, .mov (.t 0)⟩,
  ⟨(some 6), none, .len 1 (.t 5)⟩,
  ⟨(some 7), none, .mkslice [(.str [])] (.c (.int .i64 0)) (.t 6)⟩,
  ⟨(some 3), none, .mov (.t 7)⟩])
 (.seq (.seq (.reg [⟨(some 4), none, .mov (.c (.int .i64 0))⟩])
 (.block 0 (.loop [0, 3, 4] [] (.seq (.seq (.reg [⟨(some 8), none, .mov (.t 4)⟩,
  ⟨(some 9), none, .mov (.t 0)⟩,
  ⟨(some 10), none, .len 1 (.t 9)⟩,
  ⟨(some 11), none, .bin .lss (.t 8) (.t 10)⟩])
 (.cond (.t 11) .skip
 (.exit 0)))
 (.seq (.block 1 (.reg [⟨(some 14), none, .mov (.t 3)⟩,
  ⟨(some 15), none, .mov (.t 0)⟩,
  ⟨(some 16), none, .mov (.t 4)⟩,
  ⟨(some 17), none, .iaddr 1 (.t 15) (.t 16)⟩,
  ⟨(some 18), none, .load none (.t 17)⟩,
  ⟨(some 19), none, .bslice [(.str [])] 1 [(0, (.t 18))]⟩,
  ⟨(some 20), none, .append 1 (.t 14) (.t 19)⟩,
  ⟨(some 3), none, .mov (.t 20)⟩]))
 (.reg [⟨(some 12), none, .mov (.t 4)⟩,
  ⟨(some 13), none, .bin .add (.t 12) (.c (.int .i64 1))⟩,
  ⟨(some 4), none, .mov (.t 13)⟩]))))))
 (.seq (.reg [⟨(some 21), none, .mov (.t 3)⟩,
  ⟨(some 2), none, .mov (.t 21)⟩])
 .ret)))),
  [.t 2], true, false, 22⟩
theorem co80 : compF Tryd.prog ⟨[], [(3, [0, 3, 4], [])], [], [], [], [], 80, [], [], []⟩ true false Tryd.f80 = some ac80 := by kernel_rfl

/-- internal/strconv.Itoa -/
def ac81 : AF := ⟨(.seq (.reg [⟨(some 2), none, .mov (.c (.str []))⟩])
 (.seq (.reg [⟨(some 3), none, .mov (.t 0)⟩,
  ⟨(some 4), none, .call 0 [] (.c (.fn 90 [])) [(.t 3), (.c (.int .i64 10))]⟩,
  ⟨(some 2), none, .mov (.t 4)⟩])
 .ret)),
  [.t 2], false, true, 5⟩
theorem co81 : compF Tryd.prog ⟨[], [], [], [], [], [], 81, [], [], []⟩ false true Tryd.f81 = some ac81 := by kernel_rfl

/-- slices.insertionSortCmpFunc[paideia/api.Pred] -/
def ac82 : AF := ⟨(.seq (.reg [⟨(some 10), none, .mov (.t 1)⟩,
  ⟨(some 11), none, .bin .add (.t 10) (.c (.int .i64 1))⟩,
  ⟨(some 8), none, .mov (.t 11)⟩])
 (.block 0 (.loop [0, 1, 2, 3, 8] [] (.seq (.seq (.reg [⟨(some 12), none, .mov (.t 8)⟩,
  ⟨(some 13), none, .mov (.t 2)⟩,
  ⟨(some 14), none, .bin .lss (.t 12) (.t 13)⟩])
 (.cond (.t 14) .skip
 (.exit 0)))
 (.seq (.block 1 (.seq (.reg [⟨(some 17), none, .mov (.t 8)⟩,
  ⟨(some 9), none, .mov (.t 17)⟩])
 (.block 2 (.loop [0, 1, 2, 3, 8, 9] [] (.seq (.seq (.reg [⟨(some 18), none, .mov (.t 9)⟩,
  ⟨(some 19), none, .mov (.t 1)⟩,
  ⟨(some 20), none, .bin .gtr (.t 18) (.t 19)⟩,
  ⟨(some 21), none, .mov (.t 20)⟩,
  ⟨(some 22), (some (21, true)), .mov (.t 3)⟩,
  ⟨(some 23), (some (21, true)), .mov (.t 0)⟩,
  ⟨(some 24), (some (21, true)), .mov (.t 9)⟩,
  ⟨(some 25), (some (21, true)), .iaddr 4 (.t 23) (.t 24)⟩,
  ⟨(some 26), (some (21, true)), .load (some 4) (.t 25)⟩,
  ⟨(some 27), (some (21, true)), .mov (.t 0)⟩,
  ⟨(some 28), (some (21, true)), .mov (.t 9)⟩,
  ⟨(some 29), (some (21, true)), .bin .sub (.t 28) (.c (.int .i64 1))⟩,
  ⟨(some 30), (some (21, true)), .iaddr 4 (.t 27) (.t 29)⟩,
  ⟨(some 31), (some (21, true)), .load (some 4) (.t 30)⟩,
  ⟨(some 32), (some (21, true)), .call 0 [] (.t 22) [(.t 26), (.t 31)]⟩,
  ⟨(some 33), (some (21, true)), .bin .lss (.t 32) (.c (.int .i64 0))⟩,
  ⟨(some 34), none, .pick (.t 21) (.t 33) (.c (.bool false))⟩])
 (.cond (.t 34) .skip
 (.exit 2)))
 (.seq (.block 3 (.reg [⟨(some 37), none, .mov (.t 0)⟩,
  ⟨(some 38), none, .mov (.t 9)⟩,
  ⟨(some 39), none, .mov (.t 0)⟩,
  ⟨(some 40), none, .mov (.t 9)⟩,
  ⟨(some 41), none, .bin .sub (.t 40) (.c (.int .i64 1))⟩,
  ⟨(some 42), none, .mov (.t 0)⟩,
  ⟨(some 43), none, .mov (.t 9)⟩,
  ⟨(some 44), none, .bin .sub (.t 43) (.c (.int .i64 1))⟩,
  ⟨(some 45), none, .iaddr 4 (.t 42) (.t 44)⟩,
  ⟨(some 46), none, .load (some 4) (.t 45)⟩,
  ⟨(some 47), none, .mov (.t 0)⟩,
  ⟨(some 48), none, .mov (.t 9)⟩,
  ⟨(some 49), none, .iaddr 4 (.t 47) (.t 48)⟩,
  ⟨(some 50), none, .load (some 4) (.t 49)⟩,
  ⟨(some 51), none, .iaddr 4 (.t 37) (.t 38)⟩,
  ⟨none, none, .store 4 (.t 51) (.t 46)⟩,
  ⟨(some 52), none, .iaddr 4 (.t 39) (.t 41)⟩,
  ⟨none, none, .store 4 (.t 52) (.t 50)⟩]))
 (.reg [⟨(some 35), none, .mov (.t 9)⟩,
  ⟨(some 36), none, .bin .sub (.t 35) (.c (.int .i64 1))⟩,
  ⟨(some 9), none, .mov (.t 36)⟩])))))))
 (.reg [⟨(some 15), none, .mov (.t 8)⟩,
  ⟨(some 16), none, .bin .add (.t 15) (.c (.int .i64 1))⟩,
  ⟨(some 8), none, .mov (.t 16)⟩])))))),
  [], false, false, 53⟩
theorem co82 : compF Tryd.prog ⟨[], [(1, [0, 1, 2, 3, 8], []), (4, [0, 1, 2, 3, 8, 9], [])], [], [], [], [], 82, [], [], []⟩ false false Tryd.f82 = some ac82 := by kernel_rfl

/-- slices.symMergeCmpFunc[paideia/api.Pred] -/
def ac83 : AF := ⟨(.seq (.seq (.reg [⟨(some 25), none, .mov (.t 2)⟩,
  ⟨(some 26), none, .mov (.t 1)⟩,
  ⟨(some 27), none, .bin .sub (.t 25) (.t 26)⟩,
  ⟨(some 28), none, .bin .eql (.t 27) (.c (.int .i64 1))⟩])
 (.cond (.t 28) (.seq (.reg [⟨(some 29), none, .mov (.t 2)⟩,
  ⟨(some 10), none, .mov (.t 29)⟩])
 (.seq (.reg [⟨(some 30), none, .mov (.t 3)⟩,
  ⟨(some 11), none, .mov (.t 30)⟩])
 (.seq (.block 0 (.loop [0, 1, 4, 10, 11] [] (.seq (.seq (.reg [⟨(some 31), none, .mov (.t 10)⟩,
  ⟨(some 32), none, .mov (.t 11)⟩,
  ⟨(some 33), none, .bin .lss (.t 31) (.t 32)⟩])
 (.cond (.t 33) .skip
 (.exit 0)))
 (.block 1 (.seq (.reg [⟨(some 34), none, .mov (.t 10)⟩,
  ⟨(some 35), none, .mov (.t 11)⟩,
  ⟨(some 36), none, .bin .add (.t 34) (.t 35)⟩,
  ⟨(some 37), none, .conv (.int .u64) (.t 36)⟩,
  ⟨(some 38), none, .bin .shr (.t 37) (.c (.int .u64 1))⟩,
  ⟨(some 39), none, .conv (.int .i64) (.t 38)⟩,
  ⟨(some 12), none, .mov (.t 39)⟩])
 (.seq (.reg [⟨(some 40), none, .mov (.t 4)⟩,
  ⟨(some 41), none, .mov (.t 0)⟩,
  ⟨(some 42), none, .mov (.t 12)⟩,
  ⟨(some 43), none, .iaddr 4 (.t 41) (.t 42)⟩,
  ⟨(some 44), none, .load (some 4) (.t 43)⟩,
  ⟨(some 45), none, .mov (.t 0)⟩,
  ⟨(some 46), none, .mov (.t 1)⟩,
  ⟨(some 47), none, .iaddr 4 (.t 45) (.t 46)⟩,
  ⟨(some 48), none, .load (some 4) (.t 47)⟩,
  ⟨(some 49), none, .call 0 [] (.t 40) [(.t 44), (.t 48)]⟩,
  ⟨(some 50), none, .bin .lss (.t 49) (.c (.int .i64 0))⟩])
 (.cond (.t 50) (.reg [⟨(some 51), none, .mov (.t 12)⟩,
  ⟨(some 52), none, .bin .add (.t 51) (.c (.int .i64 1))⟩,
  ⟨(some 10), none, .mov (.t 52)⟩])
 (.reg [⟨(some 53), none, .mov (.t 12)⟩,
  ⟨(some 11), none, .mov (.t 53)⟩]))))))))
 (.seq (.seq (.reg [⟨(some 54), none, .mov (.t 1)⟩,
  ⟨(some 13), none, .mov (.t 54)⟩])
 (.block 2 (.loop [0, 10, 13] [] (.seq (.seq (.reg [⟨(some 55), none, .mov (.t 13)⟩,
  ⟨(some 56), none, .mov (.t 10)⟩,
  ⟨(some 57), none, .bin .sub (.t 56) (.c (.int .i64 1))⟩,
  ⟨(some 58), none, .bin .lss (.t 55) (.t 57)⟩])
 (.cond (.t 58) .skip
 (.exit 2)))
 (.seq (.block 3 (.reg [⟨(some 61), none, .mov (.t 0)⟩,
  ⟨(some 62), none, .mov (.t 13)⟩,
  ⟨(some 63), none, .mov (.t 0)⟩,
  ⟨(some 64), none, .mov (.t 13)⟩,
  ⟨(some 65), none, .bin .add (.t 64) (.c (.int .i64 1))⟩,
  ⟨(some 66), none, .mov (.t 0)⟩,
  ⟨(some 67), none, .mov (.t 13)⟩,
  ⟨(some 68), none, .bin .add (.t 67) (.c (.int .i64 1))⟩,
  ⟨(some 69), none, .iaddr 4 (.t 66) (.t 68)⟩,
  ⟨(some 70), none, .load (some 4) (.t 69)⟩,
  ⟨(some 71), none, .mov (.t 0)⟩,
  ⟨(some 72), none, .mov (.t 13)⟩,
  ⟨(some 73), none, .iaddr 4 (.t 71) (.t 72)⟩,
  ⟨(some 74), none, .load (some 4) (.t 73)⟩,
  ⟨(some 75), none, .iaddr 4 (.t 61) (.t 62)⟩,
  ⟨none, none, .store 4 (.t 75) (.t 70)⟩,
  ⟨(some 76), none, .iaddr 4 (.t 63) (.t 65)⟩,
  ⟨none, none, .store 4 (.t 76) (.t 74)⟩]))
 (.reg [⟨(some 59), none, .mov (.t 13)⟩,
  ⟨(some 60), none, .bin .add (.t 59) (.c (.int .i64 1))⟩,
  ⟨(some 13), none, .mov (.t 60)⟩]))))))
 .ret))))
 .skip))
 (.seq (.seq (.reg [⟨(some 77), none, .mov (.t 3)⟩,
  ⟨(some 78), none, .mov (.t 2)⟩,
  ⟨(some 79), none, .bin .sub (.t 77) (.t 78)⟩,
  ⟨(some 80), none, .bin .eql (.t 79) (.c (.int .i64 1))⟩])
 (.cond (.t 80) (.seq (.reg [⟨(some 81), none, .mov (.t 1)⟩,
  ⟨(some 14), none, .mov (.t 81)⟩])
 (.seq (.reg [⟨(some 82), none, .mov (.t 2)⟩,
  ⟨(some 15), none, .mov (.t 82)⟩])
 (.seq (.block 4 (.loop [0, 2, 4, 14, 15] [] (.seq (.seq (.reg [⟨(some 83), none, .mov (.t 14)⟩,
  ⟨(some 84), none, .mov (.t 15)⟩,
  ⟨(some 85), none, .bin .lss (.t 83) (.t 84)⟩])
 (.cond (.t 85) .skip
 (.exit 4)))
 (.block 5 (.seq (.reg [⟨(some 86), none, .mov (.t 14)⟩,
  ⟨(some 87), none, .mov (.t 15)⟩,
  ⟨(some 88), none, .bin .add (.t 86) (.t 87)⟩,
  ⟨(some 89), none, .conv (.int .u64) (.t 88)⟩,
  ⟨(some 90), none, .bin .shr (.t 89) (.c (.int .u64 1))⟩,
  ⟨(some 91), none, .conv (.int .i64) (.t 90)⟩,
  ⟨(some 16), none, .mov (.t 91)⟩])
 (.seq (.reg [⟨(some 92), none, .mov (.t 4)⟩,
  ⟨(some 93), none, .mov (.t 0)⟩,
  ⟨(some 94), none, .mov (.t 2)⟩,
  ⟨(some 95), none, .iaddr 4 (.t 93) (.t 94)⟩,
  ⟨(some 96), none, .load (some 4) (.t 95)⟩,
  ⟨(some 97), none, .mov (.t 0)⟩,
  ⟨(some 98), none, .mov (.t 16)⟩,
  ⟨(some 99), none, .iaddr 4 (.t 97) (.t 98)⟩,
  ⟨(some 100), none, .load (some 4) (.t 99)⟩,
  ⟨(some 101), none, .call 0 [] (.t 92) [(.t 96), (.t 100)]⟩,
  ⟨(some 102), none, .bin .lss (.t 101) (.c (.int .i64 0))⟩,
  ⟨(some 103), none, .not (.t 102)⟩])
 (.cond (.t 103) (.reg [⟨(some 104), none, .mov (.t 16)⟩,
  ⟨(some 105), none, .bin .add (.t 104) (.c (.int .i64 1))⟩,
  ⟨(some 14), none, .mov (.t 105)⟩])
 (.reg [⟨(some 106), none, .mov (.t 16)⟩,
  ⟨(some 15), none, .mov (.t 106)⟩]))))))))
 (.seq (.seq (.reg [⟨(some 107), none, .mov (.t 2)⟩,
  ⟨(some 17), none, .mov (.t 107)⟩])
 (.block 6 (.loop [0, 14, 17] [] (.seq (.seq (.reg [⟨(some 108), none, .mov (.t 17)⟩,
  ⟨(some 109), none, .mov (.t 14)⟩,
  ⟨(some 110), none, .bin .gtr (.t 108) (.t 109)⟩])
 (.cond (.t 110) .skip
 (.exit 6)))
 (.seq (.block 7 (.reg [⟨(some 113), none, .mov (.t 0)⟩,
  ⟨(some 114), none, .mov (.t 17)⟩,
  ⟨(some 115), none, .mov (.t 0)⟩,
  ⟨(some 116), none, .mov (.t 17)⟩,
  ⟨(some 117), none, .bin .sub (.t 116) (.c (.int .i64 1))⟩,
  ⟨(some 118), none, .mov (.t 0)⟩,
  ⟨(some 119), none, .mov (.t 17)⟩,
  ⟨(some 120), none, .bin .sub (.t 119) (.c (.int .i64 1))⟩,
  ⟨(some 121), none, .iaddr 4 (.t 118) (.t 120)⟩,
  ⟨(some 122), none, .load (some 4) (.t 121)⟩,
  ⟨(some 123), none, .mov (.t 0)⟩,
  ⟨(some 124), none, .mov (.t 17)⟩,
  ⟨(some 125), none, .iaddr 4 (.t 123) (.t 124)⟩,
  ⟨(some 126), none, .load (some 4) (.t 125)⟩,
  ⟨(some 127), none, .iaddr 4 (.t 113) (.t 114)⟩,
  ⟨none, none, .store 4 (.t 127) (.t 122)⟩,
  ⟨(some 128), none, .iaddr 4 (.t 115) (.t 117)⟩,
  ⟨none, none, .store 4 (.t 128) (.t 126)⟩]))
 (.reg [⟨(some 111), none, .mov (.t 17)⟩,
  ⟨(some 112), none, .bin .sub (.t 111) (.c (.int .i64 1))⟩,
  ⟨(some 17), none, .mov (.t 112)⟩]))))))
 .ret))))
 .skip))
 (.seq (.reg [⟨(some 129), none, .mov (.t 1)⟩,
  ⟨(some 130), none, .mov (.t 3)⟩,
  ⟨(some 131), none, .bin .add (.t 129) (.t 130)⟩,
  ⟨(some 132), none, .conv (.int .u64) (.t 131)⟩,
  ⟨(some 133), none, .bin .shr (.t 132) (.c (.int .u64 1))⟩,
  ⟨(some 134), none, .conv (.int .i64) (.t 133)⟩,
  ⟨(some 18), none, .mov (.t 134)⟩])
 (.seq (.reg [⟨(some 135), none, .mov (.t 18)⟩,
  ⟨(some 136), none, .mov (.t 2)⟩,
  ⟨(some 137), none, .bin .add (.t 135) (.t 136)⟩,
  ⟨(some 19), none, .mov (.t 137)⟩])
 (.seq (.reg [⟨(some 20), none, .mov (.c (.int .i64 0))⟩,
  ⟨(some 21), none, .mov (.c (.int .i64 0))⟩])
 (.seq (.seq (.reg [⟨(some 138), none, .mov (.t 2)⟩,
  ⟨(some 139), none, .mov (.t 18)⟩,
  ⟨(some 140), none, .bin .gtr (.t 138) (.t 139)⟩])
 (.cond (.t 140) (.seq (.reg [⟨(some 141), none, .mov (.t 19)⟩,
  ⟨(some 142), none, .mov (.t 3)⟩,
  ⟨(some 143), none, .bin .sub (.t 141) (.t 142)⟩,
  ⟨(some 20), none, .mov (.t 143)⟩])
 (.reg [⟨(some 144), none, .mov (.t 18)⟩,
  ⟨(some 21), none, .mov (.t 144)⟩]))
 (.seq (.reg [⟨(some 145), none, .mov (.t 1)⟩,
  ⟨(some 20), none, .mov (.t 145)⟩])
 (.reg [⟨(some 146), none, .mov (.t 2)⟩,
  ⟨(some 21), none, .mov (.t 146)⟩]))))
 (.seq (.reg [⟨(some 147), none, .mov (.t 19)⟩,
  ⟨(some 148), none, .bin .sub (.t 147) (.c (.int .i64 1))⟩,
  ⟨(some 22), none, .mov (.t 148)⟩])
 (.seq (.block 8 (.loop [0, 1, 2, 3, 4, 18, 19, 20, 21, 22] [] (.seq (.seq (.reg [⟨(some 149), none, .mov (.t 20)⟩,
  ⟨(some 150), none, .mov (.t 21)⟩,
  ⟨(some 151), none, .bin .lss (.t 149) (.t 150)⟩])
 (.cond (.t 151) .skip
 (.exit 8)))
 (.block 9 (.seq (.reg [⟨(some 152), none, .mov (.t 20)⟩,
  ⟨(some 153), none, .mov (.t 21)⟩,
  ⟨(some 154), none, .bin .add (.t 152) (.t 153)⟩,
  ⟨(some 155), none, .conv (.int .u64) (.t 154)⟩,
  ⟨(some 156), none, .bin .shr (.t 155) (.c (.int .u64 1))⟩,
  ⟨(some 157), none, .conv (.int .i64) (.t 156)⟩,
  ⟨(some 23), none, .mov (.t 157)⟩])
 (.seq (.reg [⟨(some 158), none, .mov (.t 4)⟩,
  ⟨(some 159), none, .mov (.t 0)⟩,
  ⟨(some 160), none, .mov (.t 22)⟩,
  ⟨(some 161), none, .mov (.t 23)⟩,
  ⟨(some 162), none, .bin .sub (.t 160) (.t 161)⟩,
  ⟨(some 163), none, .iaddr 4 (.t 159) (.t 162)⟩,
  ⟨(some 164), none, .load (some 4) (.t 163)⟩,
  ⟨(some 165), none, .mov (.t 0)⟩,
  ⟨(some 166), none, .mov (.t 23)⟩,
  ⟨(some 167), none, .iaddr 4 (.t 165) (.t 166)⟩,
  ⟨(some 168), none, .load (some 4) (.t 167)⟩,
  ⟨(some 169), none, .call 0 [] (.t 158) [(.t 164), (.t 168)]⟩,
  ⟨(some 170), none, .bin .lss (.t 169) (.c (.int .i64 0))⟩,
  ⟨(some 171), none, .not (.t 170)⟩])
 (.cond (.t 171) (.reg [⟨(some 172), none, .mov (.t 23)⟩,
  ⟨(some 173), none, .bin .add (.t 172) (.c (.int .i64 1))⟩,
  ⟨(some 20), none, .mov (.t 173)⟩])
 (.reg [⟨(some 174), none, .mov (.t 23)⟩,
  ⟨(some 21), none, .mov (.t 174)⟩]))))))))
 (.seq (.reg [⟨(some 175), none, .mov (.t 19)⟩,
  ⟨(some 176), none, .mov (.t 20)⟩,
  ⟨(some 177), none, .bin .sub (.t 175) (.t 176)⟩,
  ⟨(some 24), none, .mov (.t 177)⟩])
 (.seq (.seq (.reg [⟨(some 178), none, .mov (.t 20)⟩,
  ⟨(some 179), none, .mov (.t 2)⟩,
  ⟨(some 180), none, .bin .lss (.t 178) (.t 179)⟩,
  ⟨(some 181), none, .mov (.t 180)⟩,
  ⟨(some 182), (some (181, true)), .mov (.t 2)⟩,
  ⟨(some 183), (some (181, true)), .mov (.t 24)⟩,
  ⟨(some 184), (some (181, true)), .bin .lss (.t 182) (.t 183)⟩,
  ⟨(some 185), none, .pick (.t 181) (.t 184) (.c (.bool false))⟩])
 (.cond (.t 185) (.reg [⟨(some 186), none, .mov (.t 0)⟩,
  ⟨(some 187), none, .mov (.t 20)⟩,
  ⟨(some 188), none, .mov (.t 2)⟩,
  ⟨(some 189), none, .mov (.t 24)⟩,
  ⟨(some 190), none, .mov (.t 4)⟩,
  ⟨(some 191), none, .call 0 [] (.c (.fn 91 [])) [(.t 186), (.t 187), (.t 188), (.t 189), (.t 190)]⟩])
 .skip))
 (.seq (.seq (.reg [⟨(some 192), none, .mov (.t 1)⟩,
  ⟨(some 193), none, .mov (.t 20)⟩,
  ⟨(some 194), none, .bin .lss (.t 192) (.t 193)⟩,
  ⟨(some 195), none, .mov (.t 194)⟩,
  ⟨(some 196), (some (195, true)), .mov (.t 20)⟩,
  ⟨(some 197), (some (195, true)), .mov (.t 18)⟩,
  ⟨(some 198), (some (195, true)), .bin .lss (.t 196) (.t 197)⟩,
  ⟨(some 199), none, .pick (.t 195) (.t 198) (.c (.bool false))⟩])
 (.cond (.t 199) (.reg [⟨(some 200), none, .mov (.t 0)⟩,
  ⟨(some 201), none, .mov (.t 1)⟩,
  ⟨(some 202), none, .mov (.t 20)⟩,
  ⟨(some 203), none, .mov (.t 18)⟩,
  ⟨(some 204), none, .mov (.t 4)⟩,
  ⟨(some 205), none, .call 0 [] (.c (.fn 83 [])) [(.t 200), (.t 201), (.t 202), (.t 203), (.t 204)]⟩])
 .skip))
 (.seq (.reg [⟨(some 206), none, .mov (.t 18)⟩,
  ⟨(some 207), none, .mov (.t 24)⟩,
  ⟨(some 208), none, .bin .lss (.t 206) (.t 207)⟩,
  ⟨(some 209), none, .mov (.t 208)⟩,
  ⟨(some 210), (some (209, true)), .mov (.t 24)⟩,
  ⟨(some 211), (some (209, true)), .mov (.t 3)⟩,
  ⟨(some 212), (some (209, true)), .bin .lss (.t 210) (.t 211)⟩,
  ⟨(some 213), none, .pick (.t 209) (.t 212) (.c (.bool false))⟩])
 (.cond (.t 213) (.reg [⟨(some 214), none, .mov (.t 0)⟩,
  ⟨(some 215), none, .mov (.t 18)⟩,
  ⟨(some 216), none, .mov (.t 24)⟩,
  ⟨(some 217), none, .mov (.t 3)⟩,
  ⟨(some 218), none, .mov (.t 4)⟩,
  ⟨(some 219), none, .call 0 [] (.c (.fn 83 [])) [(.t 214), (.t 215), (.t 216), (.t 217), (.t 218)]⟩])
 .skip))))))))))))),
  [], false, false, 220⟩
theorem co83 : compF Tryd.prog ⟨[], [(3, [0, 1, 4, 10, 11], []), (9, [0, 10, 13], []), (15, [0, 2, 4, 14, 15], []), (21, [0, 14, 17], []), (33, [0, 1, 2, 3, 4, 18, 19, 20, 21, 22], [])], [], [], [], [], 83, [], [], []⟩ false false Tryd.f83 = some ac83 := by kernel_rfl

/-- internal/bytealg.CompareString -/
def ac84 : AF := ⟨(.seq (.reg [⟨(some 4), none, .mov (.c (.int .i64 0))⟩])
 (.seq (.reg [⟨(some 5), none, .mov (.t 0)⟩,
  ⟨(some 6), none, .mov (.t 1)⟩,
  ⟨(some 7), none, .call 0 [] (.c (.fn 92 [])) [(.t 5), (.t 6)]⟩,
  ⟨(some 4), none, .mov (.t 7)⟩])
 .ret)),
  [.t 4], false, true, 8⟩
theorem co84 : compF Tryd.prog ⟨[], [], [], [], [], [], 84, [], [], []⟩ false true Tryd.f84 = some ac84 := by kernel_rfl

/-- cmp.Compare[int] -/
def ac85 : AF := ⟨(.seq (.reg [⟨(some 4), none, .mov (.c (.int .i64 0))⟩])
 (.seq (.reg [⟨(some 7), none, .mov (.t 0)⟩,
  ⟨(some 8), none, .call 0 [] (.c (.fn 93 [])) [(.t 7)]⟩,
  ⟨(some 5), none, .mov (.t 8)⟩])
 (.seq (.reg [⟨(some 9), none, .mov (.t 1)⟩,
  ⟨(some 10), none, .call 0 [] (.c (.fn 93 [])) [(.t 9)]⟩,
  ⟨(some 6), none, .mov (.t 10)⟩])
 (.seq (.seq (.reg [⟨(some 11), none, .mov (.t 5)⟩])
 (.cond (.t 11) (.seq (.seq (.reg [⟨(some 12), none, .mov (.t 6)⟩])
 (.cond (.t 12) (.seq (.reg [⟨(some 4), none, .mov (.c (.int .i64 0))⟩])
 .ret)
 .skip))
 (.seq (.reg [⟨(some 4), none, .mov (.c (.int .i64 (-1)))⟩])
 .ret))
 .skip))
 (.seq (.seq (.reg [⟨(some 13), none, .mov (.t 6)⟩])
 (.cond (.t 13) (.seq (.reg [⟨(some 4), none, .mov (.c (.int .i64 1))⟩])
 .ret)
 .skip))
 (.seq (.seq (.reg [⟨(some 14), none, .mov (.t 0)⟩,
  ⟨(some 15), none, .mov (.t 1)⟩,
  ⟨(some 16), none, .bin .lss (.t 14) (.t 15)⟩])
 (.cond (.t 16) (.seq (.reg [⟨(some 4), none, .mov (.c (.int .i64 (-1)))⟩])
 .ret)
 .skip))
 (.seq (.seq (.reg [⟨(some 17), none, .mov (.t 0)⟩,
  ⟨(some 18), none, .mov (.t 1)⟩,
  ⟨(some 19), none, .bin .gtr (.t 17) (.t 18)⟩])
 (.cond (.t 19) (.seq (.reg [⟨(some 4), none, .mov (.c (.int .i64 1))⟩])
 .ret)
 .skip))
 (.seq (.reg [⟨(some 4), none, .mov (.c (.int .i64 0))⟩])
 .ret)))))))),
  [.t 4], false, true, 20⟩
theorem co85 : compF Tryd.prog ⟨[], [], [], [], [], [], 85, [], [], []⟩ false true Tryd.f85 = some ac85 := by kernel_rfl

/-- slices.CompareFunc[[]paideia/api.Type,[]paideia/api.Type,paideia/api.Type,paideia/api.Type] -/
def ac86 : AF := ⟨(.seq (.reg [⟨(some 6), none, .mov (.c (.int .i64 0))⟩])
 (.seq (.seq (.reg [⟨(some 11), none, .mov (.t 0)⟩,
  ⟨(some 12), none, .len 1 (.t 11)⟩,
  ⟨(some 13), none, .mov (.c (.int .i64 0))⟩])
 (.block 0 (.loop [0, 1, 2, 11, 12, 13] [] (.seq (.reg [⟨(some 14), none, .bin .lss (.t 13) (.t 12)⟩])
 (.seq (.cond (.t 14) .skip
 (.exit 0))
 (.seq (.block 1 (.seq (.reg [⟨(some 15), none, .mov (.t 13)⟩,
  ⟨(some 16), none, .iaddr 3 (.t 11) (.t 13)⟩,
  ⟨(some 17), none, .load (some 3) (.t 16)⟩,
  ⟨(some 8), none, .alloc [(.int .i64 0), (.str []), (.sl .clip [])] false⟩,
  ⟨(some 7), none, .mov (.t 15)⟩,
  ⟨none, none, .store 3 (.t 8) (.t 17)⟩])
 (.seq (.seq (.reg [⟨(some 18), none, .mov (.t 7)⟩,
  ⟨(some 19), none, .mov (.t 1)⟩,
  ⟨(some 20), none, .len 1 (.t 19)⟩,
  ⟨(some 21), none, .bin .geq (.t 18) (.t 20)⟩])
 (.cond (.t 21) (.seq (.reg [⟨(some 6), none, .mov (.c (.int .i64 1))⟩])
 .ret)
 .skip))
 (.seq (.reg [⟨(some 22), none, .mov (.t 1)⟩,
  ⟨(some 23), none, .mov (.t 7)⟩,
  ⟨(some 24), none, .iaddr 3 (.t 22) (.t 23)⟩,
  ⟨(some 25), none, .load (some 3) (.t 24)⟩,
  ⟨(some 9), none, .alloc [(.int .i64 0), (.str []), (.sl .clip [])] false⟩,
  ⟨none, none, .store 3 (.t 9) (.t 25)⟩])
 (.seq (.reg [⟨(some 26), none, .mov (.t 2)⟩,
  ⟨(some 27), none, .load (some 3) (.t 8)⟩,
  ⟨(some 28), none, .load (some 3) (.t 9)⟩,
  ⟨(some 29), none, .call 0 [] (.t 26) [(.t 27), (.t 28)]⟩,
  ⟨(some 10), none, .mov (.t 29)⟩])
 (.seq (.reg [⟨(some 30), none, .mov (.t 10)⟩,
  ⟨(some 31), none, .bin .neq (.t 30) (.c (.int .i64 0))⟩])
 (.cond (.t 31) (.seq (.reg [⟨(some 32), none, .mov (.t 10)⟩,
  ⟨(some 6), none, .mov (.t 32)⟩])
 .ret)
 .skip)))))))
 (.reg [⟨(some 33), none, .bin .add (.t 13) (.c (.int .i64 1))⟩,
  ⟨(some 13), none, .mov (.t 33)⟩])))))))
 (.seq (.seq (.reg [⟨(some 34), none, .mov (.t 0)⟩,
  ⟨(some 35), none, .len 1 (.t 34)⟩,
  ⟨(some 36), none, .mov (.t 1)⟩,
  ⟨(some 37), none, .len 1 (.t 36)⟩,
  ⟨(some 38), none, .bin .lss (.t 35) (.t 37)⟩])
 (.cond (.t 38) (.seq (.reg [⟨(some 6), none, .mov (.c (.int .i64 (-1)))⟩])
 .ret)
 .skip))
 (.seq (.reg [⟨(some 6), none, .mov (.c (.int .i64 0))⟩])
 .ret)))),
  [.t 6], false, true, 39⟩
theorem co86 : compF Tryd.prog ⟨[], [(2, [0, 1, 2, 11, 12, 13], [])], [], [], [], [], 86, [], [], []⟩ false true Tryd.f86 = some ac86 := by kernel_rfl

/-- slices.IndexFunc[[]string,string] -/
def ac87 : AF := ⟨(.seq (.reg [⟨(some 4), none, .mov (.c (.int .i64 0))⟩])
 (.seq (.seq (.reg [⟨(some 6), none, .mov (.t 0)⟩,
  ⟨(some 7), none, .len 1 (.t 6)⟩,
  ⟨(some 8), none, .mov (.c (.int .i64 0))⟩])
 (.block 0 (.loop [0, 1, 7, 8] [] (.seq (.reg [⟨(some 9), none, .bin .lss (.t 8) (.t 7)⟩])
 (.seq (.cond (.t 9) .skip
 (.exit 0))
 (.seq (.block 1 (.seq (.reg [⟨(some 10), none, .mov (.t 8)⟩,
  ⟨(some 5), none, .mov (.t 10)⟩])
 (.seq (.reg [⟨(some 11), none, .mov (.t 1)⟩,
  ⟨(some 12), none, .mov (.t 0)⟩,
  ⟨(some 13), none, .mov (.t 5)⟩,
  ⟨(some 14), none, .iaddr 1 (.t 12) (.t 13)⟩,
  ⟨(some 15), none, .load none (.t 14)⟩,
  ⟨(some 16), none, .call 0 [] (.t 11) [(.t 15)]⟩])
 (.cond (.t 16) (.seq (.reg [⟨(some 17), none, .mov (.t 5)⟩,
  ⟨(some 4), none, .mov (.t 17)⟩])
 .ret)
 .skip))))
 (.reg [⟨(some 18), none, .bin .add (.t 8) (.c (.int .i64 1))⟩,
  ⟨(some 8), none, .mov (.t 18)⟩])))))))
 (.seq (.reg [⟨(some 4), none, .mov (.c (.int .i64 (-1)))⟩])
 .ret))),
  [.t 4], false, false, 19⟩
theorem co87 : compF Tryd.prog ⟨[], [(2, [0, 1, 7, 8], [])], [], [], [], [], 87, [], [], []⟩ false false Tryd.f87 = some ac87 := by kernel_rfl

/-- paideia/types.free -/
def ac88 : AF := ⟨(.seq (.reg [⟨(some 3), none, .box (.t 0) 3 false⟩,
  ⟨(some 6), none, .mov (.c (.sl .clip []))⟩])
 (.seq (.seq (.reg [⟨(some 9), none, .faddr 0 (.t 3)⟩,
  ⟨(some 10), none, .load none (.t 9)⟩])
 (.block 0 (.seq (.reg [⟨(some 12), none, .bin .eql (.t 10) (.c (.int .i64 1))⟩,
  ⟨(some 11), none, .mov (.t 12)⟩])
 (.cond (.t 11) (.seq (.reg [⟨(some 13), none, .mov (.t 1)⟩,
  ⟨(some 14), none, .faddr 1 (.t 3)⟩,
  ⟨(some 15), none, .load none (.t 14)⟩,
  ⟨(some 16), none, .call 0 [] (.c (.fn 52 [])) [(.t 13), (.t 15)]⟩,
  ⟨(some 17), none, .not (.t 16)⟩,
  ⟨(some 18), none, .mov (.t 17)⟩,
  ⟨(some 19), (some (18, true)), .mov (.t 2)⟩,
  ⟨(some 20), (some (18, true)), .faddr 1 (.t 3)⟩,
  ⟨(some 21), (some (18, true)), .load none (.t 20)⟩,
  ⟨(some 22), (some (18, true)), .call 0 [] (.c (.fn 52 [])) [(.t 19), (.t 21)]⟩,
  ⟨(some 23), (some (18, true)), .not (.t 22)⟩,
  ⟨(some 24), none, .pick (.t 18) (.t 23) (.c (.bool false))⟩])
 (.cond (.t 24) (.reg [⟨(some 25), none, .mov (.t 2)⟩,
  ⟨(some 26), none, .faddr 1 (.t 3)⟩,
  ⟨(some 27), none, .load none (.t 26)⟩,
  ⟨(some 28), none, .bslice [(.str [])] 1 [(0, (.t 27))]⟩,
  ⟨(some 29), none, .appV 1 (.t 25) (.t 28)⟩,
  ⟨(some 2), none, .mov (.t 29)⟩])
 .skip))
 (.seq (.reg [⟨(some 31), none, .bin .eql (.t 10) (.c (.int .i64 4))⟩,
  ⟨(some 30), none, .mov (.t 31)⟩])
 (.cond (.t 30) (.reg [⟨(some 32), none, .mov (.t 1)⟩,
  ⟨(some 33), none, .call 0 [] (.c (.fn 79 [])) [(.t 32)]⟩,
  ⟨(some 34), none, .faddr 1 (.t 3)⟩,
  ⟨(some 35), none, .loadL none (.t 34)⟩,
  ⟨(some 36), none, .bslice [(.str [])] 1 [(0, (.t 35))]⟩,
  ⟨(some 37), none, .append 1 (.t 33) (.t 36)⟩,
  ⟨(some 1), none, .mov (.t 37)⟩])
 .skip))))))
 (.seq (.seq (.reg [⟨(some 38), none, .faddr 2 (.t 3)⟩,
  ⟨(some 39), none, .load none (.t 38)⟩,
  ⟨(some 40), none, .len 1 (.t 39)⟩,
  ⟨(some 41), none, .mov (.c (.int .i64 0))⟩])
 (.block 1 (.loop [1, 2, 39, 40, 41] [] (.seq (.reg [⟨(some 42), none, .bin .lss (.t 41) (.t 40)⟩])
 (.seq (.cond (.t 42) .skip
 (.exit 1))
 (.seq (.block 2 (.seq (.reg [⟨(some 43), none, .iaddr 3 (.t 39) (.t 41)⟩,
  ⟨(some 44), none, .load (some 3) (.t 43)⟩,
  ⟨(some 8), none, .alloc [(.int .i64 0), (.str []), (.sl .clip [])] false⟩,
  ⟨none, none, .store 3 (.t 8) (.t 44)⟩])
 (.reg [⟨(some 45), none, .load (some 3) (.t 8)⟩,
  ⟨(some 46), none, .mov (.t 1)⟩,
  ⟨(some 47), none, .mov (.t 2)⟩,
  ⟨(some 48), none, .call 0 [2] (.c (.fn 88 [])) [(.t 45), (.t 46), (.t 47)]⟩,
  ⟨(some 2), none, .mov (.t 48)⟩])))
 (.reg [⟨(some 49), none, .bin .add (.t 41) (.c (.int .i64 1))⟩,
  ⟨(some 41), none, .mov (.t 49)⟩])))))))
 (.seq (.reg [⟨(some 50), none, .mov (.t 2)⟩,
  ⟨(some 6), none, .mov (.t 50)⟩])
 .ret)))),
  [.t 6], true, false, 51⟩
theorem co88 : compF Tryd.prog ⟨[], [(8, [1, 2, 39, 40, 41], [])], [(88, 0, [2])], [], [], [2000029], 88, [], [], []⟩ true false Tryd.f88 = some ac88 := by kernel_rfl

/-- (paideia/subst.Subst).put -/
def ac89 : AF := ⟨(.seq (.reg [⟨(some 3), none, .box (.t 0) 1 false⟩,
  ⟨(some 5), none, .box (.t 2) 3 false⟩])
 (.seq (.reg [⟨(some 6), none, .faddr 0 (.t 5)⟩,
  ⟨(some 7), none, .load none (.t 6)⟩,
  ⟨(some 8), none, .bin .neq (.t 7) (.c (.int .i64 1))⟩,
  ⟨(some 9), none, .mov (.t 8)⟩,
  ⟨(some 10), (some (9, false)), .faddr 1 (.t 5)⟩,
  ⟨(some 11), (some (9, false)), .load none (.t 10)⟩,
  ⟨(some 12), (some (9, false)), .mov (.t 1)⟩,
  ⟨(some 13), (some (9, false)), .bin .neq (.t 11) (.t 12)⟩,
  ⟨(some 14), none, .pick (.t 9) (.c (.bool true)) (.t 13)⟩])
 (.cond (.t 14) (.reg [⟨(some 15), none, .faddr 0 (.t 3)⟩,
  ⟨(some 16), none, .loadL none (.t 15)⟩,
  ⟨(some 17), none, .mov (.t 1)⟩,
  ⟨(some 18), none, .load (some 3) (.t 5)⟩,
  ⟨(some 19), none, .call 0 [] (.c (.fn 50 [])) [(.t 18)]⟩,
  ⟨none, none, .mapset .str (.t 16) (.t 17) (.t 19)⟩])
 .skip))),
  [], false, false, 20⟩
theorem co89 : compF Tryd.prog ⟨[], [], [], [], [], [], 89, [], [], []⟩ false false Tryd.f89 = some ac89 := by kernel_rfl

/-- slices.rotateCmpFunc[paideia/api.Pred] -/
def ac91 : AF := ⟨(.seq (.reg [⟨(some 12), none, .mov (.t 2)⟩,
  ⟨(some 13), none, .mov (.t 1)⟩,
  ⟨(some 14), none, .bin .sub (.t 12) (.t 13)⟩,
  ⟨(some 10), none, .mov (.t 14)⟩])
 (.seq (.reg [⟨(some 15), none, .mov (.t 3)⟩,
  ⟨(some 16), none, .mov (.t 2)⟩,
  ⟨(some 17), none, .bin .sub (.t 15) (.t 16)⟩,
  ⟨(some 11), none, .mov (.t 17)⟩])
 (.seq (.block 0 (.loop [0, 2, 4, 10, 11] [] (.seq (.seq (.reg [⟨(some 18), none, .mov (.t 10)⟩,
  ⟨(some 19), none, .mov (.t 11)⟩,
  ⟨(some 20), none, .bin .neq (.t 18) (.t 19)⟩])
 (.cond (.t 20) .skip
 (.exit 0)))
 (.block 1 (.seq (.reg [⟨(some 21), none, .mov (.t 10)⟩,
  ⟨(some 22), none, .mov (.t 11)⟩,
  ⟨(some 23), none, .bin .gtr (.t 21) (.t 22)⟩])
 (.cond (.t 23) (.seq (.reg [⟨(some 24), none, .mov (.t 0)⟩,
  ⟨(some 25), none, .mov (.t 2)⟩,
  ⟨(some 26), none, .mov (.t 10)⟩,
  ⟨(some 27), none, .bin .sub (.t 25) (.t 26)⟩,
  ⟨(some 28), none, .mov (.t 2)⟩,
  ⟨(some 29), none, .mov (.t 11)⟩,
  ⟨(some 30), none, .mov (.t 4)⟩,
  ⟨(some 31), none, .call 0 [] (.c (.fn 98 [])) [(.t 24), (.t 27), (.t 28), (.t 29), (.t 30)]⟩])
 (.reg [⟨(some 32), none, .mov (.t 10)⟩,
  ⟨(some 33), none, .mov (.t 11)⟩,
  ⟨(some 34), none, .bin .sub (.t 32) (.t 33)⟩,
  ⟨(some 10), none, .mov (.t 34)⟩]))
 (.seq (.reg [⟨(some 35), none, .mov (.t 0)⟩,
  ⟨(some 36), none, .mov (.t 2)⟩,
  ⟨(some 37), none, .mov (.t 10)⟩,
  ⟨(some 38), none, .bin .sub (.t 36) (.t 37)⟩,
  ⟨(some 39), none, .mov (.t 2)⟩,
  ⟨(some 40), none, .mov (.t 11)⟩,
  ⟨(some 41), none, .bin .add (.t 39) (.t 40)⟩,
  ⟨(some 42), none, .mov (.t 10)⟩,
  ⟨(some 43), none, .bin .sub (.t 41) (.t 42)⟩,
  ⟨(some 44), none, .mov (.t 10)⟩,
  ⟨(some 45), none, .mov (.t 4)⟩,
  ⟨(some 46), none, .call 0 [] (.c (.fn 98 [])) [(.t 35), (.t 38), (.t 43), (.t 44), (.t 45)]⟩])
 (.reg [⟨(some 47), none, .mov (.t 11)⟩,
  ⟨(some 48), none, .mov (.t 10)⟩,
  ⟨(some 49), none, .bin .sub (.t 47) (.t 48)⟩,
  ⟨(some 11), none, .mov (.t 49)⟩]))))))))
 (.reg [⟨(some 50), none, .mov (.t 0)⟩,
  ⟨(some 51), none, .mov (.t 2)⟩,
  ⟨(some 52), none, .mov (.t 10)⟩,
  ⟨(some 53), none, .bin .sub (.t 51) (.t 52)⟩,
  ⟨(some 54), none, .mov (.t 2)⟩,
  ⟨(some 55), none, .mov (.t 10)⟩,
  ⟨(some 56), none, .mov (.t 4)⟩,
  ⟨(some 57), none, .call 0 [] (.c (.fn 98 [])) [(.t 50), (.t 53), (.t 54), (.t 55), (.t 56)]⟩])))),
  [], false, false, 58⟩
theorem co91 : compF Tryd.prog ⟨[], [(2, [0, 2, 4, 10, 11], [])], [], [], [], [], 91, [], [], []⟩ false false Tryd.f91 = some ac91 := by kernel_rfl

/-- cmp.isNaN[int] -/
def ac93 : AF := ⟨(.seq (.reg [⟨(some 2), none, .mov (.c (.bool false))⟩])
 (.seq (.reg [⟨(some 3), none, .mov (.t 0)⟩,
  ⟨(some 4), none, .mov (.t 0)⟩,
  ⟨(some 5), none, .bin .neq (.t 3) (.t 4)⟩,
  ⟨(some 2), none, .mov (.t 5)⟩])
 .ret)),
  [.t 2], false, true, 6⟩
theorem co93 : compF Tryd.prog ⟨[], [], [], [], [], [], 93, [], [], []⟩ false true Tryd.f93 = some ac93 := by kernel_rfl

/-- slices.swapRangeCmpFunc[paideia/api.Pred] -/
def ac98 : AF := ⟨(.seq (.reg [⟨(some 10), none, .mov (.c (.int .i64 0))⟩])
 (.block 0 (.loop [0, 1, 2, 3, 10] [] (.seq (.seq (.reg [⟨(some 11), none, .mov (.t 10)⟩,
  ⟨(some 12), none, .mov (.t 3)⟩,
  ⟨(some 13), none, .bin .lss (.t 11) (.t 12)⟩])
 (.cond (.t 13) .skip
 (.exit 0)))
 (.seq (.block 1 (.reg [⟨(some 16), none, .mov (.t 0)⟩,
  ⟨(some 17), none, .mov (.t 1)⟩,
  ⟨(some 18), none, .mov (.t 10)⟩,
  ⟨(some 19), none, .bin .add (.t 17) (.t 18)⟩,
  ⟨(some 20), none, .mov (.t 0)⟩,
  ⟨(some 21), none, .mov (.t 2)⟩,
  ⟨(some 22), none, .mov (.t 10)⟩,
  ⟨(some 23), none, .bin .add (.t 21) (.t 22)⟩,
  ⟨(some 24), none, .mov (.t 0)⟩,
  ⟨(some 25), none, .mov (.t 2)⟩,
  ⟨(some 26), none, .mov (.t 10)⟩,
  ⟨(some 27), none, .bin .add (.t 25) (.t 26)⟩,
  ⟨(some 28), none, .iaddr 4 (.t 24) (.t 27)⟩,
  ⟨(some 29), none, .load (some 4) (.t 28)⟩,
  ⟨(some 30), none, .mov (.t 0)⟩,
  ⟨(some 31), none, .mov (.t 1)⟩,
  ⟨(some 32), none, .mov (.t 10)⟩,
  ⟨(some 33), none, .bin .add (.t 31) (.t 32)⟩,
  ⟨(some 34), none, .iaddr 4 (.t 30) (.t 33)⟩,
  ⟨(some 35), none, .load (some 4) (.t 34)⟩,
  ⟨(some 36), none, .iaddr 4 (.t 16) (.t 19)⟩,
  ⟨none, none, .store 4 (.t 36) (.t 29)⟩,
  ⟨(some 37), none, .iaddr 4 (.t 20) (.t 23)⟩,
  ⟨none, none, .store 4 (.t 37) (.t 35)⟩]))
 (.reg [⟨(some 14), none, .mov (.t 10)⟩,
  ⟨(some 15), none, .bin .add (.t 14) (.c (.int .i64 1))⟩,
  ⟨(some 10), none, .mov (.t 15)⟩])))))),
  [], false, false, 38⟩
theorem co98 : compF Tryd.prog ⟨[], [(1, [0, 1, 2, 3, 10], [])], [], [], [], [], 98, [], [], []⟩ false false Tryd.f98 = some ac98 := by kernel_rfl

-- 121 (paideia/subst.Subst).Len: not compiled

theorem prim90 : PrimOkG Tryd.prog [2000001] 90 itoaP := itoaP_ok (g := 1) Tryd.func90 (by kernel_rfl) (by kernel_rfl) (by kernel_rfl) (by simp) Tryd.internal_strconv_FormatInt_10
theorem prim92 : PrimOkG Tryd.prog [2000001] 92 cmpP := (cmpP_ok Tryd.func92 (by kernel_rfl) (by kernel_rfl) (by kernel_rfl) (by kernel_rfl)).g

def ap3 : AP := fun f vr => match f, vr with
  | 77, 0 => some (.code ac77)
  | 78, 0 => some (.code ac78)
  | 79, 0 => some (.code ac79)
  | 80, 0 => some (.code ac80)
  | 81, 0 => some (.code ac81)
  | 82, 0 => some (.code ac82)
  | 83, 0 => some (.code ac83)
  | 84, 0 => some (.code ac84)
  | 85, 0 => some (.code ac85)
  | 86, 0 => some (.code ac86)
  | 87, 0 => some (.code ac87)
  | 88, 0 => some (.code ac88)
  | 89, 0 => some (.code ac89)
  | 91, 0 => some (.code ac91)
  | 93, 0 => some (.code ac93)
  | 98, 0 => some (.code ac98)
  | 90, 0 => some (.prim itoaP)
  | 92, 0 => some (.prim cmpP)
  | _, _ => none

theorem table3 : TableOk Tryd.prog ap3 [2000001] := by
  intro f vr fd h
  unfold ap3 at h
  split at h
  · cases h; exact ⟨_, _, Tryd.func77, co77, by decide, rfl⟩
  · cases h; exact ⟨_, _, Tryd.func78, co78, by decide, rfl⟩
  · cases h; exact ⟨_, _, Tryd.func79, co79, by decide, rfl⟩
  · cases h; exact ⟨_, _, Tryd.func80, co80, by decide, rfl⟩
  · cases h; exact ⟨_, _, Tryd.func81, co81, by decide, rfl⟩
  · cases h; exact ⟨_, _, Tryd.func82, co82, by decide, rfl⟩
  · cases h; exact ⟨_, _, Tryd.func83, co83, by decide, rfl⟩
  · cases h; exact ⟨_, _, Tryd.func84, co84, by decide, rfl⟩
  · cases h; exact ⟨_, _, Tryd.func85, co85, by decide, rfl⟩
  · cases h; exact ⟨_, _, Tryd.func86, co86, by decide, rfl⟩
  · cases h; exact ⟨_, _, Tryd.func87, co87, by decide, rfl⟩
  · cases h; exact ⟨_, _, Tryd.func88, co88, by decide, rfl⟩
  · cases h; exact ⟨_, _, Tryd.func89, co89, by decide, rfl⟩
  · cases h; exact ⟨_, _, Tryd.func91, co91, by decide, rfl⟩
  · cases h; exact ⟨_, _, Tryd.func93, co93, by decide, rfl⟩
  · cases h; exact ⟨_, _, Tryd.func98, co98, by decide, rfl⟩
  · cases h; exact prim90
  · cases h; exact prim92
  · cases h

def ap2 : AP := fun f vr => match f, vr with
  | 52, 0 => some (.code ac52)
  | 53, 0 => some (.code ac53)
  | 54, 0 => some (.code ac54)
  | 55, 0 => some (.code ac55)
  | 56, 0 => some (.code ac56)
  | 57, 0 => some (.code ac57)
  | 58, 0 => some (.code ac58)
  | 59, 0 => some (.code ac59)
  | 60, 0 => some (.code ac60)
  | 61, 0 => some (.code ac61)
  | 62, 0 => some (.code ac62)
  | 63, 0 => some (.code ac63)
  | 64, 0 => some (.code ac64)
  | 65, 0 => some (.code ac65)
  | 66, 0 => some (.code ac66)
  | 67, 0 => some (.code ac67)
  | 68, 0 => some (.code ac68)
  | 69, 0 => some (.code ac69)
  | 70, 0 => some (.code ac70)
  | 71, 0 => some (.code ac71)
  | 72, 0 => some (.code ac72)
  | 73, 0 => some (.code ac73)
  | 74, 0 => some (.code ac74)
  | 75, 0 => some (.code ac75)
  | 76, 0 => some (.code ac76)
  | f, vr => ap3 f vr

theorem table2 : TableOk Tryd.prog ap2 [2000001] := by
  intro f vr fd h
  unfold ap2 at h
  split at h
  · cases h; exact ⟨_, _, Tryd.func52, co52, by decide, rfl⟩
  · cases h; exact ⟨_, _, Tryd.func53, co53, by decide, rfl⟩
  · cases h; exact ⟨_, _, Tryd.func54, co54, by decide, rfl⟩
  · cases h; exact ⟨_, _, Tryd.func55, co55, by decide, rfl⟩
  · cases h; exact ⟨_, _, Tryd.func56, co56, by decide, rfl⟩
  · cases h; exact ⟨_, _, Tryd.func57, co57, by decide, rfl⟩
  · cases h; exact ⟨_, _, Tryd.func58, co58, by decide, rfl⟩
  · cases h; exact ⟨_, _, Tryd.func59, co59, by decide, rfl⟩
  · cases h; exact ⟨_, _, Tryd.func60, co60, by decide, rfl⟩
  · cases h; exact ⟨_, _, Tryd.func61, co61, by decide, rfl⟩
  · cases h; exact ⟨_, _, Tryd.func62, co62, by decide, rfl⟩
  · cases h; exact ⟨_, _, Tryd.func63, co63, by decide, rfl⟩
  · cases h; exact ⟨_, _, Tryd.func64, co64, by decide, rfl⟩
  · cases h; exact ⟨_, _, Tryd.func65, co65, by decide, rfl⟩
  · cases h; exact ⟨_, _, Tryd.func66, co66, by decide, rfl⟩
  · cases h; exact ⟨_, _, Tryd.func67, co67, by decide, rfl⟩
  · cases h; exact ⟨_, _, Tryd.func68, co68, by decide, rfl⟩
  · cases h; exact ⟨_, _, Tryd.func69, co69, by decide, rfl⟩
  · cases h; exact ⟨_, _, Tryd.func70, co70, by decide, rfl⟩
  · cases h; exact ⟨_, _, Tryd.func71, co71, by decide, rfl⟩
  · cases h; exact ⟨_, _, Tryd.func72, co72, by decide, rfl⟩
  · cases h; exact ⟨_, _, Tryd.func73, co73, by decide, rfl⟩
  · cases h; exact ⟨_, _, Tryd.func74, co74, by decide, rfl⟩
  · cases h; exact ⟨_, _, Tryd.func75, co75, by decide, rfl⟩
  · cases h; exact ⟨_, _, Tryd.func76, co76, by decide, rfl⟩
  · exact table3 _ _ _ h

def ap1 : AP := fun f vr => match f, vr with
  | 28, 0 => some (.code ac28)
  | 29, 0 => some (.code ac29)
  | 30, 0 => some (.code ac30)
  | 31, 0 => some (.code ac31)
  | 32, 0 => some (.code ac32)
  | 33, 0 => some (.code ac33)
  | 34, 0 => some (.code ac34)
  | 35, 0 => some (.code ac35)
  | 36, 0 => some (.code ac36)
  | 37, 0 => some (.code ac37)
  | 38, 0 => some (.code ac38)
  | 38, 1 => some (.code ac38v1)
  | 39, 0 => some (.code ac39)
  | 40, 0 => some (.code ac40)
  | 41, 0 => some (.code ac41)
  | 42, 0 => some (.code ac42)
  | 43, 0 => some (.code ac43)
  | 44, 0 => some (.code ac44)
  | 45, 0 => some (.code ac45)
  | 46, 0 => some (.code ac46)
  | 47, 0 => some (.code ac47)
  | 48, 0 => some (.code ac48)
  | 49, 0 => some (.code ac49)
  | 50, 0 => some (.code ac50)
  | 51, 0 => some (.codeF ac51)
  | f, vr => ap2 f vr

theorem table1 : TableOk Tryd.prog ap1 [2000001] := by
  intro f vr fd h
  unfold ap1 at h
  split at h
  · cases h; exact ⟨_, _, Tryd.func28, co28, by decide, rfl⟩
  · cases h; exact ⟨_, _, Tryd.func29, co29, by decide, rfl⟩
  · cases h; exact ⟨_, _, Tryd.func30, co30, by decide, rfl⟩
  · cases h; exact ⟨_, _, Tryd.func31, co31, by decide, rfl⟩
  · cases h; exact ⟨_, _, Tryd.func32, co32, by decide, rfl⟩
  · cases h; exact ⟨_, _, Tryd.func33, co33, by decide, rfl⟩
  · cases h; exact ⟨_, _, Tryd.func34, co34, by decide, rfl⟩
  · cases h; exact ⟨_, _, Tryd.func35, co35, by decide, rfl⟩
  · cases h; exact ⟨_, _, Tryd.func36, co36, by decide, rfl⟩
  · cases h; exact ⟨_, _, Tryd.func37, co37, by decide, rfl⟩
  · cases h; exact ⟨_, _, Tryd.func38, co38, by decide, rfl⟩
  · cases h; exact ⟨_, _, Tryd.func38, co38v1, by decide, rfl⟩
  · cases h; exact ⟨_, _, Tryd.func39, co39, by decide, rfl⟩
  · cases h; exact ⟨_, _, Tryd.func40, co40, by decide, rfl⟩
  · cases h; exact ⟨_, _, Tryd.func41, co41, by decide, rfl⟩
  · cases h; exact ⟨_, _, Tryd.func42, co42, by decide, rfl⟩
  · cases h; exact ⟨_, _, Tryd.func43, co43, by decide, rfl⟩
  · cases h; exact ⟨_, _, Tryd.func44, co44, by decide, rfl⟩
  · cases h; exact ⟨_, _, Tryd.func45, co45, by decide, rfl⟩
  · cases h; exact ⟨_, _, Tryd.func46, co46, by decide, rfl⟩
  · cases h; exact ⟨_, _, Tryd.func47, co47, by decide, rfl⟩
  · cases h; exact ⟨_, _, Tryd.func48, co48, by decide, rfl⟩
  · cases h; exact ⟨_, _, Tryd.func49, co49, by decide, rfl⟩
  · cases h; exact ⟨_, _, Tryd.func50, co50, by decide, rfl⟩
  · cases h; exact ⟨_, _, Tryd.func51, co51, by decide, rfl⟩
  · exact table2 _ _ _ h

def ap0 : AP := fun f vr => match f, vr with
  | 3, 0 => some (.code ac3)
  | 4, 0 => some (.code ac4)
  | 5, 0 => some (.code ac5)
  | 6, 0 => some (.code ac6)
  | 7, 0 => some (.code ac7)
  | 8, 0 => some (.code ac8)
  | 9, 0 => some (.codeF ac9)
  | 10, 0 => some (.code ac10)
  | 11, 0 => some (.code ac11)
  | 12, 0 => some (.code ac12)
  | 13, 0 => some (.code ac13)
  | 14, 0 => some (.code ac14)
  | 15, 0 => some (.codeF ac15)
  | 16, 0 => some (.code ac16)
  | 17, 0 => some (.code ac17)
  | 18, 0 => some (.code ac18)
  | 19, 0 => some (.codeF ac19)
  | 20, 0 => some (.code ac20)
  | 21, 0 => some (.code ac21)
  | 22, 0 => some (.code ac22)
  | 23, 0 => some (.code ac23)
  | 24, 0 => some (.code ac24)
  | 25, 0 => some (.code ac25)
  | 26, 0 => some (.code ac26)
  | 27, 0 => some (.code ac27)
  | f, vr => ap1 f vr

theorem table0 : TableOk Tryd.prog ap0 [2000001] := by
  intro f vr fd h
  unfold ap0 at h
  split at h
  · cases h; exact ⟨_, _, Tryd.func3, co3, by decide, rfl⟩
  · cases h; exact ⟨_, _, Tryd.func4, co4, by decide, rfl⟩
  · cases h; exact ⟨_, _, Tryd.func5, co5, by decide, rfl⟩
  · cases h; exact ⟨_, _, Tryd.func6, co6, by decide, rfl⟩
  · cases h; exact ⟨_, _, Tryd.func7, co7, by decide, rfl⟩
  · cases h; exact ⟨_, _, Tryd.func8, co8, by decide, rfl⟩
  · cases h; exact ⟨_, _, Tryd.func9, co9, by decide, rfl⟩
  · cases h; exact ⟨_, _, Tryd.func10, co10, by decide, rfl⟩
  · cases h; exact ⟨_, _, Tryd.func11, co11, by decide, rfl⟩
  · cases h; exact ⟨_, _, Tryd.func12, co12, by decide, rfl⟩
  · cases h; exact ⟨_, _, Tryd.func13, co13, by decide, rfl⟩
  · cases h; exact ⟨_, _, Tryd.func14, co14, by decide, rfl⟩
  · cases h; exact ⟨_, _, Tryd.func15, co15, by decide, rfl⟩
  · cases h; exact ⟨_, _, Tryd.func16, co16, by decide, rfl⟩
  · cases h; exact ⟨_, _, Tryd.func17, co17, by decide, rfl⟩
  · cases h; exact ⟨_, _, Tryd.func18, co18, by decide, rfl⟩
  · cases h; exact ⟨_, _, Tryd.func19, co19, by decide, rfl⟩
  · cases h; exact ⟨_, _, Tryd.func20, co20, by decide, rfl⟩
  · cases h; exact ⟨_, _, Tryd.func21, co21, by decide, rfl⟩
  · cases h; exact ⟨_, _, Tryd.func22, co22, by decide, rfl⟩
  · cases h; exact ⟨_, _, Tryd.func23, co23, by decide, rfl⟩
  · cases h; exact ⟨_, _, Tryd.func24, co24, by decide, rfl⟩
  · cases h; exact ⟨_, _, Tryd.func25, co25, by decide, rfl⟩
  · cases h; exact ⟨_, _, Tryd.func26, co26, by decide, rfl⟩
  · cases h; exact ⟨_, _, Tryd.func27, co27, by decide, rfl⟩
  · exact table1 _ _ _ h

def ap : AP := ap0
theorem tableOk : TableOk Tryd.prog ap [2000001] := table0

end Go.Ot
