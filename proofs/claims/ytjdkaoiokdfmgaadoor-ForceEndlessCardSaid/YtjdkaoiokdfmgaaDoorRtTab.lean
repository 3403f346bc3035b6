/- The seat's functions on the abstract machine. -/
import Derived.Test.YtjdkaoiokdfmgaaDoorAmX
import Derived.Test.YtjdkaoiokdfmgaaDoorAmZ
import Derived.Test.YtjdkaoiokdfmgaaDoorAmL
import Derived.Test.YtjdkaoiokdfmgaaDoorAmQ
import Derived.Test.YtjdkaoiokdfmgaaDoorAmU
import Derived.Test.YtjdkaoiokdfmgaaDoorAmI
import Derived.Test.YtjdkaoiokdfmgaaDoorRtShelf
import Derived.Test.YtjdkaoiokdfmgaaDoorRtUi
import Derived.Test.YtjdkaoiokdfmgaaDoorProg
namespace Go.Rt
open Go.Am Go.Proofs

set_option maxRecDepth 100000
def cut3 : Nat := 3
def mid3 : AC := (.reg [⟨(some 20), none, .mov (.t 1)⟩,
  ⟨(some 21), none, .bin .rem (.t 20) (.c (.int .i64 30))⟩,
  ⟨(some 22), none, .bin .add (.t 21) (.c (.int .i64 30))⟩,
  ⟨(some 23), none, .bin .rem (.t 22) (.c (.int .i64 30))⟩,
  ⟨(some 1), none, .mov (.t 23)⟩])
def rest3 : AC := (.seq (.reg [⟨(some 24), none, .mov (.t 0)⟩,
  ⟨(some 25), none, .build [(.int .i64 0), (.str []), (.int .i64 0), (.int .i64 0), (.str []), (.sl .clip []), (.sl .clip []), (.sl .clip []), (.sl .clip [])] [(0, 1, (.c (.int .i64 3))), (2, 1, (.t 24))]⟩,
  ⟨(some 6), none, .alloc [(.int .i64 0), (.str []), (.int .i64 0), (.int .i64 0), (.str []), (.sl .clip []), (.sl .clip []), (.sl .clip []), (.sl .clip [])] false⟩,
  ⟨none, none, .store 9 (.t 6) (.t 25)⟩])
 (.seq (.reg [⟨(some 27), none, .load (some 9) (.t 6)⟩,
  ⟨(some 28), none, .call 0 [] (.c (.fn 6 [])) [(.t 27), (.c (.int .i64 1000)), (.c (.int .i64 100))]⟩,
  ⟨(some 26), none, .mov (.t 28)⟩,
  ⟨(some 29), none, .extract (.t 26) 0⟩,
  ⟨(some 30), none, .extract (.t 26) 1⟩,
  ⟨(some 7), none, .mov (.t 29)⟩,
  ⟨(some 8), none, .mov (.t 30)⟩])
 (.seq (.reg [⟨(some 32), none, .mov (.t 0)⟩,
  ⟨(some 33), none, .call 0 [] (.c (.fn 7 [])) [(.c (.str [112, 114, 105, 109, 73, 110, 116, 83, 104, 111, 119])), (.t 32)]⟩,
  ⟨(some 31), none, .mov (.t 33)⟩,
  ⟨(some 34), none, .extract (.t 31) 0⟩,
  ⟨(some 35), none, .extract (.t 31) 1⟩,
  ⟨(some 9), none, .mov (.t 34)⟩,
  ⟨(some 10), none, .mov (.t 35)⟩])
 (.seq (.reg [⟨(some 36), none, .mov (.t 9)⟩,
  ⟨(some 11), none, .mov (.t 36)⟩])
 (.seq (.seq (.reg [⟨(some 37), none, .mov (.t 0)⟩,
  ⟨(some 38), none, .bin .lss (.t 37) (.c (.int .i64 0))⟩])
 (.cond (.t 38) (.reg [⟨(some 39), none, .mov (.t 9)⟩,
  ⟨(some 40), none, .slice 0 (.t 39) (some (.c (.int .i64 1))) none none⟩,
  ⟨(some 41), none, .bin .add (.c (.str [40, 48, 32, 45, 32])) (.t 40)⟩,
  ⟨(some 42), none, .bin .add (.t 41) (.c (.str [41]))⟩,
  ⟨(some 11), none, .mov (.t 42)⟩])
 .skip))
 (.seq (.reg [⟨(some 43), none, .load (some 9) (.t 6)⟩,
  ⟨(some 44), none, .call 0 [] (.c (.fn 8 [])) [(.t 43), (.c (.int .i64 100))]⟩,
  ⟨(some 12), none, .mov (.t 44)⟩])
 (.seq (.reg [⟨(some 46), none, .call 0 [] (.c (.fn 9 [])) [(.c (.str [73, 110, 116])), (.c (.sl .clip []))]⟩,
  ⟨(some 47), none, .loadL (some 9) (.t 6)⟩,
  ⟨(some 48), none, .bslice [(.int .i64 0), (.str []), (.int .i64 0), (.int .i64 0), (.str []), (.sl .clip []), (.sl .clip []), (.sl .clip []), (.sl .clip [])] 1 [(0, (.t 47))]⟩,
  ⟨(some 49), none, .build [(.int .i64 0), (.str []), (.int .i64 0), (.int .i64 0), (.str []), (.sl .clip []), (.sl .clip []), (.sl .clip []), (.sl .clip [])] [(0, 1, (.c (.int .i64 6))), (1, 1, (.c (.str [120]))), (3, 3, (.t 46)), (6, 1, (.t 48))]⟩,
  ⟨(some 50), none, .call 0 [] (.c (.fn 6 [])) [(.t 49), (.c (.int .i64 1000)), (.c (.int .i64 100))]⟩,
  ⟨(some 45), none, .mov (.t 50)⟩,
  ⟨(some 51), none, .extract (.t 45) 0⟩,
  ⟨(some 52), none, .extract (.t 45) 1⟩,
  ⟨(some 13), none, .mov (.t 51)⟩,
  ⟨(some 14), none, .mov (.t 52)⟩])
 (.seq (.seq (.reg [⟨(some 53), none, .mov (.t 12)⟩,
  ⟨(some 54), none, .eqnil .ptr false (.t 53)⟩])
 (.cond (.t 54) (.seq (.reg [⟨(some 4), none, .mov (.c (.bool false))⟩])
 .ret)
 .skip))
 (.seq (.reg [⟨(some 56), none, .mov (.t 12)⟩,
  ⟨(some 57), none, .mov (.t 1)⟩,
  ⟨(some 58), none, .call 0 [] (.c (.fn 10 [])) [(.t 56), (.c (.int .i64 1000)), (.t 57)]⟩,
  ⟨(some 55), none, .mov (.t 58)⟩,
  ⟨(some 59), none, .extract (.t 55) 0⟩,
  ⟨(some 60), none, .extract (.t 55) 1⟩,
  ⟨(some 15), none, .mov (.t 59)⟩,
  ⟨(some 16), none, .mov (.t 60)⟩])
 (.seq (.seq (.reg [⟨(some 61), none, .mov (.t 11)⟩,
  ⟨(some 62), none, .len 0 (.t 61)⟩,
  ⟨(some 63), none, .mov (.t 1)⟩,
  ⟨(some 64), none, .bin .gtr (.t 62) (.t 63)⟩])
 (.cond (.t 64) (.seq (.reg [⟨(some 65), none, .mov (.t 5)⟩,
  ⟨(some 66), none, .mov (.t 65)⟩,
  ⟨(some 67), (some (66, true)), .mov (.t 7)⟩,
  ⟨(some 68), (some (66, true)), .mov (.t 11)⟩,
  ⟨(some 69), (some (66, true)), .bin .eql (.t 67) (.t 68)⟩,
  ⟨(some 70), none, .pick (.t 66) (.t 69) (.c (.bool false))⟩,
  ⟨(some 71), none, .mov (.t 70)⟩,
  ⟨(some 72), (some (71, true)), .mov (.t 16)⟩,
  ⟨(some 73), (some (71, true)), .call 0 [] (.c (.fn 11 [])) [(.t 72), (.c (.int .i64 111))]⟩,
  ⟨(some 74), none, .pick (.t 71) (.t 73) (.c (.bool false))⟩,
  ⟨(some 4), none, .mov (.t 74)⟩])
 .ret)
 .skip))
 (.seq (.reg [⟨(some 75), none, .mov (.t 5)⟩,
  ⟨(some 76), none, .mov (.t 75)⟩,
  ⟨(some 77), (some (76, true)), .mov (.t 8)⟩,
  ⟨(some 78), (some (76, true)), .eqnil .iface false (.t 77)⟩,
  ⟨(some 79), none, .pick (.t 76) (.t 78) (.c (.bool false))⟩,
  ⟨(some 80), none, .mov (.t 79)⟩,
  ⟨(some 81), (some (80, true)), .mov (.t 7)⟩,
  ⟨(some 82), (some (80, true)), .mov (.t 11)⟩,
  ⟨(some 83), (some (80, true)), .bin .eql (.t 81) (.t 82)⟩,
  ⟨(some 84), none, .pick (.t 80) (.t 83) (.c (.bool false))⟩,
  ⟨(some 85), none, .mov (.t 84)⟩,
  ⟨(some 86), (some (85, true)), .mov (.t 16)⟩,
  ⟨(some 87), (some (85, true)), .eqnil .iface false (.t 86)⟩,
  ⟨(some 88), none, .pick (.t 85) (.t 87) (.c (.bool false))⟩,
  ⟨(some 89), none, .mov (.t 88)⟩,
  ⟨(some 90), (some (89, true)), .mov (.t 15)⟩,
  ⟨(some 91), (some (89, true)), .mov (.t 11)⟩,
  ⟨(some 92), (some (89, true)), .bin .eql (.t 90) (.t 91)⟩,
  ⟨(some 93), none, .pick (.t 89) (.t 92) (.c (.bool false))⟩,
  ⟨(some 94), none, .mov (.t 93)⟩,
  ⟨(some 95), (some (94, true)), .mov (.t 14)⟩,
  ⟨(some 96), (some (94, true)), .eqnil .iface false (.t 95)⟩,
  ⟨(some 97), none, .pick (.t 94) (.t 96) (.c (.bool false))⟩,
  ⟨(some 98), none, .mov (.t 97)⟩,
  ⟨(some 99), (some (98, true)), .mov (.t 13)⟩,
  ⟨(some 100), (some (98, true)), .bin .eql (.t 99) (.c (.str [60, 102, 117, 110, 99, 116, 105, 111, 110, 62]))⟩,
  ⟨(some 101), none, .pick (.t 98) (.t 100) (.c (.bool false))⟩,
  ⟨(some 4), none, .mov (.t 101)⟩])
 .ret)))))))))))
/-- paideia/paideialaw26.ForceLimits -/
def ac3 : AF := ⟨(.seq (.reg [⟨(some 4), none, .mov (.c (.bool false))⟩])
 (.seq (.reg [⟨(some 17), none, .call 0 [] (.c (.fn 5 [])) []⟩,
  ⟨(some 5), none, .mov (.t 17)⟩])
 (.seq (.seq (.reg [⟨(some 18), none, .mov (.t 5)⟩,
  ⟨(some 19), none, .not (.t 18)⟩])
 (.cond (.t 19) (.seq (.reg [⟨(some 4), none, .mov (.c (.bool false))⟩])
 .ret)
 .skip))
 (.seq mid3 rest3)))),
  [.t 4], false, true, 102⟩
theorem co3 : compF Tryd.prog ⟨[], [], [], [], [], [], 3, [], [], [0, 1]⟩ false true Tryd.f3 = some ac3 := by kernel_rfl

def cut4 : Nat := 3
def mid4 : AC := (.reg [⟨(some 19), none, .mov (.t 0)⟩,
  ⟨(some 20), none, .bin .rem (.t 19) (.c (.int .i64 3000))⟩,
  ⟨(some 21), none, .bin .add (.t 20) (.c (.int .i64 3000))⟩,
  ⟨(some 22), none, .bin .rem (.t 21) (.c (.int .i64 3000))⟩,
  ⟨(some 0), none, .mov (.t 22)⟩])
def rest4 : AC := (.seq (.reg [⟨(some 23), none, .mov (.t 1)⟩,
  ⟨(some 24), none, .bin .rem (.t 23) (.c (.int .i64 300))⟩,
  ⟨(some 25), none, .bin .add (.t 24) (.c (.int .i64 300))⟩,
  ⟨(some 26), none, .bin .rem (.t 25) (.c (.int .i64 300))⟩,
  ⟨(some 1), none, .mov (.t 26)⟩])
 (.seq (.reg [⟨(some 27), none, .call 0 [] (.c (.fn 9 [])) [(.c (.str [73, 110, 116])), (.c (.sl .clip []))]⟩,
  ⟨(some 6), none, .alloc [(.int .i64 0), (.str []), (.sl .clip [])] false⟩,
  ⟨none, none, .store 3 (.t 6) (.t 27)⟩])
 (.seq (.reg [⟨(some 28), none, .load (some 3) (.t 6)⟩,
  ⟨(some 29), none, .bslice [(.int .i64 0), (.str []), (.sl .clip [])] 1 [(0, (.t 28))]⟩,
  ⟨(some 30), none, .call 0 [] (.c (.fn 9 [])) [(.c (.str [76, 105, 115, 116])), (.t 29)]⟩,
  ⟨(some 7), none, .alloc [(.int .i64 0), (.str []), (.sl .clip [])] false⟩,
  ⟨none, none, .store 3 (.t 7) (.t 30)⟩])
 (.seq (.reg [⟨(some 31), none, .build [(.int .i64 0), (.str []), (.int .i64 0), (.int .i64 0), (.str []), (.sl .clip []), (.sl .clip []), (.sl .clip []), (.sl .clip [])] [(0, 1, (.c (.int .i64 3))), (2, 1, (.c (.int .i64 1)))]⟩,
  ⟨(some 8), none, .alloc [(.int .i64 0), (.str []), (.int .i64 0), (.int .i64 0), (.str []), (.sl .clip []), (.sl .clip []), (.sl .clip []), (.sl .clip [])] false⟩,
  ⟨none, none, .store 9 (.t 8) (.t 31)⟩])
 (.seq (.reg [⟨(some 32), none, .load (some 3) (.t 6)⟩,
  ⟨(some 33), none, .build [(.int .i64 0), (.str []), (.int .i64 0), (.int .i64 0), (.str []), (.sl .clip []), (.sl .clip []), (.sl .clip []), (.sl .clip [])] [(0, 1, (.c (.int .i64 2))), (1, 1, (.c (.str [67, 111, 110, 115])))]⟩,
  ⟨(some 34), none, .bslice [(.int .i64 0), (.str []), (.int .i64 0), (.int .i64 0), (.str []), (.sl .clip []), (.sl .clip []), (.sl .clip []), (.sl .clip [])] 1 [(0, (.t 33))]⟩,
  ⟨(some 35), none, .build [(.int .i64 0), (.str []), (.int .i64 0), (.int .i64 0), (.str []), (.sl .clip []), (.sl .clip []), (.sl .clip []), (.sl .clip [])] [(0, 1, (.c (.int .i64 7))), (3, 3, (.t 32)), (6, 1, (.t 34))]⟩,
  ⟨(some 9), none, .alloc [(.int .i64 0), (.str []), (.int .i64 0), (.int .i64 0), (.str []), (.sl .clip []), (.sl .clip []), (.sl .clip []), (.sl .clip [])] false⟩,
  ⟨none, none, .store 9 (.t 9) (.t 35)⟩])
 (.seq (.reg [⟨(some 36), none, .build [(.int .i64 0), (.str []), (.int .i64 0), (.int .i64 0), (.str []), (.sl .clip []), (.sl .clip []), (.sl .clip []), (.sl .clip [])] [(0, 1, (.c (.int .i64 1))), (1, 1, (.c (.str [120])))]⟩,
  ⟨(some 10), none, .alloc [(.int .i64 0), (.str []), (.int .i64 0), (.int .i64 0), (.str []), (.sl .clip []), (.sl .clip []), (.sl .clip []), (.sl .clip [])] false⟩,
  ⟨none, none, .store 9 (.t 10) (.t 36)⟩])
 (.seq (.reg [⟨(some 37), none, .load (some 3) (.t 7)⟩,
  ⟨(some 38), none, .load (some 9) (.t 9)⟩,
  ⟨(some 39), none, .load (some 9) (.t 8)⟩,
  ⟨(some 40), none, .bslice [(.int .i64 0), (.str []), (.int .i64 0), (.int .i64 0), (.str []), (.sl .clip []), (.sl .clip []), (.sl .clip []), (.sl .clip [])] 2 [(0, (.t 38)), (1, (.t 39))]⟩,
  ⟨(some 41), none, .build [(.int .i64 0), (.str []), (.int .i64 0), (.int .i64 0), (.str []), (.sl .clip []), (.sl .clip []), (.sl .clip []), (.sl .clip [])] [(0, 1, (.c (.int .i64 5))), (6, 1, (.t 40))]⟩,
  ⟨(some 42), none, .load (some 9) (.t 10)⟩,
  ⟨(some 43), none, .bslice [(.int .i64 0), (.str []), (.int .i64 0), (.int .i64 0), (.str []), (.sl .clip []), (.sl .clip []), (.sl .clip []), (.sl .clip [])] 2 [(0, (.t 41)), (1, (.t 42))]⟩,
  ⟨(some 44), none, .build [(.int .i64 0), (.str []), (.int .i64 0), (.int .i64 0), (.str []), (.sl .clip []), (.sl .clip []), (.sl .clip []), (.sl .clip [])] [(0, 1, (.c (.int .i64 5))), (6, 1, (.t 43))]⟩,
  ⟨(some 45), none, .build [(.str []), (.int .i64 0), (.str []), (.sl .clip []), (.int .i64 0), (.str []), (.int .i64 0), (.int .i64 0), (.str []), (.sl .clip []), (.sl .clip []), (.sl .clip []), (.sl .clip [])] [(0, 1, (.c (.str [120]))), (1, 3, (.t 37)), (4, 9, (.t 44))]⟩,
  ⟨(some 46), none, .bslice [(.str []), (.int .i64 0), (.str []), (.sl .clip []), (.int .i64 0), (.str []), (.int .i64 0), (.int .i64 0), (.str []), (.sl .clip []), (.sl .clip []), (.sl .clip []), (.sl .clip [])] 1 [(0, (.t 45))]⟩,
  ⟨(some 47), none, .load (some 9) (.t 10)⟩,
  ⟨(some 48), none, .bslice [(.int .i64 0), (.str []), (.int .i64 0), (.int .i64 0), (.str []), (.sl .clip []), (.sl .clip []), (.sl .clip []), (.sl .clip [])] 1 [(0, (.t 47))]⟩,
  ⟨(some 49), none, .build [(.int .i64 0), (.str []), (.int .i64 0), (.int .i64 0), (.str []), (.sl .clip []), (.sl .clip []), (.sl .clip []), (.sl .clip [])] [(0, 1, (.c (.int .i64 9))), (8, 1, (.t 46)), (6, 1, (.t 48))]⟩,
  ⟨(some 11), none, .alloc [(.int .i64 0), (.str []), (.int .i64 0), (.int .i64 0), (.str []), (.sl .clip []), (.sl .clip []), (.sl .clip []), (.sl .clip [])] false⟩,
  ⟨none, none, .store 9 (.t 11) (.t 49)⟩])
 (.seq (.reg [⟨(some 51), none, .load (some 9) (.t 11)⟩,
  ⟨(some 52), none, .mov (.t 0)⟩,
  ⟨(some 53), none, .call 0 [] (.c (.fn 6 [])) [(.t 51), (.t 52), (.c (.int .i64 1000))]⟩,
  ⟨(some 50), none, .mov (.t 53)⟩,
  ⟨(some 54), none, .extract (.t 50) 0⟩,
  ⟨(some 55), none, .extract (.t 50) 1⟩,
  ⟨(some 12), none, .mov (.t 54)⟩,
  ⟨(some 13), none, .mov (.t 55)⟩])
 (.seq (.reg [⟨(some 57), none, .load (some 9) (.t 11)⟩,
  ⟨(some 58), none, .mov (.t 1)⟩,
  ⟨(some 59), none, .call 0 [] (.c (.fn 6 [])) [(.t 57), (.c (.int .i64 1073741824)), (.t 58)]⟩,
  ⟨(some 56), none, .mov (.t 59)⟩,
  ⟨(some 60), none, .extract (.t 56) 0⟩,
  ⟨(some 61), none, .extract (.t 56) 1⟩,
  ⟨(some 14), none, .mov (.t 60)⟩,
  ⟨(some 15), none, .mov (.t 61)⟩])
 (.seq (.reg [⟨(some 62), none, .mov (.t 5)⟩,
  ⟨(some 63), none, .mov (.t 62)⟩,
  ⟨(some 64), (some (63, true)), .mov (.t 12)⟩,
  ⟨(some 65), (some (63, true)), .bin .eql (.t 64) (.c (.str []))⟩,
  ⟨(some 66), none, .pick (.t 63) (.t 65) (.c (.bool false))⟩,
  ⟨(some 67), none, .mov (.t 66)⟩,
  ⟨(some 68), (some (67, true)), .mov (.t 13)⟩,
  ⟨(some 69), (some (67, true)), .eqnil .iface true (.t 68)⟩,
  ⟨(some 70), none, .pick (.t 67) (.t 69) (.c (.bool false))⟩,
  ⟨(some 71), none, .mov (.t 70)⟩,
  ⟨(some 72), (some (71, true)), .mov (.t 13)⟩,
  ⟨(some 73), (some (71, true)), .call 0 [] (.c (.fn 11 [])) [(.t 72), (.c (.int .i64 112))]⟩,
  ⟨(some 74), (some (71, true)), .mov (.t 73)⟩,
  ⟨(some 75), (some (74, false)), .mov (.t 13)⟩,
  ⟨(some 76), (some (74, false)), .call 0 [] (.c (.fn 11 [])) [(.t 75), (.c (.int .i64 113))]⟩,
  ⟨(some 77), (some (71, true)), .pick (.t 74) (.c (.bool true)) (.t 76)⟩,
  ⟨(some 78), (some (71, true)), .mov (.t 77)⟩,
  ⟨(some 79), (some (78, false)), .mov (.t 13)⟩,
  ⟨(some 80), (some (78, false)), .call 0 [] (.c (.fn 11 [])) [(.t 79), (.c (.int .i64 111))]⟩,
  ⟨(some 81), (some (71, true)), .pick (.t 78) (.c (.bool true)) (.t 80)⟩,
  ⟨(some 82), none, .pick (.t 71) (.t 81) (.c (.bool false))⟩,
  ⟨(some 83), none, .mov (.t 82)⟩,
  ⟨(some 84), (some (83, true)), .mov (.t 14)⟩,
  ⟨(some 85), (some (83, true)), .bin .eql (.t 84) (.c (.str []))⟩,
  ⟨(some 86), none, .pick (.t 83) (.t 85) (.c (.bool false))⟩,
  ⟨(some 87), none, .mov (.t 86)⟩,
  ⟨(some 88), (some (87, true)), .mov (.t 15)⟩,
  ⟨(some 89), (some (87, true)), .call 0 [] (.c (.fn 11 [])) [(.t 88), (.c (.int .i64 111))]⟩,
  ⟨(some 90), (some (87, true)), .mov (.t 89)⟩,
  ⟨(some 91), (some (90, false)), .mov (.t 15)⟩,
  ⟨(some 92), (some (90, false)), .call 0 [] (.c (.fn 11 [])) [(.t 91), (.c (.int .i64 113))]⟩,
  ⟨(some 93), (some (87, true)), .pick (.t 90) (.c (.bool true)) (.t 92)⟩,
  ⟨(some 94), none, .pick (.t 87) (.t 93) (.c (.bool false))⟩,
  ⟨(some 4), none, .mov (.t 94)⟩])
 .ret))))))))))
/-- paideia/paideialaw26.ForceEndless -/
def ac4 : AF := ⟨(.seq (.reg [⟨(some 4), none, .mov (.c (.bool false))⟩])
 (.seq (.reg [⟨(some 16), none, .call 0 [] (.c (.fn 5 [])) []⟩,
  ⟨(some 5), none, .mov (.t 16)⟩])
 (.seq (.seq (.reg [⟨(some 17), none, .mov (.t 5)⟩,
  ⟨(some 18), none, .not (.t 17)⟩])
 (.cond (.t 18) (.seq (.reg [⟨(some 4), none, .mov (.c (.bool false))⟩])
 .ret)
 .skip))
 (.seq mid4 rest4)))),
  [.t 4], false, true, 95⟩
theorem co4 : compF Tryd.prog ⟨[], [], [], [], [], [], 4, [], [], []⟩ false true Tryd.f4 = some ac4 := by kernel_rfl

/-- paideia/paideialaw26.first -/
def ac5 : AF := ⟨(.seq (.reg [⟨(some 0), none, .mov (.c (.bool false))⟩])
 (.seq (.reg [⟨(some 4), none, .build [(.int .i64 0), (.str []), (.int .i64 0), (.int .i64 0), (.str []), (.sl .clip []), (.sl .clip []), (.sl .clip []), (.sl .clip [])] [(0, 1, (.c (.int .i64 3))), (2, 1, (.c (.int .i64 7)))]⟩,
  ⟨(some 5), none, .call 0 [] (.c (.fn 6 [])) [(.t 4), (.c (.int .i64 100)), (.c (.int .i64 10))]⟩,
  ⟨(some 3), none, .mov (.t 5)⟩,
  ⟨(some 6), none, .extract (.t 3) 0⟩,
  ⟨(some 7), none, .extract (.t 3) 1⟩,
  ⟨(some 1), none, .mov (.t 6)⟩,
  ⟨(some 2), none, .mov (.t 7)⟩])
 (.seq (.reg [⟨(some 8), none, .mov (.t 2)⟩,
  ⟨(some 9), none, .eqnil .iface false (.t 8)⟩,
  ⟨(some 10), none, .mov (.t 9)⟩,
  ⟨(some 11), (some (10, true)), .mov (.t 1)⟩,
  ⟨(some 12), (some (10, true)), .bin .eql (.t 11) (.c (.str [55]))⟩,
  ⟨(some 13), none, .pick (.t 10) (.t 12) (.c (.bool false))⟩,
  ⟨(some 0), none, .mov (.t 13)⟩])
 .ret))),
  [.t 0], false, true, 14⟩
theorem co5 : compF Tryd.prog ⟨[], [], [], [], [], [], 5, [], [], []⟩ false true Tryd.f5 = some ac5 := by kernel_rfl

/-- paideia/force.Term -/
def ac6 : AF := ⟨(.seq (.reg [⟨(some 3), none, .box (.t 0) 9 false⟩,
  ⟨(some 6), none, .mov (.c (.str []))⟩,
  ⟨(some 7), none, .mov (.c .nili)⟩])
 (.seq (.reg [⟨(some 8), none, .load (some 9) (.t 3)⟩,
  ⟨(some 9), none, .mov (.t 2)⟩,
  ⟨(some 10), none, .call 0 [] (.c (.fn 8 [])) [(.t 8), (.t 9)]⟩,
  ⟨(some 11), none, .mov (.t 1)⟩,
  ⟨(some 12), none, .call 0 [] (.c (.fn 10 [])) [(.t 10), (.t 11), (.c (.int .i64 100000))]⟩,
  ⟨(some 13), none, .extract (.t 12) 0⟩,
  ⟨(some 14), none, .extract (.t 12) 1⟩,
  ⟨(some 6), none, .mov (.t 13)⟩,
  ⟨(some 7), none, .mov (.t 14)⟩])
 .ret)),
  [.t 6, .t 7], false, true, 15⟩
theorem co6 : compF Tryd.prog ⟨[], [], [], [], [], [], 6, [], [], []⟩ false true Tryd.f6 = some ac6 := by kernel_rfl

/-- paideia/paideiaref21.Text -/
def ac7 : AF := ⟨(.seq (.reg [⟨(some 4), none, .mov (.c (.str []))⟩,
  ⟨(some 5), none, .mov (.c (.bool false))⟩])
 (.seq (.seq (.reg [⟨(some 6), none, .mov (.t 0)⟩])
 (.block 0 (.seq (.reg [⟨(some 8), none, .bin .eql (.t 6) (.c (.str [112, 114, 105, 109, 73, 110, 116, 83, 104, 111, 119]))⟩,
  ⟨(some 7), none, .mov (.t 8)⟩])
 (.cond (.t 7) (.seq (.reg [⟨(some 9), none, .mov (.t 1)⟩,
  ⟨(some 10), none, .call 0 [] (.c (.fn 12 [])) [(.t 9), (.c (.int .i64 10))]⟩,
  ⟨(some 4), none, .mov (.t 10)⟩,
  ⟨(some 5), none, .mov (.c (.bool true))⟩])
 .ret)
 (.seq (.reg [⟨(some 12), none, .bin .eql (.t 6) (.c (.str [112, 114, 105, 109, 67, 104, 97, 114, 83, 104, 111, 119]))⟩,
  ⟨(some 11), none, .mov (.t 12)⟩])
 (.cond (.t 11) (.seq (.reg [⟨(some 13), none, .mov (.t 1)⟩,
  ⟨(some 14), none, .conv (.int .u8) (.t 13)⟩,
  ⟨(some 15), none, .call 0 [] (.c (.fn 13 [])) [(.t 14)]⟩,
  ⟨(some 4), none, .mov (.t 15)⟩,
  ⟨(some 5), none, .mov (.c (.bool true))⟩])
 .ret)
 .skip))))))
 (.seq (.reg [⟨(some 4), none, .mov (.c (.str []))⟩,
  ⟨(some 5), none, .mov (.c (.bool false))⟩])
 .ret))),
  [.t 4, .t 5], false, true, 16⟩
theorem co7 : compF Tryd.prog ⟨[], [], [], [], [], [], 7, [], [], []⟩ false true Tryd.f7 = some ac7 := by kernel_rfl

/-- paideia/machine.New -/
def ac8 : AF := ⟨(.seq (.reg [⟨(some 2), none, .box (.t 0) 9 false⟩,
  ⟨(some 4), none, .mov (.c .nilp)⟩])
 (.seq (.reg [⟨(some 6), none, .mkmap⟩,
  ⟨(some 7), none, .build [(.map none), (.int .i64 0)] [(0, 1, (.t 6))]⟩,
  ⟨(some 8), none, .box (.t 7) 2 true⟩,
  ⟨(some 5), none, .mov (.t 8)⟩])
 (.seq (.reg [⟨(some 9), none, .mov (.t 1)⟩,
  ⟨(some 10), none, .mov (.t 5)⟩,
  ⟨(some 11), none, .load (some 9) (.t 2)⟩,
  ⟨(some 12), none, .call 0 [] (.c (.fn 15 [])) [(.t 11)]⟩,
  ⟨(some 13), none, .call 0 [] (.c (.fn 14 [])) [(.t 10), (.t 12), (.c (.str [])), (.c (.bool false))]⟩,
  ⟨(some 14), none, .build [.nilp, (.bool false), .nilp, (.sl .clip [])] [(2, 1, (.t 13))]⟩,
  ⟨(some 15), none, .box (.t 14) 4 true⟩,
  ⟨(some 16), none, .build [(.int .i64 0), (.int .i64 0), (.int .i64 0), .nili, .nilp, (.sl .clip []), (.sl .clip []), .nilp, (.sl .clip []), .nilp, (.bool false)] [(0, 1, (.t 9)), (4, 1, (.t 15))]⟩,
  ⟨(some 17), none, .box (.t 16) 11 true⟩,
  ⟨(some 4), none, .mov (.t 17)⟩])
 .ret))),
  [.t 4], false, false, 18⟩
theorem co8 : compF Tryd.prog ⟨[8, 15, 17], [], [], [], [], [], 8, [], [], []⟩ false false Tryd.f8 = some ac8 := by kernel_rfl

/-- paideia/paideiaref4.Con -/
def ac9 : AF := ⟨(.seq (.reg [⟨(some 4), none, .alloc [(.int .i64 0), (.str []), (.sl .clip [])] false⟩])
 (.seq (.reg [⟨(some 5), none, .mov (.t 0)⟩,
  ⟨(some 6), none, .mov (.t 1)⟩,
  ⟨(some 7), none, .build [(.int .i64 0), (.str []), (.sl .clip [])] [(0, 1, (.c (.int .i64 2))), (1, 1, (.t 5)), (2, 1, (.t 6))]⟩,
  ⟨none, none, .store 3 (.t 4) (.t 7)⟩])
 .ret)),
  [.cell 4 (some 3)], false, true, 8⟩
theorem co9 : compF Tryd.prog ⟨[], [], [], [], [], [], 9, [], [], []⟩ false true Tryd.f9 = some ac9 := by kernel_rfl

/-- paideia/force.Text -/
def ac10 : AF := ⟨(.seq (.reg [⟨(some 6), none, .mov (.c (.str []))⟩,
  ⟨(some 7), none, .mov (.c .nili)⟩])
 (.seq (.reg [⟨(some 10), none, .mov (.t 0)⟩,
  ⟨(some 11), none, .mov (.t 1)⟩,
  ⟨(some 12), none, .mov (.t 2)⟩,
  ⟨(some 13), none, .build [.nilp, (.int .i64 0), (.int .i64 0), (.sl .clip [])] [(0, 1, (.t 10)), (1, 1, (.t 11)), (2, 1, (.t 12))]⟩,
  ⟨(some 14), none, .box (.t 13) 4 true⟩,
  ⟨(some 8), none, .mov (.t 14)⟩])
 (.seq (.seq (.reg [⟨(some 15), none, .mov (.t 8)⟩,
  ⟨(some 16), none, .call 0 [] (.c (.fn 16 [])) [(.t 15)]⟩,
  ⟨(some 9), none, .mov (.t 16)⟩])
 (.seq (.reg [⟨(some 17), none, .mov (.t 9)⟩,
  ⟨(some 18), none, .eqnil .iface true (.t 17)⟩])
 (.cond (.t 18) (.seq (.reg [⟨(some 19), none, .mov (.t 9)⟩,
  ⟨(some 6), none, .mov (.c (.str []))⟩,
  ⟨(some 7), none, .mov (.t 19)⟩])
 .ret)
 .skip)))
 (.seq (.reg [⟨(some 20), none, .mov (.t 8)⟩,
  ⟨(some 21), none, .nilck (.t 20)⟩,
  ⟨(some 22), none, .faddr 3 (.t 21)⟩,
  ⟨(some 23), none, .load none (.t 22)⟩,
  ⟨(some 24), none, .textE (.t 23)⟩,
  ⟨(some 6), none, .mov (.t 24)⟩,
  ⟨(some 7), none, .mov (.c .nili)⟩])
 .ret)))),
  [.t 6, .t 7], false, false, 25⟩
theorem co10 : compF Tryd.prog ⟨[14], [], [], [], [], [1000024], 10, [], [], []⟩ false false Tryd.f10 = some ac10 := by kernel_rfl

/-- paideia/paideiasee.Is -/
def ac11 : AF := ⟨(.seq (.reg [⟨(some 4), none, .mov (.c (.bool false))⟩])
 (.seq (.reg [⟨(some 5), none, .mov (.t 0)⟩,
  ⟨(some 6), none, .mov (.t 1)⟩,
  ⟨(some 7), none, .call 0 [] (.c (.fn 18 [])) [(.t 6)]⟩,
  ⟨(some 8), none, .call 0 [] (.c (.fn 17 [])) [(.t 5), (.t 7)]⟩,
  ⟨(some 4), none, .mov (.t 8)⟩])
 .ret)),
  [.t 4], false, true, 9⟩
theorem co11 : compF Tryd.prog ⟨[], [], [], [], [], [], 11, [], [], []⟩ false true Tryd.f11 = some ac11 := by kernel_rfl

/-- strconv.FormatInt -/
def ac12 : AF := ⟨(.seq (.reg [⟨(some 4), none, .mov (.c (.str []))⟩])
 (.seq (.reg [⟨(some 5), none, .mov (.t 0)⟩,
  ⟨(some 6), none, .mov (.t 1)⟩,
  ⟨(some 7), none, .call 0 [] (.c (.fn 19 [])) [(.t 5), (.t 6)]⟩,
  ⟨(some 4), none, .mov (.t 7)⟩])
 .ret)),
  [.t 4], false, true, 8⟩
theorem co12 : compF Tryd.prog ⟨[], [], [], [], [], [], 12, [], [], []⟩ false true Tryd.f12 = some ac12 := by kernel_rfl

/-- paideia/paideiaref1.Quote -/
def ac13 : AF := ⟨(.seq (.reg [⟨(some 2), none, .mov (.c (.str []))⟩])
 (.seq (.block 0 (.seq (.reg [⟨(some 4), none, .mov (.t 0)⟩,
  ⟨(some 5), none, .bin .eql (.t 4) (.c (.int .u8 10))⟩,
  ⟨(some 3), none, .mov (.t 5)⟩])
 (.cond (.t 3) (.seq (.reg [⟨(some 2), none, .mov (.c (.str [39, 92, 110, 39]))⟩])
 .ret)
 (.seq (.reg [⟨(some 7), none, .mov (.t 0)⟩,
  ⟨(some 8), none, .bin .eql (.t 7) (.c (.int .u8 39))⟩,
  ⟨(some 9), none, .mov (.t 8)⟩,
  ⟨(some 10), (some (9, false)), .mov (.t 0)⟩,
  ⟨(some 11), (some (9, false)), .bin .eql (.t 10) (.c (.int .u8 92))⟩,
  ⟨(some 12), none, .pick (.t 9) (.c (.bool true)) (.t 11)⟩,
  ⟨(some 6), none, .mov (.t 12)⟩])
 (.cond (.t 6) (.seq (.reg [⟨(some 13), none, .mov (.t 0)⟩,
  ⟨(some 14), none, .conv .rune (.t 13)⟩,
  ⟨(some 15), none, .bin .add (.c (.str [39, 92])) (.t 14)⟩,
  ⟨(some 16), none, .bin .add (.t 15) (.c (.str [39]))⟩,
  ⟨(some 2), none, .mov (.t 16)⟩])
 .ret)
 (.seq (.reg [⟨(some 18), none, .mov (.t 0)⟩,
  ⟨(some 19), none, .bin .geq (.t 18) (.c (.int .u8 32))⟩,
  ⟨(some 20), none, .mov (.t 19)⟩,
  ⟨(some 21), (some (20, true)), .mov (.t 0)⟩,
  ⟨(some 22), (some (20, true)), .bin .leq (.t 21) (.c (.int .u8 126))⟩,
  ⟨(some 23), none, .pick (.t 20) (.t 22) (.c (.bool false))⟩,
  ⟨(some 17), none, .mov (.t 23)⟩])
 (.cond (.t 17) (.seq (.reg [⟨(some 24), none, .mov (.t 0)⟩,
  ⟨(some 25), none, .conv .rune (.t 24)⟩,
  ⟨(some 26), none, .bin .add (.c (.str [39])) (.t 25)⟩,
  ⟨(some 27), none, .bin .add (.t 26) (.c (.str [39]))⟩,
  ⟨(some 2), none, .mov (.t 27)⟩])
 .ret)
 .skip)))))))
 (.seq (.reg [⟨(some 2), none, .mov (.c (.str [39, 63, 39]))⟩])
 .ret))),
  [.t 2], false, true, 28⟩
theorem co13 : compF Tryd.prog ⟨[], [], [], [], [], [], 13, [], [], []⟩ false true Tryd.f13 = some ac13 := by kernel_rfl

/-- (*paideia/machine.maker).closure -/
def ac14 : AF := ⟨(.seq (.reg [⟨(some 5), none, .box (.t 1) 9 false⟩,
  ⟨(some 8), none, .mov (.c .nilp)⟩])
 (.seq (.reg [⟨(some 15), none, .mkmap⟩,
  ⟨(some 16), none, .build [(.map none), (.int .i64 0)] [(0, 1, (.t 15))]⟩,
  ⟨(some 17), none, .box (.t 16) 2 true⟩,
  ⟨(some 9), none, .mov (.t 17)⟩])
 (.seq (.reg [⟨(some 18), none, .build [(.sl .clip []), (.int .i64 0), (.int .i64 0), .nilp] [(2, 1, (.c (.int .i64 (-1))))]⟩,
  ⟨(some 19), none, .box (.t 18) 4 true⟩,
  ⟨(some 10), none, .mov (.t 19)⟩])
 (.seq (.seq (.reg [⟨(some 20), none, .load (some 9) (.t 5)⟩,
  ⟨(some 21), none, .call 0 [] (.c (.fn 20 [])) [(.t 20)]⟩,
  ⟨(some 22), none, .len 1 (.t 21)⟩,
  ⟨(some 23), none, .mov (.c (.int .i64 0))⟩])
 (.block 0 (.loop [0, 2, 3, 9, 10, 21, 22, 23] [5] (.seq (.reg [⟨(some 24), none, .bin .lss (.t 23) (.t 22)⟩])
 (.seq (.cond (.t 24) .skip
 (.exit 0))
 (.seq (.block 1 (.seq (.reg [⟨(some 25), none, .iaddr 1 (.t 21) (.t 23)⟩,
  ⟨(some 26), none, .load none (.t 25)⟩,
  ⟨(some 12), none, .mov (.t 26)⟩])
 (.seq (.reg [⟨(some 28), none, .mov (.t 0)⟩,
  ⟨(some 29), none, .nilck (.t 28)⟩,
  ⟨(some 30), none, .faddr 0 (.t 29)⟩,
  ⟨(some 31), none, .load none (.t 30)⟩,
  ⟨(some 32), none, .mov (.t 12)⟩,
  ⟨(some 33), none, .lookup .str (.int .i64 0) (.t 31) (.t 32) true⟩,
  ⟨(some 27), none, .mov (.t 33)⟩,
  ⟨(some 34), none, .extract (.t 27) 0⟩,
  ⟨(some 35), none, .extract (.t 27) 1⟩,
  ⟨(some 13), none, .mov (.t 34)⟩,
  ⟨(some 14), none, .mov (.t 35)⟩])
 (.seq (.reg [⟨(some 36), none, .mov (.t 14)⟩,
  ⟨(some 37), none, .mov (.t 36)⟩,
  ⟨(some 38), (some (37, true)), .mov (.t 3)⟩,
  ⟨(some 39), (some (37, true)), .mov (.t 38)⟩,
  ⟨(some 40), (some (39, true)), .mov (.t 12)⟩,
  ⟨(some 41), (some (39, true)), .mov (.t 2)⟩,
  ⟨(some 42), (some (39, true)), .bin .eql (.t 40) (.t 41)⟩,
  ⟨(some 43), (some (37, true)), .pick (.t 39) (.t 42) (.c (.bool false))⟩,
  ⟨(some 44), (some (37, true)), .not (.t 43)⟩,
  ⟨(some 45), none, .pick (.t 37) (.t 44) (.c (.bool false))⟩])
 (.cond (.t 45) (.seq (.reg [⟨(some 46), none, .mov (.t 10)⟩,
  ⟨(some 47), none, .mov (.t 10)⟩,
  ⟨(some 48), none, .nilck (.t 47)⟩,
  ⟨(some 49), none, .faddr 0 (.t 48)⟩,
  ⟨(some 50), none, .load none (.t 49)⟩,
  ⟨(some 51), none, .mov (.t 13)⟩,
  ⟨(some 52), none, .bslice [(.int .i64 0)] 1 [(0, (.t 51))]⟩,
  ⟨(some 53), none, .append 1 (.t 50) (.t 52)⟩,
  ⟨(some 54), none, .nilck (.t 46)⟩,
  ⟨(some 55), none, .faddr 0 (.t 54)⟩,
  ⟨none, none, .store 1 (.t 55) (.t 53)⟩])
 (.reg [⟨(some 56), none, .mov (.t 9)⟩,
  ⟨(some 57), none, .mov (.t 12)⟩,
  ⟨(some 58), none, .call 0 [] (.c (.fn 21 [])) [(.t 56), (.t 57)]⟩]))
 .skip)))))
 (.reg [⟨(some 59), none, .bin .add (.t 23) (.c (.int .i64 1))⟩,
  ⟨(some 23), none, .mov (.t 59)⟩])))))))
 (.seq (.seq (.reg [⟨(some 60), none, .mov (.t 3)⟩])
 (.cond (.t 60) (.reg [⟨(some 61), none, .mov (.t 10)⟩,
  ⟨(some 62), none, .mov (.t 9)⟩,
  ⟨(some 63), none, .mov (.t 2)⟩,
  ⟨(some 64), none, .call 0 [] (.c (.fn 21 [])) [(.t 62), (.t 63)]⟩,
  ⟨(some 65), none, .nilck (.t 61)⟩,
  ⟨(some 66), none, .faddr 2 (.t 65)⟩,
  ⟨none, none, .store 1 (.t 66) (.t 64)⟩])
 .skip))
 (.seq (.reg [⟨(some 67), none, .mov (.t 10)⟩,
  ⟨(some 68), none, .mov (.t 9)⟩,
  ⟨(some 69), none, .load (some 9) (.t 5)⟩,
  ⟨(some 70), none, .call 0 [] (.c (.fn 22 [])) [(.t 68), (.t 69)]⟩,
  ⟨(some 71), none, .nilck (.t 67)⟩,
  ⟨(some 72), none, .faddr 3 (.t 71)⟩,
  ⟨none, none, .store 1 (.t 72) (.t 70)⟩])
 (.seq (.reg [⟨(some 73), none, .mov (.t 10)⟩,
  ⟨(some 74), none, .mov (.t 9)⟩,
  ⟨(some 75), none, .nilck (.t 74)⟩,
  ⟨(some 76), none, .faddr 1 (.t 75)⟩,
  ⟨(some 77), none, .load none (.t 76)⟩,
  ⟨(some 78), none, .nilck (.t 73)⟩,
  ⟨(some 79), none, .faddr 1 (.t 78)⟩,
  ⟨none, none, .store 1 (.t 79) (.t 77)⟩])
 (.seq (.reg [⟨(some 80), none, .mov (.t 10)⟩,
  ⟨(some 8), none, .mov (.t 80)⟩])
 .ret)))))))),
  [.t 8], false, false, 81⟩
theorem co14 : compF Tryd.prog ⟨[17, 19], [(4, [0, 2, 3, 9, 10, 21, 22, 23], [5])], [], [], [], [], 14, [], [], []⟩ false false Tryd.f14 = some ac14 := by kernel_rfl

/-- paideia/norm.Norm -/
def ac15 : AF := ⟨(.seq (.reg [⟨(some 1), none, .box (.t 0) 9 false⟩,
  ⟨(some 2), none, .alloc [(.int .i64 0), (.str []), (.int .i64 0), (.int .i64 0), (.str []), (.sl .clip []), (.sl .clip []), (.sl .clip []), (.sl .clip [])] false⟩])
 (.seq (.reg [⟨(some 6), none, .load (some 9) (.t 1)⟩,
  ⟨(some 7), none, .call 0 [] (.c (.fn 23 [])) [(.t 6)]⟩,
  ⟨none, none, .store 9 (.t 1) (.t 7)⟩])
 (.seq (.reg [⟨(some 8), none, .mkmap⟩,
  ⟨(some 9), none, .mkmap⟩,
  ⟨(some 10), none, .build [(.map none), (.int .i64 0), (.map none)] [(0, 1, (.t 8)), (2, 1, (.t 9))]⟩,
  ⟨(some 11), none, .box (.t 10) 3 true⟩,
  ⟨(some 3), none, .mov (.t 11)⟩])
 (.seq (.seq (.reg [⟨(some 12), none, .load (some 9) (.t 1)⟩,
  ⟨(some 13), none, .call 0 [] (.c (.fn 20 [])) [(.t 12)]⟩,
  ⟨(some 14), none, .len 1 (.t 13)⟩,
  ⟨(some 15), none, .mov (.c (.int .i64 0))⟩])
 (.block 0 (.loop [3, 13, 14, 15] [1, 2] (.seq (.reg [⟨(some 16), none, .bin .lss (.t 15) (.t 14)⟩])
 (.seq (.cond (.t 16) .skip
 (.exit 0))
 (.seq (.block 1 (.seq (.reg [⟨(some 17), none, .iaddr 1 (.t 13) (.t 15)⟩,
  ⟨(some 18), none, .load none (.t 17)⟩,
  ⟨(some 5), none, .mov (.t 18)⟩])
 (.reg [⟨(some 19), none, .mov (.t 3)⟩,
  ⟨(some 20), none, .nilck (.t 19)⟩,
  ⟨(some 21), none, .faddr 0 (.t 20)⟩,
  ⟨(some 22), none, .load none (.t 21)⟩,
  ⟨(some 23), none, .mov (.t 5)⟩,
  ⟨none, none, .mapset .str (.t 22) (.t 23) (.c (.bool true))⟩])))
 (.reg [⟨(some 24), none, .bin .add (.t 15) (.c (.int .i64 1))⟩,
  ⟨(some 15), none, .mov (.t 24)⟩])))))))
 (.seq (.reg [⟨(some 25), none, .mov (.t 3)⟩,
  ⟨(some 26), none, .load (some 9) (.t 1)⟩,
  ⟨(some 27), none, .call 0 [] (.c (.fn 24 [])) [(.t 25), (.t 26)]⟩,
  ⟨none, none, .store 9 (.t 2) (.t 27)⟩])
 .ret))))),
  [.cell 2 (some 9)], false, true, 28⟩
theorem co15 : compF Tryd.prog ⟨[11], [(4, [3, 13, 14, 15], [1, 2])], [], [], [], [], 15, [], [], []⟩ false true Tryd.f15 = some ac15 := by kernel_rfl

/-- (*paideia/force.writer).value -/
def ac16 : AF := ⟨(.seq (.reg [⟨(some 2), none, .mov (.c .nili)⟩])
 (.seq (.seq (.reg [⟨(some 7), none, .mov (.t 0)⟩,
  ⟨(some 8), none, .call 0 [] (.c (.fn 25 [])) [(.t 7)]⟩,
  ⟨(some 3), none, .mov (.t 8)⟩])
 (.seq (.reg [⟨(some 9), none, .mov (.t 3)⟩,
  ⟨(some 10), none, .eqnil .iface true (.t 9)⟩])
 (.cond (.t 10) (.seq (.reg [⟨(some 11), none, .mov (.t 3)⟩,
  ⟨(some 2), none, .mov (.t 11)⟩])
 .ret)
 .skip)))
 (.seq (.reg [⟨(some 13), none, .mov (.t 0)⟩,
  ⟨(some 14), none, .nilck (.t 13)⟩,
  ⟨(some 15), none, .faddr 0 (.t 14)⟩,
  ⟨(some 16), none, .load none (.t 15)⟩,
  ⟨(some 17), none, .call 0 [] (.c (.fn 26 [])) [(.t 16)]⟩,
  ⟨(some 12), none, .mov (.t 17)⟩,
  ⟨(some 18), none, .extract (.t 12) 0⟩,
  ⟨(some 19), none, .extract (.t 12) 1⟩,
  ⟨(some 20), none, .extract (.t 12) 2⟩,
  ⟨(some 4), none, .mov (.t 18)⟩,
  ⟨(some 5), none, .mov (.t 19)⟩,
  ⟨(some 6), none, .mov (.t 20)⟩])
 (.seq (.seq (.reg [⟨(some 21), none, .mov (.t 6)⟩])
 (.block 0 (.seq (.reg [⟨(some 23), none, .bin .eql (.t 21) (.c (.int .i64 (-1)))⟩,
  ⟨(some 22), none, .mov (.t 23)⟩])
 (.cond (.t 22) (.seq (.seq (.reg [⟨(some 24), none, .mov (.t 5)⟩,
  ⟨(some 25), none, .bin .lss (.t 24) (.c (.int .i64 0))⟩])
 (.cond (.t 25) (.seq (.reg [⟨(some 26), none, .mov (.t 0)⟩,
  ⟨(some 27), none, .mov (.t 5)⟩,
  ⟨(some 28), none, .conv (.int .u64) (.t 27)⟩,
  ⟨(some 29), none, .neg (.t 28)⟩,
  ⟨(some 30), none, .call 0 [] (.c (.fn 28 [])) [(.t 29), (.c (.int .i64 10))]⟩,
  ⟨(some 31), none, .bin .add (.c (.str [40, 48, 32, 45, 32])) (.t 30)⟩,
  ⟨(some 32), none, .bin .add (.t 31) (.c (.str [41]))⟩,
  ⟨(some 33), none, .call 0 [] (.c (.fn 27 [])) [(.t 26), (.t 32)]⟩,
  ⟨(some 2), none, .mov (.t 33)⟩])
 .ret)
 .skip))
 (.seq (.reg [⟨(some 34), none, .mov (.t 0)⟩,
  ⟨(some 35), none, .mov (.t 5)⟩,
  ⟨(some 36), none, .call 0 [] (.c (.fn 12 [])) [(.t 35), (.c (.int .i64 10))]⟩,
  ⟨(some 37), none, .call 0 [] (.c (.fn 27 [])) [(.t 34), (.t 36)]⟩,
  ⟨(some 2), none, .mov (.t 37)⟩])
 .ret))
 (.seq (.reg [⟨(some 39), none, .bin .eql (.t 21) (.c (.int .i64 (-2)))⟩,
  ⟨(some 38), none, .mov (.t 39)⟩])
 (.cond (.t 38) (.seq (.reg [⟨(some 40), none, .mov (.t 0)⟩,
  ⟨(some 41), none, .mov (.t 5)⟩,
  ⟨(some 42), none, .conv (.int .u8) (.t 41)⟩,
  ⟨(some 43), none, .call 0 [] (.c (.fn 29 [])) [(.t 42)]⟩,
  ⟨(some 44), none, .call 0 [] (.c (.fn 27 [])) [(.t 40), (.t 43)]⟩,
  ⟨(some 2), none, .mov (.t 44)⟩])
 .ret)
 (.seq (.reg [⟨(some 46), none, .bin .eql (.t 21) (.c (.int .i64 (-3)))⟩,
  ⟨(some 45), none, .mov (.t 46)⟩])
 (.cond (.t 45) (.seq (.reg [⟨(some 47), none, .mov (.t 0)⟩,
  ⟨(some 48), none, .call 0 [] (.c (.fn 27 [])) [(.t 47), (.c (.str [60, 102, 117, 110, 99, 116, 105, 111, 110, 62]))]⟩,
  ⟨(some 2), none, .mov (.t 48)⟩])
 .ret)
 (.seq (.reg [⟨(some 50), none, .bin .eql (.t 21) (.c (.int .i64 0))⟩,
  ⟨(some 49), none, .mov (.t 50)⟩])
 (.cond (.t 49) (.seq (.reg [⟨(some 51), none, .mov (.t 0)⟩,
  ⟨(some 52), none, .mov (.t 4)⟩,
  ⟨(some 53), none, .call 0 [] (.c (.fn 27 [])) [(.t 51), (.t 52)]⟩,
  ⟨(some 2), none, .mov (.t 53)⟩])
 .ret)
 .skip))))))))))
 (.seq (.reg [⟨(some 54), none, .mov (.t 0)⟩,
  ⟨(some 55), none, .mov (.t 4)⟩,
  ⟨(some 56), none, .mov (.t 6)⟩,
  ⟨(some 57), none, .call 0 [] (.c (.fn 30 [])) [(.t 54), (.t 55), (.t 56)]⟩,
  ⟨(some 2), none, .mov (.t 57)⟩])
 .ret))))),
  [.t 2], false, false, 58⟩
theorem co16 : compF Tryd.prog ⟨[], [], [], [], [], [], 16, [], [], []⟩ false false Tryd.f16 = some ac16 := by kernel_rfl

/-- paideia/paideiasee.Same -/
def ac17 : AF := ⟨(.seq (.reg [⟨(some 3), none, .box (.t 1) 3 false⟩,
  ⟨(some 4), none, .mov (.c (.bool false))⟩])
 (.seq (.reg [⟨(some 5), none, .mov (.t 0)⟩,
  ⟨(some 6), none, .call 0 [] (.c (.fn 32 [])) [(.t 5)]⟩,
  ⟨(some 7), none, .loadL (some 3) (.t 3)⟩,
  ⟨(some 8), none, .call 0 [] (.c (.fn 31 [])) [(.t 6), (.t 7)]⟩,
  ⟨(some 4), none, .mov (.t 8)⟩])
 .ret)),
  [.t 4], false, true, 9⟩
theorem co17 : compF Tryd.prog ⟨[], [], [], [], [], [], 17, [], [], [0, 1]⟩ false true Tryd.f17 = some ac17 := by kernel_rfl

/-- paideia/paideiaref.Bare -/
def ac18 : AF := ⟨(.seq (.reg [⟨(some 2), none, .alloc [(.int .i64 0), (.bool false), (.int .i64 0)] false⟩])
 (.seq (.reg [⟨(some 3), none, .mov (.t 0)⟩,
  ⟨(some 4), none, .build [(.int .i64 0), (.bool false), (.int .i64 0)] [(0, 1, (.t 3))]⟩,
  ⟨none, none, .store 3 (.t 2) (.t 4)⟩])
 .ret)),
  [.cell 2 (some 3)], false, true, 5⟩
theorem co18 : compF Tryd.prog ⟨[], [], [], [], [], [], 18, [], [], []⟩ false true Tryd.f18 = some ac18 := by kernel_rfl

/-- paideia/term.Free -/
def ac20 : AF := ⟨(.seq (.reg [⟨(some 1), none, .box (.t 0) 9 false⟩,
  ⟨(some 2), none, .mov (.c (.sl .clip []))⟩])
 (.seq (.reg [⟨(some 4), none, .mkmap⟩,
  ⟨(some 5), none, .mkmap⟩,
  ⟨(some 6), none, .build [(.map none), (.map none), (.sl .clip [])] [(0, 1, (.t 4)), (1, 1, (.t 5))]⟩,
  ⟨(some 7), none, .box (.t 6) 3 true⟩,
  ⟨(some 3), none, .mov (.t 7)⟩])
 (.seq (.reg [⟨(some 8), none, .mov (.t 3)⟩,
  ⟨(some 9), none, .load (some 9) (.t 1)⟩,
  ⟨(some 10), none, .call 0 [] (.c (.fn 37 [])) [(.t 8), (.t 9)]⟩])
 (.seq (.reg [⟨(some 11), none, .mov (.t 3)⟩,
  ⟨(some 12), none, .nilck (.t 11)⟩,
  ⟨(some 13), none, .faddr 2 (.t 12)⟩,
  ⟨(some 14), none, .load none (.t 13)⟩,
  ⟨(some 2), none, .mov (.t 14)⟩])
 .ret)))),
  [.t 2], false, true, 15⟩
theorem co20 : compF Tryd.prog ⟨[7], [], [], [], [], [], 20, [], [], []⟩ false true Tryd.f20 = some ac20 := by kernel_rfl

/-- (*paideia/machine.maker).place -/
def ac21 : AF := ⟨(.seq (.reg [⟨(some 4), none, .mov (.c (.int .i64 0))⟩])
 (.seq (.reg [⟨(some 5), none, .mov (.t 0)⟩,
  ⟨(some 6), none, .nilck (.t 5)⟩,
  ⟨(some 7), none, .faddr 0 (.t 6)⟩,
  ⟨(some 8), none, .load none (.t 7)⟩,
  ⟨(some 9), none, .mov (.t 1)⟩,
  ⟨(some 10), none, .mov (.t 0)⟩,
  ⟨(some 11), none, .nilck (.t 10)⟩,
  ⟨(some 12), none, .faddr 1 (.t 11)⟩,
  ⟨(some 13), none, .load none (.t 12)⟩,
  ⟨none, none, .mapset .str (.t 8) (.t 9) (.t 13)⟩])
 (.seq (.reg [⟨(some 14), none, .mov (.t 0)⟩,
  ⟨(some 15), none, .nilck (.t 14)⟩,
  ⟨(some 16), none, .faddr 1 (.t 15)⟩,
  ⟨(some 17), none, .load none (.t 16)⟩,
  ⟨(some 18), none, .bin .add (.t 17) (.c (.int .i64 1))⟩,
  ⟨(some 19), none, .nilck (.t 14)⟩,
  ⟨(some 20), none, .faddr 1 (.t 19)⟩,
  ⟨none, none, .store 1 (.t 20) (.t 18)⟩])
 (.seq (.reg [⟨(some 21), none, .mov (.t 0)⟩,
  ⟨(some 22), none, .nilck (.t 21)⟩,
  ⟨(some 23), none, .faddr 1 (.t 22)⟩,
  ⟨(some 24), none, .load none (.t 23)⟩,
  ⟨(some 25), none, .bin .sub (.t 24) (.c (.int .i64 1))⟩,
  ⟨(some 4), none, .mov (.t 25)⟩])
 .ret)))),
  [.t 4], false, false, 26⟩
theorem co21 : compF Tryd.prog ⟨[], [], [], [], [], [], 21, [], [], [0, 1]⟩ false false Tryd.f21 = some ac21 := by kernel_rfl

/-- (*paideia/machine.maker).node -/
def ac22 : AF := ⟨(.seq (.reg [⟨(some 3), none, .box (.t 1) 9 false⟩,
  ⟨(some 4), none, .mov (.c .nilp)⟩])
 (.seq (.reg [⟨(some 18), none, .faddr 0 (.t 3)⟩,
  ⟨(some 19), none, .load none (.t 18)⟩,
  ⟨(some 20), none, .faddr 2 (.t 3)⟩,
  ⟨(some 21), none, .load none (.t 20)⟩,
  ⟨(some 22), none, .faddr 1 (.t 3)⟩,
  ⟨(some 23), none, .load none (.t 22)⟩,
  ⟨(some 24), none, .build [(.int .i64 0), (.int .i64 0), (.str []), (.int .i64 0), .nilp, .nilp, (.sl .clip []), (.sl .clip []), .nilp, (.sl .clip [])] [(0, 1, (.t 19)), (1, 1, (.t 21)), (2, 1, (.t 23)), (3, 1, (.c (.int .i64 (-1))))]⟩,
  ⟨(some 25), none, .box (.t 24) 10 true⟩,
  ⟨(some 5), none, .mov (.t 25)⟩])
 (.seq (.block 0 (.seq (.reg [⟨(some 27), none, .faddr 0 (.t 3)⟩,
  ⟨(some 28), none, .load none (.t 27)⟩,
  ⟨(some 29), none, .bin .eql (.t 28) (.c (.int .i64 1))⟩,
  ⟨(some 26), none, .mov (.t 29)⟩])
 (.cond (.t 26) (.seq (.reg [⟨(some 31), none, .mov (.t 0)⟩,
  ⟨(some 32), none, .nilck (.t 31)⟩,
  ⟨(some 33), none, .faddr 0 (.t 32)⟩,
  ⟨(some 34), none, .load none (.t 33)⟩,
  ⟨(some 35), none, .faddr 1 (.t 3)⟩,
  ⟨(some 36), none, .load none (.t 35)⟩,
  ⟨(some 37), none, .lookup .str (.int .i64 0) (.t 34) (.t 36) true⟩,
  ⟨(some 30), none, .mov (.t 37)⟩,
  ⟨(some 38), none, .extract (.t 30) 0⟩,
  ⟨(some 39), none, .extract (.t 30) 1⟩,
  ⟨(some 6), none, .mov (.t 38)⟩,
  ⟨(some 7), none, .mov (.t 39)⟩])
 (.seq (.reg [⟨(some 40), none, .mov (.t 7)⟩])
 (.cond (.t 40) (.reg [⟨(some 41), none, .mov (.t 5)⟩,
  ⟨(some 42), none, .mov (.t 6)⟩,
  ⟨(some 43), none, .nilck (.t 41)⟩,
  ⟨(some 44), none, .faddr 3 (.t 43)⟩,
  ⟨none, none, .store 1 (.t 44) (.t 42)⟩])
 .skip)))
 (.seq (.reg [⟨(some 46), none, .faddr 0 (.t 3)⟩,
  ⟨(some 47), none, .load none (.t 46)⟩,
  ⟨(some 48), none, .bin .eql (.t 47) (.c (.int .i64 5))⟩,
  ⟨(some 49), none, .mov (.t 48)⟩,
  ⟨(some 50), (some (49, true)), .faddr 6 (.t 3)⟩,
  ⟨(some 51), (some (49, true)), .load none (.t 50)⟩,
  ⟨(some 52), (some (49, true)), .len 1 (.t 51)⟩,
  ⟨(some 53), (some (49, true)), .bin .eql (.t 52) (.c (.int .i64 2))⟩,
  ⟨(some 54), none, .pick (.t 49) (.t 53) (.c (.bool false))⟩,
  ⟨(some 45), none, .mov (.t 54)⟩])
 (.cond (.t 45) (.reg [⟨(some 55), none, .mov (.t 5)⟩,
  ⟨(some 56), none, .mov (.t 5)⟩,
  ⟨(some 57), none, .mov (.t 0)⟩,
  ⟨(some 58), none, .faddr 6 (.t 3)⟩,
  ⟨(some 59), none, .load none (.t 58)⟩,
  ⟨(some 60), none, .iaddr 9 (.t 59) (.c (.int .i64 0))⟩,
  ⟨(some 61), none, .load (some 9) (.t 60)⟩,
  ⟨(some 62), none, .call 0 [] (.c (.fn 22 [])) [(.t 57), (.t 61)]⟩,
  ⟨(some 63), none, .mov (.t 0)⟩,
  ⟨(some 64), none, .faddr 6 (.t 3)⟩,
  ⟨(some 65), none, .loadL none (.t 64)⟩,
  ⟨(some 66), none, .iaddr 9 (.t 65) (.c (.int .i64 1))⟩,
  ⟨(some 67), none, .loadL (some 9) (.t 66)⟩,
  ⟨(some 68), none, .call 0 [] (.c (.fn 22 [])) [(.t 63), (.t 67)]⟩,
  ⟨(some 69), none, .nilck (.t 55)⟩,
  ⟨(some 70), none, .faddr 4 (.t 69)⟩,
  ⟨none, none, .store 1 (.t 70) (.t 62)⟩,
  ⟨(some 71), none, .nilck (.t 56)⟩,
  ⟨(some 72), none, .faddr 5 (.t 71)⟩,
  ⟨none, none, .store 1 (.t 72) (.t 68)⟩])
 (.seq (.reg [⟨(some 74), none, .faddr 0 (.t 3)⟩,
  ⟨(some 75), none, .load none (.t 74)⟩,
  ⟨(some 76), none, .bin .eql (.t 75) (.c (.int .i64 6))⟩,
  ⟨(some 77), none, .mov (.t 76)⟩,
  ⟨(some 78), (some (77, true)), .faddr 6 (.t 3)⟩,
  ⟨(some 79), (some (77, true)), .load none (.t 78)⟩,
  ⟨(some 80), (some (77, true)), .len 1 (.t 79)⟩,
  ⟨(some 81), (some (77, true)), .bin .eql (.t 80) (.c (.int .i64 1))⟩,
  ⟨(some 82), none, .pick (.t 77) (.t 81) (.c (.bool false))⟩,
  ⟨(some 73), none, .mov (.t 82)⟩])
 (.cond (.t 73) (.reg [⟨(some 83), none, .mov (.t 5)⟩,
  ⟨(some 84), none, .mov (.t 0)⟩,
  ⟨(some 85), none, .faddr 6 (.t 3)⟩,
  ⟨(some 86), none, .load none (.t 85)⟩,
  ⟨(some 87), none, .iaddr 9 (.t 86) (.c (.int .i64 0))⟩,
  ⟨(some 88), none, .load (some 9) (.t 87)⟩,
  ⟨(some 89), none, .faddr 1 (.t 3)⟩,
  ⟨(some 90), none, .load none (.t 89)⟩,
  ⟨(some 91), none, .call 0 [] (.c (.fn 14 [])) [(.t 84), (.t 88), (.t 90), (.c (.bool true))]⟩,
  ⟨(some 92), none, .nilck (.t 83)⟩,
  ⟨(some 93), none, .faddr 8 (.t 92)⟩,
  ⟨none, none, .store 1 (.t 93) (.t 91)⟩])
 (.seq (.reg [⟨(some 95), none, .faddr 0 (.t 3)⟩,
  ⟨(some 96), none, .load none (.t 95)⟩,
  ⟨(some 97), none, .bin .eql (.t 96) (.c (.int .i64 9))⟩,
  ⟨(some 98), none, .mov (.t 97)⟩,
  ⟨(some 99), (some (98, true)), .faddr 6 (.t 3)⟩,
  ⟨(some 100), (some (98, true)), .load none (.t 99)⟩,
  ⟨(some 101), (some (98, true)), .len 1 (.t 100)⟩,
  ⟨(some 102), (some (98, true)), .bin .eql (.t 101) (.c (.int .i64 1))⟩,
  ⟨(some 103), none, .pick (.t 98) (.t 102) (.c (.bool false))⟩,
  ⟨(some 94), none, .mov (.t 103)⟩])
 (.cond (.t 94) (.seq (.seq (.reg [⟨(some 104), none, .faddr 8 (.t 3)⟩,
  ⟨(some 105), none, .load none (.t 104)⟩,
  ⟨(some 106), none, .len 1 (.t 105)⟩,
  ⟨(some 107), none, .mov (.c (.int .i64 0))⟩])
 (.block 1 (.loop [0, 5, 105, 106, 107] [3] (.seq (.reg [⟨(some 108), none, .bin .lss (.t 107) (.t 106)⟩])
 (.seq (.cond (.t 108) .skip
 (.exit 1))
 (.seq (.block 2 (.seq (.reg [⟨(some 109), none, .iaddr 13 (.t 105) (.t 107)⟩,
  ⟨(some 110), none, .load (some 13) (.t 109)⟩,
  ⟨(some 9), none, .alloc [(.str []), (.int .i64 0), (.str []), (.sl .clip []), (.int .i64 0), (.str []), (.int .i64 0), (.int .i64 0), (.str []), (.sl .clip []), (.sl .clip []), (.sl .clip []), (.sl .clip [])] false⟩,
  ⟨none, none, .store 13 (.t 9) (.t 110)⟩])
 (.reg [⟨(some 111), none, .mov (.t 5)⟩,
  ⟨(some 112), none, .mov (.t 5)⟩,
  ⟨(some 113), none, .nilck (.t 112)⟩,
  ⟨(some 114), none, .faddr 6 (.t 113)⟩,
  ⟨(some 115), none, .loadX false none (.t 114) [] [(.t 5)]⟩,
  ⟨(some 116), none, .mov (.t 0)⟩,
  ⟨(some 117), none, .faddr 0 (.t 9)⟩,
  ⟨(some 118), none, .load none (.t 117)⟩,
  ⟨(some 119), none, .callK 0 [] (.c (.fn 21 [])) [(.t 116), (.t 118)] [(.t 5)]⟩,
  ⟨(some 120), none, .bslice [(.int .i64 0)] 1 [(0, (.t 119))]⟩,
  ⟨(some 121), none, .append 1 (.t 115) (.t 120)⟩,
  ⟨(some 122), none, .nilck (.t 111)⟩,
  ⟨(some 123), none, .faddr 6 (.t 122)⟩,
  ⟨none, none, .store 1 (.t 123) (.t 121)⟩])))
 (.reg [⟨(some 124), none, .bin .add (.t 107) (.c (.int .i64 1))⟩,
  ⟨(some 107), none, .mov (.t 124)⟩])))))))
 (.seq (.seq (.reg [⟨(some 125), none, .faddr 8 (.t 3)⟩,
  ⟨(some 126), none, .load none (.t 125)⟩,
  ⟨(some 127), none, .len 1 (.t 126)⟩,
  ⟨(some 128), none, .mov (.c (.int .i64 0))⟩])
 (.block 3 (.loop [0, 5, 126, 127, 128] [3] (.seq (.reg [⟨(some 129), none, .bin .lss (.t 128) (.t 127)⟩])
 (.seq (.cond (.t 129) .skip
 (.exit 3))
 (.seq (.block 4 (.seq (.reg [⟨(some 130), none, .iaddr 13 (.t 126) (.t 128)⟩,
  ⟨(some 131), none, .load (some 13) (.t 130)⟩,
  ⟨(some 11), none, .alloc [(.str []), (.int .i64 0), (.str []), (.sl .clip []), (.int .i64 0), (.str []), (.int .i64 0), (.int .i64 0), (.str []), (.sl .clip []), (.sl .clip []), (.sl .clip []), (.sl .clip [])] false⟩,
  ⟨none, none, .store 13 (.t 11) (.t 131)⟩])
 (.reg [⟨(some 132), none, .mov (.t 5)⟩,
  ⟨(some 133), none, .mov (.t 5)⟩,
  ⟨(some 134), none, .nilck (.t 133)⟩,
  ⟨(some 135), none, .faddr 7 (.t 134)⟩,
  ⟨(some 136), none, .loadX false none (.t 135) [] [(.t 5)]⟩,
  ⟨(some 137), none, .mov (.t 0)⟩,
  ⟨(some 138), none, .faddr 4 (.t 11)⟩,
  ⟨(some 139), none, .load (some 9) (.t 138)⟩,
  ⟨(some 140), none, .callK 0 [] (.c (.fn 14 [])) [(.t 137), (.t 139), (.c (.str [])), (.c (.bool false))] [(.t 5)]⟩,
  ⟨(some 141), none, .bslice [.nilp] 1 [(0, (.t 140))]⟩,
  ⟨(some 142), none, .append 1 (.t 136) (.t 141)⟩,
  ⟨(some 143), none, .nilck (.t 132)⟩,
  ⟨(some 144), none, .faddr 7 (.t 143)⟩,
  ⟨none, none, .store 1 (.t 144) (.t 142)⟩])))
 (.reg [⟨(some 145), none, .bin .add (.t 128) (.c (.int .i64 1))⟩,
  ⟨(some 128), none, .mov (.t 145)⟩])))))))
 (.reg [⟨(some 146), none, .mov (.t 5)⟩,
  ⟨(some 147), none, .mov (.t 0)⟩,
  ⟨(some 148), none, .faddr 6 (.t 3)⟩,
  ⟨(some 149), none, .load none (.t 148)⟩,
  ⟨(some 150), none, .iaddr 9 (.t 149) (.c (.int .i64 0))⟩,
  ⟨(some 151), none, .load (some 9) (.t 150)⟩,
  ⟨(some 152), none, .call 0 [] (.c (.fn 22 [])) [(.t 147), (.t 151)]⟩,
  ⟨(some 153), none, .nilck (.t 146)⟩,
  ⟨(some 154), none, .faddr 4 (.t 153)⟩,
  ⟨none, none, .store 1 (.t 154) (.t 152)⟩])))
 (.seq (.reg [⟨(some 156), none, .faddr 0 (.t 3)⟩,
  ⟨(some 157), none, .load none (.t 156)⟩,
  ⟨(some 158), none, .bin .eql (.t 157) (.c (.int .i64 10))⟩,
  ⟨(some 159), none, .mov (.t 158)⟩,
  ⟨(some 160), (some (159, true)), .faddr 6 (.t 3)⟩,
  ⟨(some 161), (some (159, true)), .load none (.t 160)⟩,
  ⟨(some 162), (some (159, true)), .len 1 (.t 161)⟩,
  ⟨(some 163), (some (159, true)), .bin .eql (.t 162) (.c (.int .i64 1))⟩,
  ⟨(some 164), none, .pick (.t 159) (.t 163) (.c (.bool false))⟩,
  ⟨(some 155), none, .mov (.t 164)⟩])
 (.cond (.t 155) (.seq (.reg [⟨(some 165), none, .mov (.t 5)⟩,
  ⟨(some 166), none, .mov (.t 0)⟩,
  ⟨(some 167), none, .faddr 6 (.t 3)⟩,
  ⟨(some 168), none, .load none (.t 167)⟩,
  ⟨(some 169), none, .iaddr 9 (.t 168) (.c (.int .i64 0))⟩,
  ⟨(some 170), none, .load (some 9) (.t 169)⟩,
  ⟨(some 171), none, .call 0 [] (.c (.fn 22 [])) [(.t 166), (.t 170)]⟩,
  ⟨(some 172), none, .nilck (.t 165)⟩,
  ⟨(some 173), none, .faddr 4 (.t 172)⟩,
  ⟨none, none, .store 1 (.t 173) (.t 171)⟩])
 (.seq (.reg [⟨(some 174), none, .faddr 7 (.t 3)⟩,
  ⟨(some 175), none, .load none (.t 174)⟩,
  ⟨(some 176), none, .len 1 (.t 175)⟩,
  ⟨(some 177), none, .mov (.c (.int .i64 0))⟩])
 (.block 5 (.loop [0, 5, 175, 176, 177] [] (.seq (.reg [⟨(some 178), none, .bin .lss (.t 177) (.t 176)⟩])
 (.seq (.cond (.t 178) .skip
 (.exit 5))
 (.seq (.block 6 (.seq (.reg [⟨(some 179), none, .iaddr 11 (.t 175) (.t 177)⟩,
  ⟨(some 180), none, .load (some 11) (.t 179)⟩,
  ⟨(some 13), none, .alloc [(.str []), (.sl .clip []), (.int .i64 0), (.str []), (.int .i64 0), (.int .i64 0), (.str []), (.sl .clip []), (.sl .clip []), (.sl .clip []), (.sl .clip [])] false⟩,
  ⟨none, none, .store 11 (.t 13) (.t 180)⟩])
 (.seq (.reg [⟨(some 181), none, .faddr 0 (.t 13)⟩,
  ⟨(some 182), none, .load none (.t 181)⟩,
  ⟨(some 183), none, .build [(.str []), (.sl .clip []), .nilp] [(0, 1, (.t 182))]⟩,
  ⟨(some 14), none, .alloc [(.str []), (.sl .clip []), .nilp] false⟩,
  ⟨none, none, .store 3 (.t 14) (.t 183)⟩])
 (.seq (.seq (.reg [⟨(some 184), none, .faddr 1 (.t 13)⟩,
  ⟨(some 185), none, .load none (.t 184)⟩,
  ⟨(some 186), none, .len 1 (.t 185)⟩,
  ⟨(some 187), none, .mov (.c (.int .i64 0))⟩])
 (.block 7 (.loop [0, 5, 175, 176, 177, 185, 186, 187] [13, 14] (.seq (.reg [⟨(some 188), none, .bin .lss (.t 187) (.t 186)⟩])
 (.seq (.cond (.t 188) .skip
 (.exit 7))
 (.seq (.block 8 (.seq (.reg [⟨(some 189), none, .iaddr 1 (.t 185) (.t 187)⟩,
  ⟨(some 190), none, .load none (.t 189)⟩,
  ⟨(some 16), none, .mov (.t 190)⟩])
 (.seq (.reg [⟨(some 17), none, .mov (.c (.int .i64 (-1)))⟩])
 (.seq (.seq (.reg [⟨(some 191), none, .mov (.t 16)⟩,
  ⟨(some 192), none, .bin .neq (.t 191) (.c (.str [95]))⟩])
 (.cond (.t 192) (.reg [⟨(some 193), none, .mov (.t 0)⟩,
  ⟨(some 194), none, .mov (.t 16)⟩,
  ⟨(some 195), none, .call 0 [] (.c (.fn 21 [])) [(.t 193), (.t 194)]⟩,
  ⟨(some 17), none, .mov (.t 195)⟩])
 .skip))
 (.reg [⟨(some 196), none, .faddr 1 (.t 14)⟩,
  ⟨(some 197), none, .load none (.t 196)⟩,
  ⟨(some 198), none, .mov (.t 17)⟩,
  ⟨(some 199), none, .bslice [(.int .i64 0)] 1 [(0, (.t 198))]⟩,
  ⟨(some 200), none, .append 1 (.t 197) (.t 199)⟩,
  ⟨(some 201), none, .faddr 1 (.t 14)⟩,
  ⟨none, none, .store 1 (.t 201) (.t 200)⟩])))))
 (.reg [⟨(some 202), none, .bin .add (.t 187) (.c (.int .i64 1))⟩,
  ⟨(some 187), none, .mov (.t 202)⟩])))))))
 (.seq (.reg [⟨(some 203), none, .mov (.t 0)⟩,
  ⟨(some 204), none, .faddr 2 (.t 13)⟩,
  ⟨(some 205), none, .load (some 9) (.t 204)⟩,
  ⟨(some 206), none, .call 0 [] (.c (.fn 22 [])) [(.t 203), (.t 205)]⟩,
  ⟨(some 207), none, .faddr 2 (.t 14)⟩,
  ⟨none, none, .store 1 (.t 207) (.t 206)⟩])
 (.reg [⟨(some 208), none, .mov (.t 5)⟩,
  ⟨(some 209), none, .mov (.t 5)⟩,
  ⟨(some 210), none, .nilck (.t 209)⟩,
  ⟨(some 211), none, .faddr 9 (.t 210)⟩,
  ⟨(some 212), none, .load none (.t 211)⟩,
  ⟨(some 213), none, .load (some 3) (.t 14)⟩,
  ⟨(some 214), none, .bslice [(.str []), (.sl .clip []), .nilp] 1 [(0, (.t 213))]⟩,
  ⟨(some 215), none, .append 3 (.t 212) (.t 214)⟩,
  ⟨(some 216), none, .nilck (.t 208)⟩,
  ⟨(some 217), none, .faddr 9 (.t 216)⟩,
  ⟨none, none, .store 1 (.t 217) (.t 215)⟩]))))))
 (.reg [⟨(some 218), none, .bin .add (.t 177) (.c (.int .i64 1))⟩,
  ⟨(some 177), none, .mov (.t 218)⟩]))))))))
 .skip)))))))))))
 (.seq (.reg [⟨(some 219), none, .mov (.t 5)⟩,
  ⟨(some 4), none, .mov (.t 219)⟩])
 .ret)))),
  [.t 4], false, false, 220⟩
theorem co22 : compF Tryd.prog ⟨[25], [(25, [0, 5, 175, 176, 177], []), (29, [0, 5, 175, 176, 177, 185, 186, 187], [13, 14]), (12, [0, 5, 105, 106, 107], [3]), (17, [0, 5, 126, 127, 128], [3])], [], [], [], [], 22, [], [], [0, 1, 5]⟩ false false Tryd.f22 = some ac22 := by kernel_rfl

/-- paideia/norm.Erase -/
def ac23 : AF := ⟨(.seq (.reg [⟨(some 1), none, .box (.t 0) 9 false⟩,
  ⟨(some 2), none, .alloc [(.int .i64 0), (.str []), (.int .i64 0), (.int .i64 0), (.str []), (.sl .clip []), (.sl .clip []), (.sl .clip []), (.sl .clip [])] false⟩])
 (.seq (.seq (.reg [⟨(some 10), none, .faddr 0 (.t 1)⟩,
  ⟨(some 11), none, .load none (.t 10)⟩,
  ⟨(some 12), none, .bin .eql (.t 11) (.c (.int .i64 7))⟩,
  ⟨(some 13), none, .mov (.t 12)⟩,
  ⟨(some 14), (some (13, false)), .faddr 0 (.t 1)⟩,
  ⟨(some 15), (some (13, false)), .load none (.t 14)⟩,
  ⟨(some 16), (some (13, false)), .bin .eql (.t 15) (.c (.int .i64 8))⟩,
  ⟨(some 17), none, .pick (.t 13) (.c (.bool true)) (.t 16)⟩,
  ⟨(some 18), none, .mov (.t 17)⟩,
  ⟨(some 19), (some (18, true)), .faddr 6 (.t 1)⟩,
  ⟨(some 20), (some (18, true)), .load none (.t 19)⟩,
  ⟨(some 21), (some (18, true)), .len 1 (.t 20)⟩,
  ⟨(some 22), (some (18, true)), .bin .gtr (.t 21) (.c (.int .i64 0))⟩,
  ⟨(some 23), none, .pick (.t 18) (.t 22) (.c (.bool false))⟩])
 (.cond (.t 23) (.seq (.reg [⟨(some 24), none, .faddr 6 (.t 1)⟩,
  ⟨(some 25), none, .load none (.t 24)⟩,
  ⟨(some 26), none, .iaddr 9 (.t 25) (.c (.int .i64 0))⟩,
  ⟨(some 27), none, .load (some 9) (.t 26)⟩,
  ⟨(some 28), none, .call 0 [] (.c (.fn 23 [])) [(.t 27)]⟩,
  ⟨none, none, .store 9 (.t 2) (.t 28)⟩])
 .ret)
 .skip))
 (.seq (.reg [⟨(some 29), none, .faddr 0 (.t 1)⟩,
  ⟨(some 30), none, .load none (.t 29)⟩,
  ⟨(some 31), none, .faddr 1 (.t 1)⟩,
  ⟨(some 32), none, .load none (.t 31)⟩,
  ⟨(some 33), none, .faddr 2 (.t 1)⟩,
  ⟨(some 34), none, .load none (.t 33)⟩,
  ⟨(some 35), none, .build [(.int .i64 0), (.str []), (.int .i64 0), (.int .i64 0), (.str []), (.sl .clip []), (.sl .clip []), (.sl .clip []), (.sl .clip [])] [(0, 1, (.t 30)), (1, 1, (.t 32)), (2, 1, (.t 34))]⟩,
  ⟨(some 3), none, .alloc [(.int .i64 0), (.str []), (.int .i64 0), (.int .i64 0), (.str []), (.sl .clip []), (.sl .clip []), (.sl .clip []), (.sl .clip [])] false⟩,
  ⟨none, none, .store 9 (.t 3) (.t 35)⟩])
 (.seq (.seq (.reg [⟨(some 36), none, .faddr 6 (.t 1)⟩,
  ⟨(some 37), none, .load none (.t 36)⟩,
  ⟨(some 38), none, .len 1 (.t 37)⟩,
  ⟨(some 39), none, .mov (.c (.int .i64 0))⟩])
 (.block 0 (.loop [37, 38, 39] [1, 2, 3] (.seq (.reg [⟨(some 40), none, .bin .lss (.t 39) (.t 38)⟩])
 (.seq (.cond (.t 40) .skip
 (.exit 0))
 (.seq (.block 1 (.seq (.reg [⟨(some 41), none, .iaddr 9 (.t 37) (.t 39)⟩,
  ⟨(some 42), none, .load (some 9) (.t 41)⟩,
  ⟨(some 5), none, .alloc [(.int .i64 0), (.str []), (.int .i64 0), (.int .i64 0), (.str []), (.sl .clip []), (.sl .clip []), (.sl .clip []), (.sl .clip [])] false⟩,
  ⟨none, none, .store 9 (.t 5) (.t 42)⟩])
 (.reg [⟨(some 43), none, .faddr 6 (.t 3)⟩,
  ⟨(some 44), none, .loadL none (.t 43)⟩,
  ⟨(some 45), none, .load (some 9) (.t 5)⟩,
  ⟨(some 46), none, .call 0 [] (.c (.fn 23 [])) [(.t 45)]⟩,
  ⟨(some 47), none, .bslice [(.int .i64 0), (.str []), (.int .i64 0), (.int .i64 0), (.str []), (.sl .clip []), (.sl .clip []), (.sl .clip []), (.sl .clip [])] 1 [(0, (.t 46))]⟩,
  ⟨(some 48), none, .append 9 (.t 44) (.t 47)⟩,
  ⟨(some 49), none, .faddr 6 (.t 3)⟩,
  ⟨none, none, .store 1 (.t 49) (.t 48)⟩])))
 (.reg [⟨(some 50), none, .bin .add (.t 39) (.c (.int .i64 1))⟩,
  ⟨(some 39), none, .mov (.t 50)⟩])))))))
 (.seq (.seq (.reg [⟨(some 51), none, .faddr 7 (.t 1)⟩,
  ⟨(some 52), none, .load none (.t 51)⟩,
  ⟨(some 53), none, .len 1 (.t 52)⟩,
  ⟨(some 54), none, .mov (.c (.int .i64 0))⟩])
 (.block 2 (.loop [52, 53, 54] [1, 2, 3] (.seq (.reg [⟨(some 55), none, .bin .lss (.t 54) (.t 53)⟩])
 (.seq (.cond (.t 55) .skip
 (.exit 2))
 (.seq (.block 3 (.seq (.reg [⟨(some 56), none, .iaddr 11 (.t 52) (.t 54)⟩,
  ⟨(some 57), none, .load (some 11) (.t 56)⟩,
  ⟨(some 7), none, .alloc [(.str []), (.sl .clip []), (.int .i64 0), (.str []), (.int .i64 0), (.int .i64 0), (.str []), (.sl .clip []), (.sl .clip []), (.sl .clip []), (.sl .clip [])] false⟩,
  ⟨none, none, .store 11 (.t 7) (.t 57)⟩])
 (.reg [⟨(some 58), none, .faddr 7 (.t 3)⟩,
  ⟨(some 59), none, .loadL none (.t 58)⟩,
  ⟨(some 60), none, .faddr 0 (.t 7)⟩,
  ⟨(some 61), none, .loadL none (.t 60)⟩,
  ⟨(some 62), none, .faddr 1 (.t 7)⟩,
  ⟨(some 63), none, .load none (.t 62)⟩,
  ⟨(some 64), none, .call 0 [] (.c (.fn 38 [])) [(.t 63)]⟩,
  ⟨(some 65), none, .faddr 2 (.t 7)⟩,
  ⟨(some 66), none, .loadL (some 9) (.t 65)⟩,
  ⟨(some 67), none, .call 0 [] (.c (.fn 23 [])) [(.t 66)]⟩,
  ⟨(some 68), none, .build [(.str []), (.sl .clip []), (.int .i64 0), (.str []), (.int .i64 0), (.int .i64 0), (.str []), (.sl .clip []), (.sl .clip []), (.sl .clip []), (.sl .clip [])] [(0, 1, (.t 61)), (1, 1, (.t 64)), (2, 9, (.t 67))]⟩,
  ⟨(some 69), none, .bslice [(.str []), (.sl .clip []), (.int .i64 0), (.str []), (.int .i64 0), (.int .i64 0), (.str []), (.sl .clip []), (.sl .clip []), (.sl .clip []), (.sl .clip [])] 1 [(0, (.t 68))]⟩,
  ⟨(some 70), none, .append 11 (.t 59) (.t 69)⟩,
  ⟨(some 71), none, .faddr 7 (.t 3)⟩,
  ⟨none, none, .store 1 (.t 71) (.t 70)⟩])))
 (.reg [⟨(some 72), none, .bin .add (.t 54) (.c (.int .i64 1))⟩,
  ⟨(some 54), none, .mov (.t 72)⟩])))))))
 (.seq (.seq (.reg [⟨(some 73), none, .faddr 8 (.t 1)⟩,
  ⟨(some 74), none, .load none (.t 73)⟩,
  ⟨(some 75), none, .len 1 (.t 74)⟩,
  ⟨(some 76), none, .mov (.c (.int .i64 0))⟩])
 (.block 4 (.loop [74, 75, 76] [2, 3] (.seq (.reg [⟨(some 77), none, .bin .lss (.t 76) (.t 75)⟩])
 (.seq (.cond (.t 77) .skip
 (.exit 4))
 (.seq (.block 5 (.seq (.reg [⟨(some 78), none, .iaddr 13 (.t 74) (.t 76)⟩,
  ⟨(some 79), none, .load (some 13) (.t 78)⟩,
  ⟨(some 9), none, .alloc [(.str []), (.int .i64 0), (.str []), (.sl .clip []), (.int .i64 0), (.str []), (.int .i64 0), (.int .i64 0), (.str []), (.sl .clip []), (.sl .clip []), (.sl .clip []), (.sl .clip [])] false⟩,
  ⟨none, none, .store 13 (.t 9) (.t 79)⟩])
 (.reg [⟨(some 80), none, .faddr 8 (.t 3)⟩,
  ⟨(some 81), none, .loadL none (.t 80)⟩,
  ⟨(some 82), none, .faddr 0 (.t 9)⟩,
  ⟨(some 83), none, .loadL none (.t 82)⟩,
  ⟨(some 84), none, .faddr 4 (.t 9)⟩,
  ⟨(some 85), none, .load (some 9) (.t 84)⟩,
  ⟨(some 86), none, .call 0 [] (.c (.fn 23 [])) [(.t 85)]⟩,
  ⟨(some 87), none, .build [(.str []), (.int .i64 0), (.str []), (.sl .clip []), (.int .i64 0), (.str []), (.int .i64 0), (.int .i64 0), (.str []), (.sl .clip []), (.sl .clip []), (.sl .clip []), (.sl .clip [])] [(0, 1, (.t 83)), (4, 9, (.t 86))]⟩,
  ⟨(some 88), none, .bslice [(.str []), (.int .i64 0), (.str []), (.sl .clip []), (.int .i64 0), (.str []), (.int .i64 0), (.int .i64 0), (.str []), (.sl .clip []), (.sl .clip []), (.sl .clip []), (.sl .clip [])] 1 [(0, (.t 87))]⟩,
  ⟨(some 89), none, .append 13 (.t 81) (.t 88)⟩,
  ⟨(some 90), none, .faddr 8 (.t 3)⟩,
  ⟨none, none, .store 1 (.t 90) (.t 89)⟩])))
 (.reg [⟨(some 91), none, .bin .add (.t 76) (.c (.int .i64 1))⟩,
  ⟨(some 76), none, .mov (.t 91)⟩])))))))
 (.seq (.reg [⟨(some 92), none, .load (some 9) (.t 3)⟩,
  ⟨none, none, .store 9 (.t 2) (.t 92)⟩])
 .ret))))))),
  [.cell 2 (some 9)], false, true, 93⟩
theorem co23 : compF Tryd.prog ⟨[], [(5, [37, 38, 39], [1, 2, 3]), (10, [52, 53, 54], [1, 2, 3]), (15, [74, 75, 76], [2, 3])], [], [], [], [], 23, [], [], [0]⟩ false true Tryd.f23 = some ac23 := by kernel_rfl

/-- (*paideia/norm.norm).term -/
def ac24 : AF := ⟨(.seq (.reg [⟨(some 2), none, .fbox (.t 0) 1⟩,
  ⟨(some 3), none, .fbox (.t 1) 9⟩,
  ⟨(some 4), none, .alloc [(.int .i64 0), (.str []), (.int .i64 0), (.int .i64 0), (.str []), (.sl .clip []), (.sl .clip []), (.sl .clip []), (.sl .clip [])] false⟩])
 (.seq (.block 0 (.seq (.reg [⟨(some 13), none, .faddr 0 (.t 3)⟩,
  ⟨(some 14), none, .load none (.t 13)⟩,
  ⟨(some 15), none, .bin .eql (.t 14) (.c (.int .i64 1))⟩,
  ⟨(some 12), none, .mov (.t 15)⟩])
 (.cond (.t 12) (.seq (.seq (.reg [⟨(some 17), none, .load none (.t 2)⟩,
  ⟨(some 18), none, .nilck (.t 17)⟩,
  ⟨(some 19), none, .faddr 2 (.t 18)⟩,
  ⟨(some 20), none, .load none (.t 19)⟩,
  ⟨(some 21), none, .faddr 1 (.t 3)⟩,
  ⟨(some 22), none, .load none (.t 21)⟩,
  ⟨(some 23), none, .lookup .str (.str []) (.t 20) (.t 22) true⟩,
  ⟨(some 16), none, .mov (.t 23)⟩,
  ⟨(some 24), none, .extract (.t 16) 0⟩,
  ⟨(some 25), none, .extract (.t 16) 1⟩,
  ⟨(some 5), none, .mov (.t 24)⟩,
  ⟨(some 6), none, .mov (.t 25)⟩])
 (.seq (.reg [⟨(some 26), none, .mov (.t 6)⟩])
 (.cond (.t 26) (.seq (.reg [⟨(some 27), none, .mov (.t 5)⟩,
  ⟨(some 28), none, .call 0 [] (.c (.fn 39 [])) [(.t 27)]⟩,
  ⟨none, none, .store 9 (.t 4) (.t 28)⟩])
 .ret)
 .skip)))
 (.seq (.reg [⟨(some 29), none, .faddr 1 (.t 3)⟩,
  ⟨(some 30), none, .load none (.t 29)⟩,
  ⟨(some 31), none, .call 0 [] (.c (.fn 39 [])) [(.t 30)]⟩,
  ⟨none, none, .store 9 (.t 4) (.t 31)⟩])
 .ret))
 (.seq (.reg [⟨(some 33), none, .faddr 0 (.t 3)⟩,
  ⟨(some 34), none, .load none (.t 33)⟩,
  ⟨(some 35), none, .bin .eql (.t 34) (.c (.int .i64 5))⟩,
  ⟨(some 36), none, .mov (.t 35)⟩,
  ⟨(some 37), (some (36, true)), .faddr 6 (.t 3)⟩,
  ⟨(some 38), (some (36, true)), .load none (.t 37)⟩,
  ⟨(some 39), (some (36, true)), .len 1 (.t 38)⟩,
  ⟨(some 40), (some (36, true)), .bin .eql (.t 39) (.c (.int .i64 2))⟩,
  ⟨(some 41), none, .pick (.t 36) (.t 40) (.c (.bool false))⟩,
  ⟨(some 32), none, .mov (.t 41)⟩])
 (.cond (.t 32) (.seq (.reg [⟨(some 42), none, .load none (.t 2)⟩,
  ⟨(some 43), none, .load (some 9) (.t 3)⟩,
  ⟨(some 44), none, .call 0 [] (.c (.fn 40 [])) [(.t 42), (.t 43)]⟩,
  ⟨none, none, .store 9 (.t 4) (.t 44)⟩])
 .ret)
 (.seq (.reg [⟨(some 46), none, .faddr 0 (.t 3)⟩,
  ⟨(some 47), none, .load none (.t 46)⟩,
  ⟨(some 48), none, .bin .eql (.t 47) (.c (.int .i64 6))⟩,
  ⟨(some 45), none, .mov (.t 48)⟩])
 (.cond (.t 45) (.seq (.reg [⟨(some 49), none, .build [(.int .i64 0), (.str []), (.int .i64 0), (.int .i64 0), (.str []), (.sl .clip []), (.sl .clip []), (.sl .clip []), (.sl .clip [])] [(0, 1, (.c (.int .i64 6)))]⟩,
  ⟨(some 7), none, .alloc [(.int .i64 0), (.str []), (.int .i64 0), (.int .i64 0), (.str []), (.sl .clip []), (.sl .clip []), (.sl .clip []), (.sl .clip [])] true⟩,
  ⟨none, none, .store 9 (.t 7) (.t 49)⟩])
 (.seq (.reg [⟨(some 50), none, .load none (.t 2)⟩,
  ⟨(some 51), none, .faddr 1 (.t 3)⟩,
  ⟨(some 52), none, .load none (.t 51)⟩,
  ⟨(some 53), none, .bslice [(.str [])] 1 [(0, (.t 52))]⟩,
  ⟨(some 54), none, .mkfn 42 [(.t 2), (.t 3), (.t 7)]⟩,
  ⟨(some 55), none, .call 0 [] (.c (.fn 41 [])) [(.t 50), (.t 53), (.t 54)]⟩,
  ⟨(some 56), none, .iaddr 1 (.t 55) (.c (.int .i64 0))⟩,
  ⟨(some 57), none, .load none (.t 56)⟩,
  ⟨(some 58), none, .faddr 1 (.t 7)⟩,
  ⟨none, none, .store 1 (.t 58) (.t 57)⟩])
 (.seq (.reg [⟨(some 59), none, .load (some 9) (.t 7)⟩,
  ⟨none, none, .store 9 (.t 4) (.t 59)⟩])
 .ret)))
 (.seq (.reg [⟨(some 61), none, .faddr 0 (.t 3)⟩,
  ⟨(some 62), none, .load none (.t 61)⟩,
  ⟨(some 63), none, .bin .eql (.t 62) (.c (.int .i64 9))⟩,
  ⟨(some 60), none, .mov (.t 63)⟩])
 (.cond (.t 60) (.seq (.reg [⟨(some 64), none, .load none (.t 2)⟩,
  ⟨(some 65), none, .load (some 9) (.t 3)⟩,
  ⟨(some 66), none, .call 0 [] (.c (.fn 44 [])) [(.t 64), (.t 65)]⟩,
  ⟨none, none, .store 9 (.t 4) (.t 66)⟩])
 .ret)
 .skip)))))))))
 (.seq (.reg [⟨(some 67), none, .faddr 0 (.t 3)⟩,
  ⟨(some 68), none, .loadL none (.t 67)⟩,
  ⟨(some 69), none, .faddr 1 (.t 3)⟩,
  ⟨(some 70), none, .loadL none (.t 69)⟩,
  ⟨(some 71), none, .faddr 2 (.t 3)⟩,
  ⟨(some 72), none, .loadL none (.t 71)⟩,
  ⟨(some 73), none, .load none (.t 2)⟩,
  ⟨(some 74), none, .faddr 6 (.t 3)⟩,
  ⟨(some 75), none, .load none (.t 74)⟩,
  ⟨(some 76), none, .call 0 [] (.c (.fn 43 [])) [(.t 73), (.t 75)]⟩,
  ⟨(some 77), none, .build [(.int .i64 0), (.str []), (.int .i64 0), (.int .i64 0), (.str []), (.sl .clip []), (.sl .clip []), (.sl .clip []), (.sl .clip [])] [(0, 1, (.t 68)), (1, 1, (.t 70)), (2, 1, (.t 72)), (6, 1, (.t 76))]⟩,
  ⟨(some 8), none, .alloc [(.int .i64 0), (.str []), (.int .i64 0), (.int .i64 0), (.str []), (.sl .clip []), (.sl .clip []), (.sl .clip []), (.sl .clip [])] false⟩,
  ⟨none, none, .store 9 (.t 8) (.t 77)⟩])
 (.seq (.seq (.reg [⟨(some 78), none, .faddr 7 (.t 3)⟩,
  ⟨(some 79), none, .load none (.t 78)⟩,
  ⟨(some 80), none, .len 1 (.t 79)⟩,
  ⟨(some 81), none, .mov (.c (.int .i64 0))⟩])
 (.block 1 (.loop [2, 79, 80, 81] [4, 8] (.seq (.reg [⟨(some 82), none, .bin .lss (.t 81) (.t 80)⟩])
 (.seq (.cond (.t 82) .skip
 (.exit 1))
 (.seq (.block 2 (.seq (.reg [⟨(some 83), none, .iaddr 11 (.t 79) (.t 81)⟩,
  ⟨(some 84), none, .load (some 11) (.t 83)⟩,
  ⟨(some 10), none, .alloc [(.str []), (.sl .clip []), (.int .i64 0), (.str []), (.int .i64 0), (.int .i64 0), (.str []), (.sl .clip []), (.sl .clip []), (.sl .clip []), (.sl .clip [])] true⟩,
  ⟨none, none, .store 11 (.t 10) (.t 84)⟩])
 (.seq (.reg [⟨(some 85), none, .faddr 0 (.t 10)⟩,
  ⟨(some 86), none, .load none (.t 85)⟩,
  ⟨(some 87), none, .build [(.str []), (.sl .clip []), (.int .i64 0), (.str []), (.int .i64 0), (.int .i64 0), (.str []), (.sl .clip []), (.sl .clip []), (.sl .clip []), (.sl .clip [])] [(0, 1, (.t 86))]⟩,
  ⟨(some 11), none, .alloc [(.str []), (.sl .clip []), (.int .i64 0), (.str []), (.int .i64 0), (.int .i64 0), (.str []), (.sl .clip []), (.sl .clip []), (.sl .clip []), (.sl .clip [])] true⟩,
  ⟨none, none, .store 11 (.t 11) (.t 87)⟩])
 (.seq (.reg [⟨(some 88), none, .load none (.t 2)⟩,
  ⟨(some 89), none, .faddr 1 (.t 10)⟩,
  ⟨(some 90), none, .load none (.t 89)⟩,
  ⟨(some 91), none, .mkfn 45 [(.t 2), (.t 10), (.t 11)]⟩,
  ⟨(some 92), none, .call 0 [] (.c (.fn 41 [])) [(.t 88), (.t 90), (.t 91)]⟩,
  ⟨(some 93), none, .faddr 1 (.t 11)⟩,
  ⟨none, none, .store 1 (.t 93) (.t 92)⟩])
 (.reg [⟨(some 94), none, .faddr 7 (.t 8)⟩,
  ⟨(some 95), none, .load none (.t 94)⟩,
  ⟨(some 96), none, .load (some 11) (.t 11)⟩,
  ⟨(some 97), none, .bslice [(.str []), (.sl .clip []), (.int .i64 0), (.str []), (.int .i64 0), (.int .i64 0), (.str []), (.sl .clip []), (.sl .clip []), (.sl .clip []), (.sl .clip [])] 1 [(0, (.t 96))]⟩,
  ⟨(some 98), none, .append 11 (.t 95) (.t 97)⟩,
  ⟨(some 99), none, .faddr 7 (.t 8)⟩,
  ⟨none, none, .store 1 (.t 99) (.t 98)⟩])))))
 (.reg [⟨(some 100), none, .bin .add (.t 81) (.c (.int .i64 1))⟩,
  ⟨(some 81), none, .mov (.t 100)⟩])))))))
 (.seq (.reg [⟨(some 101), none, .load (some 9) (.t 8)⟩,
  ⟨none, none, .store 9 (.t 4) (.t 101)⟩])
 .ret))))),
  [.cell 4 (some 9)], false, true, 102⟩
theorem co24 : compF Tryd.prog ⟨[7, 10, 11], [(16, [2, 79, 80, 81], [4, 8])], [], [], [2, 3], [], 24, [], [], [0, 1]⟩ false true Tryd.f24 = some ac24 := by kernel_rfl

/-- (*paideia/force.writer).run -/
def ac25 : AF := ⟨(.seq (.reg [⟨(some 2), none, .mov (.c .nili)⟩])
 (.seq (.reg [⟨(some 9), none, .mov (.t 0)⟩,
  ⟨(some 10), none, .nilck (.t 9)⟩,
  ⟨(some 11), none, .faddr 0 (.t 10)⟩,
  ⟨(some 12), none, .load none (.t 11)⟩,
  ⟨(some 13), none, .call 0 [] (.c (.fn 46 [])) [(.t 12)]⟩,
  ⟨(some 8), none, .mov (.t 13)⟩,
  ⟨(some 14), none, .extract (.t 8) 0⟩,
  ⟨(some 15), none, .extract (.t 8) 1⟩,
  ⟨(some 3), none, .mov (.t 14)⟩,
  ⟨(some 4), none, .mov (.t 15)⟩])
 (.seq (.reg [⟨(some 16), none, .mov (.t 0)⟩,
  ⟨(some 17), none, .nilck (.t 16)⟩,
  ⟨(some 18), none, .faddr 0 (.t 17)⟩,
  ⟨(some 19), none, .load none (.t 18)⟩,
  ⟨(some 20), none, .mov (.t 0)⟩,
  ⟨(some 21), none, .nilck (.t 20)⟩,
  ⟨(some 22), none, .faddr 1 (.t 21)⟩,
  ⟨(some 23), none, .load none (.t 22)⟩,
  ⟨(some 24), none, .call 0 [] (.c (.fn 47 [])) [(.t 19), (.t 23)]⟩,
  ⟨(some 5), none, .mov (.t 24)⟩])
 (.seq (.reg [⟨(some 26), none, .mov (.t 0)⟩,
  ⟨(some 27), none, .nilck (.t 26)⟩,
  ⟨(some 28), none, .faddr 0 (.t 27)⟩,
  ⟨(some 29), none, .load none (.t 28)⟩,
  ⟨(some 30), none, .call 0 [] (.c (.fn 46 [])) [(.t 29)]⟩,
  ⟨(some 25), none, .mov (.t 30)⟩,
  ⟨(some 31), none, .extract (.t 25) 0⟩,
  ⟨(some 32), none, .extract (.t 25) 1⟩,
  ⟨(some 6), none, .mov (.t 31)⟩,
  ⟨(some 7), none, .mov (.t 32)⟩])
 (.seq (.reg [⟨(some 33), none, .mov (.t 0)⟩,
  ⟨(some 34), none, .nilck (.t 33)⟩,
  ⟨(some 35), none, .faddr 1 (.t 34)⟩,
  ⟨(some 36), none, .load none (.t 35)⟩,
  ⟨(some 37), none, .mov (.t 6)⟩,
  ⟨(some 38), none, .mov (.t 3)⟩,
  ⟨(some 39), none, .bin .sub (.t 37) (.t 38)⟩,
  ⟨(some 40), none, .bin .sub (.t 36) (.t 39)⟩,
  ⟨(some 41), none, .nilck (.t 33)⟩,
  ⟨(some 42), none, .faddr 1 (.t 41)⟩,
  ⟨none, none, .store 1 (.t 42) (.t 40)⟩])
 (.seq (.reg [⟨(some 43), none, .mov (.t 5)⟩,
  ⟨(some 2), none, .mov (.t 43)⟩])
 .ret)))))),
  [.t 2], false, false, 44⟩
theorem co25 : compF Tryd.prog ⟨[], [], [], [], [], [], 25, [], [], [0]⟩ false false Tryd.f25 = some ac25 := by kernel_rfl

/-- (*paideia/machine.Machine).Top -/
def ac26 : AF := ⟨(.seq (.reg [⟨(some 2), none, .mov (.c (.str []))⟩,
  ⟨(some 3), none, .mov (.c (.int .i64 0))⟩,
  ⟨(some 4), none, .mov (.c (.int .i64 0))⟩])
 (.seq (.seq (.reg [⟨(some 6), none, .mov (.t 0)⟩,
  ⟨(some 7), none, .nilck (.t 6)⟩,
  ⟨(some 8), none, .faddr 3 (.t 7)⟩,
  ⟨(some 9), none, .load none (.t 8)⟩,
  ⟨(some 10), none, .eqnil .iface true (.t 9)⟩,
  ⟨(some 11), none, .mov (.t 10)⟩,
  ⟨(some 12), (some (11, false)), .mov (.t 0)⟩,
  ⟨(some 13), (some (11, false)), .nilck (.t 12)⟩,
  ⟨(some 14), (some (11, false)), .faddr 4 (.t 13)⟩,
  ⟨(some 15), (some (11, false)), .load none (.t 14)⟩,
  ⟨(some 16), (some (11, false)), .nilck (.t 15)⟩,
  ⟨(some 17), (some (11, false)), .faddr 0 (.t 16)⟩,
  ⟨(some 18), (some (11, false)), .load none (.t 17)⟩,
  ⟨(some 19), (some (11, false)), .eqnil .ptr false (.t 18)⟩,
  ⟨(some 20), none, .pick (.t 11) (.c (.bool true)) (.t 19)⟩])
 (.cond (.t 20) (.seq (.reg [⟨(some 2), none, .mov (.c (.str []))⟩,
  ⟨(some 3), none, .mov (.c (.int .i64 0))⟩,
  ⟨(some 4), none, .mov (.c (.int .i64 (-4)))⟩])
 .ret)
 .skip))
 (.seq (.seq (.reg [⟨(some 21), none, .mov (.t 0)⟩,
  ⟨(some 22), none, .nilck (.t 21)⟩,
  ⟨(some 23), none, .faddr 4 (.t 22)⟩,
  ⟨(some 24), none, .load none (.t 23)⟩,
  ⟨(some 25), none, .nilck (.t 24)⟩,
  ⟨(some 26), none, .faddr 0 (.t 25)⟩,
  ⟨(some 27), none, .load none (.t 26)⟩,
  ⟨(some 5), none, .mov (.t 27)⟩])
 (.seq (.reg [⟨(some 28), none, .mov (.t 5)⟩,
  ⟨(some 29), none, .nilck (.t 28)⟩,
  ⟨(some 30), none, .faddr 0 (.t 29)⟩,
  ⟨(some 31), none, .load none (.t 30)⟩])
 (.block 0 (.seq (.reg [⟨(some 33), none, .bin .eql (.t 31) (.c (.int .i64 2))⟩,
  ⟨(some 32), none, .mov (.t 33)⟩])
 (.cond (.t 32) (.seq (.reg [⟨(some 34), none, .mov (.t 5)⟩,
  ⟨(some 35), none, .nilck (.t 34)⟩,
  ⟨(some 36), none, .faddr 2 (.t 35)⟩,
  ⟨(some 37), none, .load none (.t 36)⟩,
  ⟨(some 38), none, .mov (.t 5)⟩,
  ⟨(some 39), none, .nilck (.t 38)⟩,
  ⟨(some 40), none, .faddr 3 (.t 39)⟩,
  ⟨(some 41), none, .load none (.t 40)⟩,
  ⟨(some 42), none, .len 1 (.t 41)⟩,
  ⟨(some 2), none, .mov (.t 37)⟩,
  ⟨(some 3), none, .mov (.c (.int .i64 0))⟩,
  ⟨(some 4), none, .mov (.t 42)⟩])
 .ret)
 (.seq (.reg [⟨(some 44), none, .bin .eql (.t 31) (.c (.int .i64 3))⟩,
  ⟨(some 43), none, .mov (.t 44)⟩])
 (.cond (.t 43) (.seq (.reg [⟨(some 45), none, .mov (.t 5)⟩,
  ⟨(some 46), none, .nilck (.t 45)⟩,
  ⟨(some 47), none, .faddr 1 (.t 46)⟩,
  ⟨(some 48), none, .load none (.t 47)⟩,
  ⟨(some 2), none, .mov (.c (.str []))⟩,
  ⟨(some 3), none, .mov (.t 48)⟩,
  ⟨(some 4), none, .mov (.c (.int .i64 (-1)))⟩])
 .ret)
 (.seq (.reg [⟨(some 50), none, .bin .eql (.t 31) (.c (.int .i64 4))⟩,
  ⟨(some 49), none, .mov (.t 50)⟩])
 (.cond (.t 49) (.seq (.reg [⟨(some 51), none, .mov (.t 5)⟩,
  ⟨(some 52), none, .nilck (.t 51)⟩,
  ⟨(some 53), none, .faddr 1 (.t 52)⟩,
  ⟨(some 54), none, .load none (.t 53)⟩,
  ⟨(some 2), none, .mov (.c (.str []))⟩,
  ⟨(some 3), none, .mov (.t 54)⟩,
  ⟨(some 4), none, .mov (.c (.int .i64 (-2)))⟩])
 .ret)
 .skip)))))))))
 (.seq (.reg [⟨(some 2), none, .mov (.c (.str []))⟩,
  ⟨(some 3), none, .mov (.c (.int .i64 0))⟩,
  ⟨(some 4), none, .mov (.c (.int .i64 (-3)))⟩])
 .ret)))),
  [.t 2, .t 3, .t 4], false, false, 55⟩
theorem co26 : compF Tryd.prog ⟨[], [], [], [], [], [], 26, [], [], [0]⟩ false false Tryd.f26 = some ac26 := by kernel_rfl

/-- (*paideia/force.writer).puts -/
def ac27 : AF := ⟨(.seq (.reg [⟨(some 4), none, .mov (.c .nili)⟩])
 (.seq (.reg [⟨(some 5), none, .mov (.t 0)⟩,
  ⟨(some 6), none, .mov (.t 0)⟩,
  ⟨(some 7), none, .nilck (.t 6)⟩,
  ⟨(some 8), none, .faddr 3 (.t 7)⟩,
  ⟨(some 9), none, .load none (.t 8)⟩,
  ⟨(some 10), none, .mov (.t 1)⟩,
  ⟨(some 11), none, .appV 1 (.t 9) (.t 10)⟩,
  ⟨(some 12), none, .nilck (.t 5)⟩,
  ⟨(some 13), none, .faddr 3 (.t 12)⟩,
  ⟨none, none, .store 1 (.t 13) (.t 11)⟩])
 (.seq (.seq (.reg [⟨(some 14), none, .mov (.t 0)⟩,
  ⟨(some 15), none, .nilck (.t 14)⟩,
  ⟨(some 16), none, .faddr 3 (.t 15)⟩,
  ⟨(some 17), none, .load none (.t 16)⟩,
  ⟨(some 18), none, .len 1 (.t 17)⟩,
  ⟨(some 19), none, .mov (.t 0)⟩,
  ⟨(some 20), none, .nilck (.t 19)⟩,
  ⟨(some 21), none, .faddr 2 (.t 20)⟩,
  ⟨(some 22), none, .load none (.t 21)⟩,
  ⟨(some 23), none, .bin .gtr (.t 18) (.t 22)⟩])
 (.cond (.t 23) (.seq (.reg [⟨(some 24), none, .gload 0⟩,
  ⟨(some 4), none, .mov (.t 24)⟩])
 .ret)
 .skip))
 (.seq (.reg [⟨(some 4), none, .mov (.c .nili)⟩])
 .ret)))),
  [.t 4], false, false, 25⟩
theorem co27 : compF Tryd.prog ⟨[], [], [], [0], [], [2000011], 27, [], [], [0, 1]⟩ false false Tryd.f27 = some ac27 := by kernel_rfl

/-- strconv.FormatUint -/
def ac28 : AF := ⟨(.seq (.reg [⟨(some 4), none, .mov (.c (.str []))⟩])
 (.seq (.reg [⟨(some 5), none, .mov (.t 0)⟩,
  ⟨(some 6), none, .mov (.t 1)⟩,
  ⟨(some 7), none, .call 0 [] (.c (.fn 48 [])) [(.t 5), (.t 6)]⟩,
  ⟨(some 4), none, .mov (.t 7)⟩])
 .ret)),
  [.t 4], false, true, 8⟩
theorem co28 : compF Tryd.prog ⟨[], [], [], [], [], [], 28, [], [], []⟩ false true Tryd.f28 = some ac28 := by kernel_rfl

/-- paideia/prim.Quote -/
def ac29 : AF := ⟨(.seq (.reg [⟨(some 2), none, .mov (.c (.str []))⟩])
 (.seq (.reg [⟨(some 3), none, .mov (.t 0)⟩,
  ⟨(some 4), none, .conv (.int .i64) (.t 3)⟩,
  ⟨(some 5), none, .call 0 [] (.c (.fn 49 [])) [(.t 4)]⟩,
  ⟨(some 2), none, .mov (.t 5)⟩])
 .ret)),
  [.t 2], false, true, 6⟩
theorem co29 : compF Tryd.prog ⟨[], [], [], [], [], [], 29, [], [], []⟩ false true Tryd.f29 = some ac29 := by kernel_rfl

/-- (*paideia/force.writer).parts -/
def ac30 : AF := ⟨(.seq (.reg [⟨(some 6), none, .mov (.c .nili)⟩])
 (.seq (.seq (.reg [⟨(some 11), none, .mov (.t 0)⟩,
  ⟨(some 12), none, .mov (.t 1)⟩,
  ⟨(some 13), none, .bin .add (.c (.str [40])) (.t 12)⟩,
  ⟨(some 14), none, .call 0 [] (.c (.fn 27 [])) [(.t 11), (.t 13)]⟩,
  ⟨(some 7), none, .mov (.t 14)⟩])
 (.seq (.reg [⟨(some 15), none, .mov (.t 7)⟩,
  ⟨(some 16), none, .eqnil .iface true (.t 15)⟩])
 (.cond (.t 16) (.seq (.reg [⟨(some 17), none, .mov (.t 7)⟩,
  ⟨(some 6), none, .mov (.t 17)⟩])
 .ret)
 .skip)))
 (.seq (.seq (.reg [⟨(some 18), none, .mov (.t 2)⟩,
  ⟨(some 19), none, .mov (.c (.int .i64 0))⟩])
 (.block 0 (.loop [0, 18, 19] [] (.seq (.reg [⟨(some 20), none, .bin .lss (.t 19) (.t 18)⟩])
 (.seq (.cond (.t 20) .skip
 (.exit 0))
 (.seq (.block 1 (.seq (.reg [⟨(some 21), none, .mov (.t 19)⟩,
  ⟨(some 8), none, .mov (.t 21)⟩])
 (.seq (.seq (.reg [⟨(some 22), none, .mov (.t 0)⟩,
  ⟨(some 23), none, .call 0 [] (.c (.fn 27 [])) [(.t 22), (.c (.str [32]))]⟩,
  ⟨(some 9), none, .mov (.t 23)⟩])
 (.seq (.reg [⟨(some 24), none, .mov (.t 9)⟩,
  ⟨(some 25), none, .eqnil .iface true (.t 24)⟩])
 (.cond (.t 25) (.seq (.reg [⟨(some 26), none, .mov (.t 9)⟩,
  ⟨(some 6), none, .mov (.t 26)⟩])
 .ret)
 .skip)))
 (.seq (.seq (.reg [⟨(some 27), none, .mov (.t 0)⟩,
  ⟨(some 28), none, .nilck (.t 27)⟩,
  ⟨(some 29), none, .faddr 0 (.t 28)⟩,
  ⟨(some 30), none, .load none (.t 29)⟩,
  ⟨(some 31), none, .mov (.t 8)⟩,
  ⟨(some 32), none, .call 0 [] (.c (.fn 50 [])) [(.t 30), (.t 31)]⟩,
  ⟨(some 33), none, .not (.t 32)⟩])
 (.cond (.t 33) (.seq (.reg [⟨(some 34), none, .gload 1⟩,
  ⟨(some 6), none, .mov (.t 34)⟩])
 .ret)
 .skip))
 (.seq (.reg [⟨(some 35), none, .mov (.t 0)⟩,
  ⟨(some 36), none, .call 0 [] (.c (.fn 16 [])) [(.t 35)]⟩,
  ⟨(some 10), none, .mov (.t 36)⟩])
 (.seq (.reg [⟨(some 37), none, .mov (.t 0)⟩,
  ⟨(some 38), none, .nilck (.t 37)⟩,
  ⟨(some 39), none, .faddr 0 (.t 38)⟩,
  ⟨(some 40), none, .load none (.t 39)⟩,
  ⟨(some 41), none, .call 0 [] (.c (.fn 51 [])) [(.t 40)]⟩])
 (.seq (.reg [⟨(some 42), none, .mov (.t 10)⟩,
  ⟨(some 43), none, .eqnil .iface true (.t 42)⟩])
 (.cond (.t 43) (.seq (.reg [⟨(some 44), none, .mov (.t 10)⟩,
  ⟨(some 6), none, .mov (.t 44)⟩])
 .ret)
 .skip))))))))
 (.reg [⟨(some 45), none, .bin .add (.t 19) (.c (.int .i64 1))⟩,
  ⟨(some 19), none, .mov (.t 45)⟩])))))))
 (.seq (.reg [⟨(some 46), none, .mov (.t 0)⟩,
  ⟨(some 47), none, .call 0 [] (.c (.fn 27 [])) [(.t 46), (.c (.str [41]))]⟩,
  ⟨(some 6), none, .mov (.t 47)⟩])
 .ret)))),
  [.t 6], false, false, 48⟩
theorem co30 : compF Tryd.prog ⟨[], [(5, [0, 18, 19], [])], [], [1], [], [], 30, [], [], []⟩ false false Tryd.f30 = some ac30 := by kernel_rfl

/-- paideia/paideiaref.SameFault -/
def ac31 : AF := ⟨(.seq (.reg [⟨(some 2), none, .box (.t 0) 3 false⟩,
  ⟨(some 3), none, .box (.t 1) 3 false⟩,
  ⟨(some 4), none, .mov (.c (.bool false))⟩])
 (.seq (.reg [⟨(some 5), none, .faddr 0 (.t 2)⟩,
  ⟨(some 6), none, .load none (.t 5)⟩,
  ⟨(some 7), none, .faddr 0 (.t 3)⟩,
  ⟨(some 8), none, .load none (.t 7)⟩,
  ⟨(some 9), none, .bin .eql (.t 6) (.t 8)⟩,
  ⟨(some 10), none, .mov (.t 9)⟩,
  ⟨(some 11), (some (10, true)), .faddr 1 (.t 2)⟩,
  ⟨(some 12), (some (10, true)), .load none (.t 11)⟩,
  ⟨(some 13), (some (10, true)), .faddr 1 (.t 3)⟩,
  ⟨(some 14), (some (10, true)), .load none (.t 13)⟩,
  ⟨(some 15), (some (10, true)), .eqb false (.t 12) (.t 14)⟩,
  ⟨(some 16), none, .pick (.t 10) (.t 15) (.c (.bool false))⟩,
  ⟨(some 17), none, .mov (.t 16)⟩,
  ⟨(some 18), (some (17, true)), .faddr 2 (.t 2)⟩,
  ⟨(some 19), (some (17, true)), .load none (.t 18)⟩,
  ⟨(some 20), (some (17, true)), .faddr 2 (.t 3)⟩,
  ⟨(some 21), (some (17, true)), .load none (.t 20)⟩,
  ⟨(some 22), (some (17, true)), .bin .eql (.t 19) (.t 21)⟩,
  ⟨(some 23), none, .pick (.t 17) (.t 22) (.c (.bool false))⟩,
  ⟨(some 4), none, .mov (.t 23)⟩])
 .ret)),
  [.t 4], false, true, 24⟩
theorem co31 : compF Tryd.prog ⟨[], [], [], [], [], [], 31, [], [], []⟩ false true Tryd.f31 = some ac31 := by kernel_rfl

/-- paideia/paideiasee.Fault -/
def ac32 : AF := ⟨(.seq (.reg [⟨(some 2), none, .alloc [(.int .i64 0), (.bool false), (.int .i64 0)] false⟩])
 (.seq (.seq (.reg [⟨(some 5), none, .mov (.t 0)⟩,
  ⟨(some 6), none, .eqnil .iface false (.t 5)⟩])
 (.cond (.t 6) (.seq (.reg [⟨(some 7), none, .call 0 [] (.c (.fn 52 [])) []⟩,
  ⟨none, none, .store 3 (.t 2) (.t 7)⟩])
 .ret)
 .skip))
 (.seq (.reg [⟨(some 9), none, .mov (.t 0)⟩,
  ⟨(some 10), none, .tasent [0, 1, 3, 4, 5, 6, 7, 8, 9, 10, 11, 12, 13, 14, 15] 124 .nilp (.t 9)⟩,
  ⟨(some 8), none, .mov (.t 10)⟩,
  ⟨(some 11), none, .extract (.t 8) 0⟩,
  ⟨(some 12), none, .extract (.t 8) 1⟩,
  ⟨(some 3), none, .mov (.t 11)⟩,
  ⟨(some 4), none, .mov (.t 12)⟩])
 (.seq (.seq (.reg [⟨(some 13), none, .mov (.t 4)⟩,
  ⟨(some 14), none, .not (.t 13)⟩])
 (.cond (.t 14) (.seq (.reg [⟨(some 15), none, .mov (.t 0)⟩,
  ⟨(some 16), none, .call 0 [] (.c (.fn 53 [])) [(.t 15)]⟩,
  ⟨(some 17), none, .call 0 [] (.c (.fn 18 [])) [(.t 16)]⟩,
  ⟨none, none, .store 3 (.t 2) (.t 17)⟩])
 .ret)
 .skip))
 (.seq (.seq (.reg [⟨(some 18), none, .mov (.t 3)⟩,
  ⟨(some 19), none, .eqnil .ptr false (.t 18)⟩,
  ⟨(some 20), none, .mov (.t 19)⟩,
  ⟨(some 21), (some (20, false)), .mov (.t 3)⟩,
  ⟨(some 22), (some (20, false)), .nilck (.t 21)⟩,
  ⟨(some 23), (some (20, false)), .faddr 1 (.t 22)⟩,
  ⟨(some 24), (some (20, false)), .load none (.t 23)⟩,
  ⟨(some 25), (some (20, false)), .eqnil .iface false (.t 24)⟩,
  ⟨(some 26), none, .pick (.t 20) (.c (.bool true)) (.t 25)⟩])
 (.cond (.t 26) (.seq (.reg [⟨(some 27), none, .call 0 [] (.c (.fn 18 [])) [(.c (.int .i64 (-1)))]⟩,
  ⟨none, none, .store 3 (.t 2) (.t 27)⟩])
 .ret)
 .skip))
 (.seq (.reg [⟨(some 28), none, .mov (.t 3)⟩,
  ⟨(some 29), none, .nilck (.t 28)⟩,
  ⟨(some 30), none, .faddr 1 (.t 29)⟩,
  ⟨(some 31), none, .load none (.t 30)⟩,
  ⟨(some 32), none, .call 0 [] (.c (.fn 53 [])) [(.t 31)]⟩,
  ⟨(some 33), none, .mov (.t 3)⟩,
  ⟨(some 34), none, .nilck (.t 33)⟩,
  ⟨(some 35), none, .faddr 0 (.t 34)⟩,
  ⟨(some 36), none, .loadL none (.t 35)⟩,
  ⟨(some 37), none, .call 0 [] (.c (.fn 54 [])) [(.t 32), (.t 36)]⟩,
  ⟨none, none, .store 3 (.t 2) (.t 37)⟩])
 .ret)))))),
  [.cell 2 (some 3)], false, true, 38⟩
theorem co32 : compF Tryd.prog ⟨[], [], [], [0, 1, 3, 4, 5, 6, 7, 8, 9, 10, 11, 12, 13, 14, 15, 1000175, 2000002], [], [], 32, [], [], [0]⟩ false true Tryd.f32 = some ac32 := by kernel_rfl

/-- (*paideia/term.free).term -/
def ac37 : AF := ⟨(.seq (.reg [⟨(some 2), none, .fbox (.t 0) 1⟩,
  ⟨(some 3), none, .fbox (.t 1) 9⟩])
 (.seq (.reg [⟨(some 9), none, .faddr 0 (.t 3)⟩,
  ⟨(some 10), none, .load none (.t 9)⟩])
 (.block 0 (.seq (.reg [⟨(some 30), none, .bin .eql (.t 10) (.c (.int .i64 1))⟩,
  ⟨(some 29), none, .mov (.t 30)⟩])
 (.cond (.t 29) (.seq (.reg [⟨(some 31), none, .load none (.t 2)⟩,
  ⟨(some 32), none, .nilck (.t 31)⟩,
  ⟨(some 33), none, .faddr 0 (.t 32)⟩,
  ⟨(some 34), none, .load none (.t 33)⟩,
  ⟨(some 35), none, .faddr 1 (.t 3)⟩,
  ⟨(some 36), none, .load none (.t 35)⟩,
  ⟨(some 37), none, .lookup .str (.int .i64 0) (.t 34) (.t 36) false⟩,
  ⟨(some 38), none, .bin .eql (.t 37) (.c (.int .i64 0))⟩,
  ⟨(some 39), none, .mov (.t 38)⟩,
  ⟨(some 40), (some (39, true)), .load none (.t 2)⟩,
  ⟨(some 41), (some (39, true)), .nilck (.t 40)⟩,
  ⟨(some 42), (some (39, true)), .faddr 1 (.t 41)⟩,
  ⟨(some 43), (some (39, true)), .load none (.t 42)⟩,
  ⟨(some 44), (some (39, true)), .faddr 1 (.t 3)⟩,
  ⟨(some 45), (some (39, true)), .load none (.t 44)⟩,
  ⟨(some 46), (some (39, true)), .lookup .str (.bool false) (.t 43) (.t 45) false⟩,
  ⟨(some 47), (some (39, true)), .not (.t 46)⟩,
  ⟨(some 48), none, .pick (.t 39) (.t 47) (.c (.bool false))⟩])
 (.cond (.t 48) (.seq (.reg [⟨(some 49), none, .load none (.t 2)⟩,
  ⟨(some 50), none, .nilck (.t 49)⟩,
  ⟨(some 51), none, .faddr 1 (.t 50)⟩,
  ⟨(some 52), none, .load none (.t 51)⟩,
  ⟨(some 53), none, .faddr 1 (.t 3)⟩,
  ⟨(some 54), none, .load none (.t 53)⟩,
  ⟨none, none, .mapset .str (.t 52) (.t 54) (.c (.bool true))⟩])
 (.reg [⟨(some 55), none, .loadL none (.t 2)⟩,
  ⟨(some 56), none, .load none (.t 2)⟩,
  ⟨(some 57), none, .nilck (.t 56)⟩,
  ⟨(some 58), none, .faddr 2 (.t 57)⟩,
  ⟨(some 59), none, .load none (.t 58)⟩,
  ⟨(some 60), none, .faddr 1 (.t 3)⟩,
  ⟨(some 61), none, .load none (.t 60)⟩,
  ⟨(some 62), none, .bslice [(.str [])] 1 [(0, (.t 61))]⟩,
  ⟨(some 63), none, .append 1 (.t 59) (.t 62)⟩,
  ⟨(some 64), none, .nilck (.t 55)⟩,
  ⟨(some 65), none, .faddr 2 (.t 64)⟩,
  ⟨none, none, .store 1 (.t 65) (.t 63)⟩]))
 .skip))
 (.seq (.reg [⟨(some 67), none, .bin .eql (.t 10) (.c (.int .i64 6))⟩,
  ⟨(some 66), none, .mov (.t 67)⟩])
 (.cond (.t 66) (.reg [⟨(some 68), none, .load none (.t 2)⟩,
  ⟨(some 69), none, .faddr 1 (.t 3)⟩,
  ⟨(some 70), none, .load none (.t 69)⟩,
  ⟨(some 71), none, .bslice [(.str [])] 1 [(0, (.t 70))]⟩,
  ⟨(some 72), none, .mkfn 61 [(.t 2), (.t 3)]⟩,
  ⟨(some 73), none, .call 0 [] (.c (.fn 60 [])) [(.t 68), (.t 71), (.t 72)]⟩])
 (.seq (.reg [⟨(some 75), none, .bin .eql (.t 10) (.c (.int .i64 9))⟩,
  ⟨(some 74), none, .mov (.t 75)⟩])
 (.cond (.t 74) (.seq (.reg [⟨(some 4), none, .mov (.c (.sl .clip []))⟩])
 (.seq (.seq (.reg [⟨(some 76), none, .faddr 8 (.t 3)⟩,
  ⟨(some 77), none, .load none (.t 76)⟩,
  ⟨(some 78), none, .len 1 (.t 77)⟩,
  ⟨(some 79), none, .mov (.c (.int .i64 0))⟩])
 (.block 3 (.loop [2, 3, 4, 77, 78, 79] [] (.seq (.reg [⟨(some 80), none, .bin .lss (.t 79) (.t 78)⟩])
 (.seq (.cond (.t 80) .skip
 (.exit 3))
 (.seq (.block 4 (.seq (.reg [⟨(some 81), none, .iaddr 13 (.t 77) (.t 79)⟩,
  ⟨(some 82), none, .load (some 13) (.t 81)⟩,
  ⟨(some 6), none, .alloc [(.str []), (.int .i64 0), (.str []), (.sl .clip []), (.int .i64 0), (.str []), (.int .i64 0), (.int .i64 0), (.str []), (.sl .clip []), (.sl .clip []), (.sl .clip []), (.sl .clip [])] false⟩,
  ⟨none, none, .store 13 (.t 6) (.t 82)⟩])
 (.reg [⟨(some 83), none, .mov (.t 4)⟩,
  ⟨(some 84), none, .faddr 0 (.t 6)⟩,
  ⟨(some 85), none, .load none (.t 84)⟩,
  ⟨(some 86), none, .bslice [(.str [])] 1 [(0, (.t 85))]⟩,
  ⟨(some 87), none, .append 1 (.t 83) (.t 86)⟩,
  ⟨(some 4), none, .mov (.t 87)⟩])))
 (.reg [⟨(some 88), none, .bin .add (.t 79) (.c (.int .i64 1))⟩,
  ⟨(some 79), none, .mov (.t 88)⟩])))))))
 (.reg [⟨(some 89), none, .load none (.t 2)⟩,
  ⟨(some 90), none, .mov (.t 4)⟩,
  ⟨(some 91), none, .mkfn 63 [(.t 3), (.t 2)]⟩,
  ⟨(some 92), none, .call 0 [] (.c (.fn 60 [])) [(.t 89), (.t 90), (.t 91)]⟩])))
 (.seq (.reg [⟨(some 11), none, .load none (.t 2)⟩,
  ⟨(some 12), none, .faddr 6 (.t 3)⟩,
  ⟨(some 13), none, .load none (.t 12)⟩,
  ⟨(some 14), none, .call 0 [] (.c (.fn 62 [])) [(.t 11), (.t 13)]⟩])
 (.seq (.reg [⟨(some 15), none, .faddr 7 (.t 3)⟩,
  ⟨(some 16), none, .load none (.t 15)⟩,
  ⟨(some 17), none, .len 1 (.t 16)⟩,
  ⟨(some 18), none, .mov (.c (.int .i64 0))⟩])
 (.block 1 (.loop [2, 16, 17, 18] [] (.seq (.reg [⟨(some 19), none, .bin .lss (.t 18) (.t 17)⟩])
 (.seq (.cond (.t 19) .skip
 (.exit 1))
 (.seq (.block 2 (.seq (.reg [⟨(some 20), none, .iaddr 11 (.t 16) (.t 18)⟩,
  ⟨(some 21), none, .load (some 11) (.t 20)⟩,
  ⟨(some 8), none, .alloc [(.str []), (.sl .clip []), (.int .i64 0), (.str []), (.int .i64 0), (.int .i64 0), (.str []), (.sl .clip []), (.sl .clip []), (.sl .clip []), (.sl .clip [])] true⟩,
  ⟨none, none, .store 11 (.t 8) (.t 21)⟩])
 (.reg [⟨(some 22), none, .loadL none (.t 2)⟩,
  ⟨(some 23), none, .faddr 1 (.t 8)⟩,
  ⟨(some 24), none, .load none (.t 23)⟩,
  ⟨(some 25), none, .call 0 [] (.c (.fn 64 [])) [(.t 24)]⟩,
  ⟨(some 26), none, .mkfn 65 [(.t 2), (.t 8)]⟩,
  ⟨(some 27), none, .call 0 [] (.c (.fn 60 [])) [(.t 22), (.t 25), (.t 26)]⟩])))
 (.reg [⟨(some 28), none, .bin .add (.t 18) (.c (.int .i64 1))⟩,
  ⟨(some 18), none, .mov (.t 28)⟩]))))))))))))))))),
  [], false, false, 93⟩
theorem co37 : compF Tryd.prog ⟨[8], [(4, [2, 16, 17, 18], []), (17, [2, 3, 4, 77, 78, 79], [])], [], [], [2, 3], [], 37, [], [], [0, 1]⟩ false false Tryd.f37 = some ac37 := by kernel_rfl

/-- slices.Clone[[]string,string] -/
def ac38 : AF := ⟨(.seq (.reg [⟨(some 2), none, .mov (.c (.sl .clip []))⟩])
 (.seq (.seq (.reg [⟨(some 3), none, .mov (.t 0)⟩,
  ⟨(some 4), none, .nilsl false (.t 3)⟩])
 (.cond (.t 4) (.seq (.reg [⟨(some 2), none, .mov (.c (.sl .clip []))⟩])
 .ret)
 .skip))
 (.seq (.reg [⟨(some 5), none, .bslice [(.str [])] 0 []⟩,
  ⟨(some 6), none, .mov (.t 0)⟩,
  ⟨(some 7), none, .append 1 (.t 5) (.t 6)⟩,
  ⟨(some 2), none, .mov (.t 7)⟩])
 .ret))),
  [.t 2], false, true, 8⟩
theorem co38 : compF Tryd.prog ⟨[], [], [], [], [], [], 38, [], [], []⟩ false true Tryd.f38 = some ac38 := by kernel_rfl

/-- paideia/term.Var -/
def ac39 : AF := ⟨(.seq (.reg [⟨(some 2), none, .alloc [(.int .i64 0), (.str []), (.int .i64 0), (.int .i64 0), (.str []), (.sl .clip []), (.sl .clip []), (.sl .clip []), (.sl .clip [])] false⟩])
 (.seq (.reg [⟨(some 3), none, .mov (.t 0)⟩,
  ⟨(some 4), none, .build [(.int .i64 0), (.str []), (.int .i64 0), (.int .i64 0), (.str []), (.sl .clip []), (.sl .clip []), (.sl .clip []), (.sl .clip [])] [(0, 1, (.c (.int .i64 1))), (1, 1, (.t 3))]⟩,
  ⟨none, none, .store 9 (.t 2) (.t 4)⟩])
 .ret)),
  [.cell 2 (some 9)], false, true, 5⟩
theorem co39 : compF Tryd.prog ⟨[], [], [], [], [], [], 39, [], [], []⟩ false true Tryd.f39 = some ac39 := by kernel_rfl

/-- (*paideia/norm.norm).app -/
def ac40 : AF := ⟨(.seq (.reg [⟨(some 3), none, .box (.t 1) 9 false⟩,
  ⟨(some 4), none, .alloc [(.int .i64 0), (.str []), (.int .i64 0), (.int .i64 0), (.str []), (.sl .clip []), (.sl .clip []), (.sl .clip []), (.sl .clip [])] false⟩])
 (.seq (.reg [⟨(some 8), none, .mov (.t 0)⟩,
  ⟨(some 9), none, .faddr 6 (.t 3)⟩,
  ⟨(some 10), none, .load none (.t 9)⟩,
  ⟨(some 11), none, .iaddr 9 (.t 10) (.c (.int .i64 0))⟩,
  ⟨(some 12), none, .load (some 9) (.t 11)⟩,
  ⟨(some 13), none, .call 0 [] (.c (.fn 24 [])) [(.t 8), (.t 12)]⟩,
  ⟨(some 14), none, .mov (.t 0)⟩,
  ⟨(some 15), none, .faddr 6 (.t 3)⟩,
  ⟨(some 16), none, .loadL none (.t 15)⟩,
  ⟨(some 17), none, .iaddr 9 (.t 16) (.c (.int .i64 1))⟩,
  ⟨(some 18), none, .loadL (some 9) (.t 17)⟩,
  ⟨(some 19), none, .call 0 [] (.c (.fn 24 [])) [(.t 14), (.t 18)]⟩,
  ⟨(some 5), none, .alloc [(.int .i64 0), (.str []), (.int .i64 0), (.int .i64 0), (.str []), (.sl .clip []), (.sl .clip []), (.sl .clip []), (.sl .clip [])] false⟩,
  ⟨(some 6), none, .alloc [(.int .i64 0), (.str []), (.int .i64 0), (.int .i64 0), (.str []), (.sl .clip []), (.sl .clip []), (.sl .clip []), (.sl .clip [])] false⟩,
  ⟨none, none, .store 9 (.t 5) (.t 13)⟩,
  ⟨none, none, .store 9 (.t 6) (.t 19)⟩])
 (.seq (.seq (.reg [⟨(some 20), none, .load (some 9) (.t 6)⟩,
  ⟨(some 21), none, .call 0 [] (.c (.fn 66 [])) [(.t 20)]⟩])
 (.cond (.t 21) (.seq (.reg [⟨(some 22), none, .load (some 9) (.t 5)⟩,
  ⟨(some 23), none, .load (some 9) (.t 6)⟩,
  ⟨(some 24), none, .bslice [(.int .i64 0), (.str []), (.int .i64 0), (.int .i64 0), (.str []), (.sl .clip []), (.sl .clip []), (.sl .clip []), (.sl .clip [])] 1 [(0, (.t 23))]⟩,
  ⟨(some 25), none, .call 0 [] (.c (.fn 67 [])) [(.t 22), (.t 24)]⟩,
  ⟨none, none, .store 9 (.t 4) (.t 25)⟩])
 .ret)
 .skip))
 (.seq (.reg [⟨(some 26), none, .mov (.t 0)⟩,
  ⟨(some 27), none, .call 0 [] (.c (.fn 68 [])) [(.t 26)]⟩,
  ⟨(some 7), none, .mov (.t 27)⟩])
 (.seq (.reg [⟨(some 28), none, .mov (.t 7)⟩,
  ⟨(some 29), none, .loadL (some 9) (.t 6)⟩,
  ⟨(some 30), none, .build [(.str []), (.int .i64 0), (.str []), (.sl .clip []), (.int .i64 0), (.str []), (.int .i64 0), (.int .i64 0), (.str []), (.sl .clip []), (.sl .clip []), (.sl .clip []), (.sl .clip [])] [(0, 1, (.t 28)), (4, 9, (.t 29))]⟩,
  ⟨(some 31), none, .bslice [(.str []), (.int .i64 0), (.str []), (.sl .clip []), (.int .i64 0), (.str []), (.int .i64 0), (.int .i64 0), (.str []), (.sl .clip []), (.sl .clip []), (.sl .clip []), (.sl .clip [])] 1 [(0, (.t 30))]⟩,
  ⟨(some 32), none, .loadL (some 9) (.t 5)⟩,
  ⟨(some 33), none, .mov (.t 7)⟩,
  ⟨(some 34), none, .call 0 [] (.c (.fn 39 [])) [(.t 33)]⟩,
  ⟨(some 35), none, .bslice [(.int .i64 0), (.str []), (.int .i64 0), (.int .i64 0), (.str []), (.sl .clip []), (.sl .clip []), (.sl .clip []), (.sl .clip [])] 1 [(0, (.t 34))]⟩,
  ⟨(some 36), none, .call 0 [] (.c (.fn 67 [])) [(.t 32), (.t 35)]⟩,
  ⟨(some 37), none, .bslice [(.int .i64 0), (.str []), (.int .i64 0), (.int .i64 0), (.str []), (.sl .clip []), (.sl .clip []), (.sl .clip []), (.sl .clip [])] 1 [(0, (.t 36))]⟩,
  ⟨(some 38), none, .build [(.int .i64 0), (.str []), (.int .i64 0), (.int .i64 0), (.str []), (.sl .clip []), (.sl .clip []), (.sl .clip []), (.sl .clip [])] [(0, 1, (.c (.int .i64 9))), (8, 1, (.t 31)), (6, 1, (.t 37))]⟩,
  ⟨none, none, .store 9 (.t 4) (.t 38)⟩])
 .ret))))),
  [.cell 4 (some 9)], false, true, 39⟩
theorem co40 : compF Tryd.prog ⟨[], [], [], [], [], [], 40, [], [], [0, 1]⟩ false true Tryd.f40 = some ac40 := by kernel_rfl

/-- (*paideia/norm.norm).with -/
def ac41 : AF := ⟨(.seq (.reg [⟨(some 6), none, .mov (.c (.sl .clip []))⟩])
 (.seq (.reg [⟨(some 13), none, .mov (.t 1)⟩,
  ⟨(some 14), none, .len 1 (.t 13)⟩,
  ⟨(some 15), none, .mkarr [(.str [])] (.t 14) (.t 14)⟩,
  ⟨(some 7), none, .mov (.t 15)⟩])
 (.seq (.reg [⟨(some 16), none, .mov (.t 1)⟩,
  ⟨(some 17), none, .len 1 (.t 16)⟩,
  ⟨(some 18), none, .mkarr [(.bool false)] (.t 17) (.t 17)⟩,
  ⟨(some 8), none, .mov (.t 18)⟩])
 (.seq (.reg [⟨(some 19), none, .mov (.t 1)⟩,
  ⟨(some 20), none, .len 1 (.t 19)⟩,
  ⟨(some 21), none, .mkarr [(.str [])] (.t 20) (.t 20)⟩,
  ⟨(some 9), none, .mov (.t 21)⟩])
 (.seq (.seq (.reg [⟨(some 22), none, .mov (.t 1)⟩,
  ⟨(some 23), none, .len 1 (.t 22)⟩,
  ⟨(some 24), none, .mov (.c (.int .i64 0))⟩])
 (.block 0 (.loop [0, 1, 2, 7, 8, 9, 22, 23, 24] [] (.seq (.reg [⟨(some 25), none, .bin .lss (.t 24) (.t 23)⟩])
 (.seq (.cond (.t 25) .skip
 (.exit 0))
 (.seq (.block 1 (.seq (.reg [⟨(some 26), none, .mov (.t 24)⟩,
  ⟨(some 27), none, .iaddr 1 (.t 22) (.t 24)⟩,
  ⟨(some 28), none, .load none (.t 27)⟩,
  ⟨(some 10), none, .mov (.t 26)⟩,
  ⟨(some 11), none, .mov (.t 28)⟩])
 (.seq (.reg [⟨(some 30), none, .mov (.t 7)⟩,
  ⟨(some 31), none, .mov (.t 10)⟩,
  ⟨(some 32), none, .mov (.t 8)⟩,
  ⟨(some 33), none, .mov (.t 10)⟩,
  ⟨(some 34), none, .mov (.t 0)⟩,
  ⟨(some 35), none, .nilck (.t 34)⟩,
  ⟨(some 36), none, .faddr 2 (.t 35)⟩,
  ⟨(some 37), none, .load none (.t 36)⟩,
  ⟨(some 38), none, .mov (.t 11)⟩,
  ⟨(some 39), none, .lookup .str (.str []) (.t 37) (.t 38) true⟩,
  ⟨(some 29), none, .mov (.t 39)⟩,
  ⟨(some 40), none, .extract (.t 29) 0⟩,
  ⟨(some 41), none, .extract (.t 29) 1⟩,
  ⟨(some 42), none, .iaddr 1 (.t 30) (.t 31)⟩,
  ⟨none, none, .store 1 (.t 42) (.t 40)⟩,
  ⟨(some 43), none, .iaddr 1 (.t 32) (.t 33)⟩,
  ⟨none, none, .store 1 (.t 43) (.t 41)⟩])
 (.seq (.reg [⟨(some 44), none, .mov (.t 9)⟩,
  ⟨(some 45), none, .mov (.t 10)⟩,
  ⟨(some 46), none, .mov (.t 11)⟩,
  ⟨(some 47), none, .iaddr 1 (.t 44) (.t 45)⟩,
  ⟨none, none, .store 1 (.t 47) (.t 46)⟩])
 (.seq (.reg [⟨(some 48), none, .mov (.t 11)⟩,
  ⟨(some 49), none, .bin .neq (.t 48) (.c (.str [95]))⟩])
 (.cond (.t 49) (.seq (.reg [⟨(some 50), none, .mov (.t 9)⟩,
  ⟨(some 51), none, .mov (.t 10)⟩,
  ⟨(some 52), none, .mov (.t 0)⟩,
  ⟨(some 53), none, .call 0 [] (.c (.fn 68 [])) [(.t 52)]⟩,
  ⟨(some 54), none, .iaddr 1 (.t 50) (.t 51)⟩,
  ⟨none, none, .store 1 (.t 54) (.t 53)⟩])
 (.reg [⟨(some 55), none, .mov (.t 0)⟩,
  ⟨(some 56), none, .nilck (.t 55)⟩,
  ⟨(some 57), none, .faddr 2 (.t 56)⟩,
  ⟨(some 58), none, .load none (.t 57)⟩,
  ⟨(some 59), none, .mov (.t 11)⟩,
  ⟨(some 60), none, .mov (.t 9)⟩,
  ⟨(some 61), none, .mov (.t 10)⟩,
  ⟨(some 62), none, .iaddr 1 (.t 60) (.t 61)⟩,
  ⟨(some 63), none, .load none (.t 62)⟩,
  ⟨none, none, .mapset .str (.t 58) (.t 59) (.t 63)⟩]))
 .skip))))))
 (.reg [⟨(some 64), none, .bin .add (.t 24) (.c (.int .i64 1))⟩,
  ⟨(some 24), none, .mov (.t 64)⟩])))))))
 (.seq (.reg [⟨(some 65), none, .mov (.t 2)⟩,
  ⟨(some 66), none, .call 0 [] (.t 65) []⟩])
 (.seq (.seq (.reg [⟨(some 67), none, .mov (.t 1)⟩,
  ⟨(some 68), none, .len 1 (.t 67)⟩,
  ⟨(some 69), none, .bin .sub (.t 68) (.c (.int .i64 1))⟩,
  ⟨(some 12), none, .mov (.t 69)⟩])
 (.block 2 (.loop [0, 1, 7, 8, 9, 12] [] (.seq (.seq (.reg [⟨(some 70), none, .mov (.t 12)⟩,
  ⟨(some 71), none, .bin .geq (.t 70) (.c (.int .i64 0))⟩])
 (.cond (.t 71) .skip
 (.exit 2)))
 (.seq (.block 3 (.seq (.reg [⟨(some 74), none, .mov (.t 8)⟩,
  ⟨(some 75), none, .mov (.t 12)⟩,
  ⟨(some 76), none, .iaddr 1 (.t 74) (.t 75)⟩,
  ⟨(some 77), none, .load none (.t 76)⟩])
 (.cond (.t 77) (.reg [⟨(some 78), none, .mov (.t 0)⟩,
  ⟨(some 79), none, .nilck (.t 78)⟩,
  ⟨(some 80), none, .faddr 2 (.t 79)⟩,
  ⟨(some 81), none, .load none (.t 80)⟩,
  ⟨(some 82), none, .mov (.t 1)⟩,
  ⟨(some 83), none, .mov (.t 12)⟩,
  ⟨(some 84), none, .iaddr 1 (.t 82) (.t 83)⟩,
  ⟨(some 85), none, .load none (.t 84)⟩,
  ⟨(some 86), none, .mov (.t 7)⟩,
  ⟨(some 87), none, .mov (.t 12)⟩,
  ⟨(some 88), none, .iaddr 1 (.t 86) (.t 87)⟩,
  ⟨(some 89), none, .load none (.t 88)⟩,
  ⟨none, none, .mapset .str (.t 81) (.t 85) (.t 89)⟩])
 (.reg [⟨(some 90), none, .mov (.t 0)⟩,
  ⟨(some 91), none, .nilck (.t 90)⟩,
  ⟨(some 92), none, .faddr 2 (.t 91)⟩,
  ⟨(some 93), none, .load none (.t 92)⟩,
  ⟨(some 94), none, .mov (.t 1)⟩,
  ⟨(some 95), none, .mov (.t 12)⟩,
  ⟨(some 96), none, .iaddr 1 (.t 94) (.t 95)⟩,
  ⟨(some 97), none, .load none (.t 96)⟩,
  ⟨none, none, .delete .str (.t 93) (.t 97)⟩]))))
 (.reg [⟨(some 72), none, .mov (.t 12)⟩,
  ⟨(some 73), none, .bin .sub (.t 72) (.c (.int .i64 1))⟩,
  ⟨(some 12), none, .mov (.t 73)⟩]))))))
 (.seq (.reg [⟨(some 98), none, .mov (.t 9)⟩,
  ⟨(some 6), none, .mov (.t 98)⟩])
 .ret)))))))),
  [.t 6], false, false, 99⟩
theorem co41 : compF Tryd.prog ⟨[], [(5, [0, 1, 2, 7, 8, 9, 22, 23, 24], []), (15, [0, 1, 7, 8, 9, 12], [])], [], [], [], [15, 18, 21], 41, [], [], [0, 1, 2]⟩ false false Tryd.f41 = some ac41 := by kernel_rfl

/-- (*paideia/norm.norm).term$1 -/
def ac42 : AF := ⟨(.reg [⟨(some 3), none, .load none (.t 0)⟩,
  ⟨(some 4), none, .faddr 6 (.t 1)⟩,
  ⟨(some 5), none, .load none (.t 4)⟩,
  ⟨(some 6), none, .call 0 [] (.c (.fn 43 [])) [(.t 3), (.t 5)]⟩,
  ⟨(some 7), none, .faddr 6 (.t 2)⟩,
  ⟨none, none, .store 1 (.t 7) (.t 6)⟩]),
  [], false, true, 8⟩
theorem co42 : compF Tryd.prog ⟨[], [], [], [], [], [], 42, [], [], []⟩ false true Tryd.f42 = some ac42 := by kernel_rfl

/-- (*paideia/norm.norm).all -/
def ac43 : AF := ⟨(.seq (.reg [⟨(some 4), none, .mov (.c (.sl .clip []))⟩])
 (.seq (.reg [⟨(some 5), none, .mov (.c (.sl .clip []))⟩])
 (.seq (.seq (.reg [⟨(some 8), none, .mov (.t 1)⟩,
  ⟨(some 9), none, .len 1 (.t 8)⟩,
  ⟨(some 10), none, .mov (.c (.int .i64 0))⟩])
 (.block 0 (.loop [0, 5, 8, 9, 10] [] (.seq (.reg [⟨(some 11), none, .bin .lss (.t 10) (.t 9)⟩])
 (.seq (.cond (.t 11) .skip
 (.exit 0))
 (.seq (.block 1 (.seq (.reg [⟨(some 12), none, .iaddr 9 (.t 8) (.t 10)⟩,
  ⟨(some 13), none, .load (some 9) (.t 12)⟩,
  ⟨(some 7), none, .alloc [(.int .i64 0), (.str []), (.int .i64 0), (.int .i64 0), (.str []), (.sl .clip []), (.sl .clip []), (.sl .clip []), (.sl .clip [])] false⟩,
  ⟨none, none, .store 9 (.t 7) (.t 13)⟩])
 (.reg [⟨(some 14), none, .mov (.t 5)⟩,
  ⟨(some 15), none, .mov (.t 0)⟩,
  ⟨(some 16), none, .load (some 9) (.t 7)⟩,
  ⟨(some 17), none, .call 0 [] (.c (.fn 24 [])) [(.t 15), (.t 16)]⟩,
  ⟨(some 18), none, .bslice [(.int .i64 0), (.str []), (.int .i64 0), (.int .i64 0), (.str []), (.sl .clip []), (.sl .clip []), (.sl .clip []), (.sl .clip [])] 1 [(0, (.t 17))]⟩,
  ⟨(some 19), none, .append 9 (.t 14) (.t 18)⟩,
  ⟨(some 5), none, .mov (.t 19)⟩])))
 (.reg [⟨(some 20), none, .bin .add (.t 10) (.c (.int .i64 1))⟩,
  ⟨(some 10), none, .mov (.t 20)⟩])))))))
 (.seq (.reg [⟨(some 21), none, .mov (.t 5)⟩,
  ⟨(some 4), none, .mov (.t 21)⟩])
 .ret)))),
  [.t 4], false, true, 22⟩
theorem co43 : compF Tryd.prog ⟨[], [(3, [0, 5, 8, 9, 10], [])], [], [], [], [], 43, [], [], []⟩ false true Tryd.f43 = some ac43 := by kernel_rfl

/-- (*paideia/norm.norm).let -/
def ac44 : AF := ⟨(.seq (.reg [⟨(some 2), none, .fbox (.t 0) 1⟩,
  ⟨(some 3), none, .fbox (.t 1) 9⟩,
  ⟨(some 4), none, .alloc [(.int .i64 0), (.str []), (.int .i64 0), (.int .i64 0), (.str []), (.sl .clip []), (.sl .clip []), (.sl .clip []), (.sl .clip [])] false⟩])
 (.seq (.reg [⟨(some 11), none, .build [(.int .i64 0), (.str []), (.int .i64 0), (.int .i64 0), (.str []), (.sl .clip []), (.sl .clip []), (.sl .clip []), (.sl .clip [])] [(0, 1, (.c (.int .i64 9)))]⟩,
  ⟨(some 5), none, .alloc [(.int .i64 0), (.str []), (.int .i64 0), (.int .i64 0), (.str []), (.sl .clip []), (.sl .clip []), (.sl .clip []), (.sl .clip [])] true⟩,
  ⟨none, none, .store 9 (.t 5) (.t 11)⟩])
 (.seq (.reg [⟨(some 6), none, .mov (.c (.sl .clip []))⟩])
 (.seq (.seq (.reg [⟨(some 12), none, .faddr 8 (.t 3)⟩,
  ⟨(some 13), none, .load none (.t 12)⟩,
  ⟨(some 14), none, .len 1 (.t 13)⟩,
  ⟨(some 15), none, .mov (.c (.int .i64 0))⟩])
 (.block 0 (.loop [2, 3, 5, 6, 13, 14, 15] [4] (.seq (.reg [⟨(some 16), none, .bin .lss (.t 15) (.t 14)⟩])
 (.seq (.cond (.t 16) .skip
 (.exit 0))
 (.seq (.block 1 (.seq (.reg [⟨(some 17), none, .iaddr 13 (.t 13) (.t 15)⟩,
  ⟨(some 18), none, .load (some 13) (.t 17)⟩,
  ⟨(some 8), none, .alloc [(.str []), (.int .i64 0), (.str []), (.sl .clip []), (.int .i64 0), (.str []), (.int .i64 0), (.int .i64 0), (.str []), (.sl .clip []), (.sl .clip []), (.sl .clip []), (.sl .clip [])] false⟩,
  ⟨none, none, .store 13 (.t 8) (.t 18)⟩])
 (.reg [⟨(some 19), none, .mov (.t 6)⟩,
  ⟨(some 20), none, .faddr 0 (.t 8)⟩,
  ⟨(some 21), none, .load none (.t 20)⟩,
  ⟨(some 22), none, .bslice [(.str [])] 1 [(0, (.t 21))]⟩,
  ⟨(some 23), none, .append 1 (.t 19) (.t 22)⟩,
  ⟨(some 6), none, .mov (.t 23)⟩])))
 (.reg [⟨(some 24), none, .bin .add (.t 15) (.c (.int .i64 1))⟩,
  ⟨(some 15), none, .mov (.t 24)⟩])))))))
 (.seq (.reg [⟨(some 25), none, .load none (.t 2)⟩,
  ⟨(some 26), none, .mov (.t 6)⟩,
  ⟨(some 27), none, .mkfn 69 [(.t 3), (.t 5), (.t 2)]⟩,
  ⟨(some 28), none, .call 0 [] (.c (.fn 41 [])) [(.t 25), (.t 26), (.t 27)]⟩,
  ⟨(some 9), none, .mov (.t 28)⟩])
 (.seq (.seq (.reg [⟨(some 29), none, .faddr 8 (.t 5)⟩,
  ⟨(some 30), none, .load none (.t 29)⟩,
  ⟨(some 31), none, .len 1 (.t 30)⟩,
  ⟨(some 32), none, .mov (.c (.int .i64 0))⟩])
 (.block 2 (.loop [5, 9, 31, 32] [4] (.seq (.reg [⟨(some 33), none, .bin .lss (.t 32) (.t 31)⟩])
 (.seq (.cond (.t 33) .skip
 (.exit 2))
 (.seq (.block 3 (.seq (.reg [⟨(some 34), none, .mov (.t 32)⟩,
  ⟨(some 10), none, .mov (.t 34)⟩])
 (.reg [⟨(some 35), none, .faddr 8 (.t 5)⟩,
  ⟨(some 36), none, .load none (.t 35)⟩,
  ⟨(some 37), none, .mov (.t 10)⟩,
  ⟨(some 38), none, .mov (.t 9)⟩,
  ⟨(some 39), none, .mov (.t 10)⟩,
  ⟨(some 40), none, .iaddr 1 (.t 38) (.t 39)⟩,
  ⟨(some 41), none, .load none (.t 40)⟩,
  ⟨(some 42), none, .iaddr 13 (.t 36) (.t 37)⟩,
  ⟨(some 43), none, .faddr 0 (.t 42)⟩,
  ⟨none, none, .store 1 (.t 43) (.t 41)⟩])))
 (.reg [⟨(some 44), none, .bin .add (.t 32) (.c (.int .i64 1))⟩,
  ⟨(some 32), none, .mov (.t 44)⟩])))))))
 (.seq (.reg [⟨(some 45), none, .load (some 9) (.t 5)⟩,
  ⟨none, none, .store 9 (.t 4) (.t 45)⟩])
 .ret))))))),
  [.cell 4 (some 9)], false, true, 46⟩
theorem co44 : compF Tryd.prog ⟨[5], [(4, [2, 3, 5, 6, 13, 14, 15], [4]), (10, [5, 9, 31, 32], [4])], [], [], [2, 3], [], 44, [], [], [0, 1]⟩ false true Tryd.f44 = some ac44 := by kernel_rfl

/-- (*paideia/norm.norm).term$2 -/
def ac45 : AF := ⟨(.reg [⟨(some 3), none, .load none (.t 0)⟩,
  ⟨(some 4), none, .faddr 2 (.t 1)⟩,
  ⟨(some 5), none, .load (some 9) (.t 4)⟩,
  ⟨(some 6), none, .call 0 [] (.c (.fn 24 [])) [(.t 3), (.t 5)]⟩,
  ⟨(some 7), none, .faddr 2 (.t 2)⟩,
  ⟨none, none, .store 9 (.t 7) (.t 6)⟩]),
  [], false, true, 8⟩
theorem co45 : compF Tryd.prog ⟨[], [], [], [], [], [], 45, [], [], []⟩ false true Tryd.f45 = some ac45 := by kernel_rfl

/-- (*paideia/machine.Machine).Used -/
def ac46 : AF := ⟨(.seq (.reg [⟨(some 2), none, .mov (.c (.int .i64 0))⟩,
  ⟨(some 3), none, .mov (.c (.int .i64 0))⟩])
 (.seq (.reg [⟨(some 4), none, .mov (.t 0)⟩,
  ⟨(some 5), none, .nilck (.t 4)⟩,
  ⟨(some 6), none, .faddr 2 (.t 5)⟩,
  ⟨(some 7), none, .load none (.t 6)⟩,
  ⟨(some 8), none, .mov (.t 0)⟩,
  ⟨(some 9), none, .nilck (.t 8)⟩,
  ⟨(some 10), none, .faddr 1 (.t 9)⟩,
  ⟨(some 11), none, .load none (.t 10)⟩,
  ⟨(some 2), none, .mov (.t 7)⟩,
  ⟨(some 3), none, .mov (.t 11)⟩])
 .ret)),
  [.t 2, .t 3], false, false, 12⟩
theorem co46 : compF Tryd.prog ⟨[], [], [], [], [], [], 46, [], [], [0]⟩ false false Tryd.f46 = some ac46 := by kernel_rfl

/-- (*paideia/machine.Machine).Run -/
def ac47 : AF := ⟨(.seq (.reg [⟨(some 4), none, .mov (.c .nili)⟩])
 (.seq (.block 0 (.loop [0, 1] [] (.seq (.seq (.reg [⟨(some 5), none, .mov (.t 0)⟩,
  ⟨(some 6), none, .nilck (.t 5)⟩,
  ⟨(some 7), none, .faddr 3 (.t 6)⟩,
  ⟨(some 8), none, .load none (.t 7)⟩,
  ⟨(some 9), none, .eqnil .iface false (.t 8)⟩,
  ⟨(some 10), none, .mov (.t 9)⟩,
  ⟨(some 11), (some (10, true)), .mov (.t 0)⟩,
  ⟨(some 12), (some (10, true)), .nilck (.t 11)⟩,
  ⟨(some 13), (some (10, true)), .faddr 4 (.t 12)⟩,
  ⟨(some 14), (some (10, true)), .load none (.t 13)⟩,
  ⟨(some 15), (some (10, true)), .nilck (.t 14)⟩,
  ⟨(some 16), (some (10, true)), .faddr 0 (.t 15)⟩,
  ⟨(some 17), (some (10, true)), .load none (.t 16)⟩,
  ⟨(some 18), (some (10, true)), .eqnil .ptr false (.t 17)⟩,
  ⟨(some 19), none, .pick (.t 10) (.t 18) (.c (.bool false))⟩])
 (.cond (.t 19) .skip
 (.exit 0)))
 (.block 1 (.seq (.seq (.reg [⟨(some 20), none, .mov (.t 1)⟩,
  ⟨(some 21), none, .bin .leq (.t 20) (.c (.int .i64 0))⟩])
 (.cond (.t 21) (.seq (.reg [⟨(some 22), none, .gload 3⟩,
  ⟨(some 4), none, .mov (.t 22)⟩])
 .ret)
 .skip))
 (.seq (.reg [⟨(some 23), none, .mov (.t 1)⟩,
  ⟨(some 24), none, .bin .sub (.t 23) (.c (.int .i64 1))⟩,
  ⟨(some 1), none, .mov (.t 24)⟩])
 (.seq (.reg [⟨(some 25), none, .mov (.t 0)⟩,
  ⟨(some 26), none, .nilck (.t 25)⟩,
  ⟨(some 27), none, .faddr 2 (.t 26)⟩,
  ⟨(some 28), none, .load none (.t 27)⟩,
  ⟨(some 29), none, .bin .add (.t 28) (.c (.int .i64 1))⟩,
  ⟨(some 30), none, .nilck (.t 25)⟩,
  ⟨(some 31), none, .faddr 2 (.t 30)⟩,
  ⟨none, none, .store 1 (.t 31) (.t 29)⟩])
 (.seq (.block 2 (.seq (.reg [⟨(some 35), none, .mov (.t 0)⟩,
  ⟨(some 36), none, .nilck (.t 35)⟩,
  ⟨(some 37), none, .faddr 10 (.t 36)⟩,
  ⟨(some 38), none, .load none (.t 37)⟩,
  ⟨(some 39), none, .not (.t 38)⟩,
  ⟨(some 34), none, .mov (.t 39)⟩])
 (.cond (.t 34) (.seq (.reg [⟨(some 40), none, .mov (.t 0)⟩,
  ⟨(some 41), none, .nilck (.t 40)⟩,
  ⟨(some 42), none, .faddr 10 (.t 41)⟩,
  ⟨none, none, .store 1 (.t 42) (.c (.bool true))⟩])
 (.reg [⟨(some 43), none, .mov (.t 0)⟩,
  ⟨(some 44), none, .mov (.t 0)⟩,
  ⟨(some 45), none, .nilck (.t 44)⟩,
  ⟨(some 46), none, .faddr 4 (.t 45)⟩,
  ⟨(some 47), none, .load none (.t 46)⟩,
  ⟨(some 48), none, .call 0 [] (.c (.fn 70 [])) [(.t 43), (.t 47)]⟩]))
 (.seq (.reg [⟨(some 50), none, .mov (.t 0)⟩,
  ⟨(some 51), none, .nilck (.t 50)⟩,
  ⟨(some 52), none, .faddr 7 (.t 51)⟩,
  ⟨(some 53), none, .load none (.t 52)⟩,
  ⟨(some 54), none, .eqnil .ptr true (.t 53)⟩,
  ⟨(some 49), none, .mov (.t 54)⟩])
 (.cond (.t 49) (.reg [⟨(some 55), none, .mov (.t 0)⟩,
  ⟨(some 56), none, .mov (.t 0)⟩,
  ⟨(some 57), none, .nilck (.t 56)⟩,
  ⟨(some 58), none, .faddr 7 (.t 57)⟩,
  ⟨(some 59), none, .load none (.t 58)⟩,
  ⟨(some 60), none, .call 0 [] (.c (.fn 71 [])) [(.t 55), (.t 59)]⟩])
 (.reg [⟨(some 32), none, .mov (.t 0)⟩,
  ⟨(some 33), none, .call 0 [] (.c (.fn 72 [])) [(.t 32)]⟩]))))))
 (.seq (.reg [⟨(some 61), none, .mov (.t 0)⟩,
  ⟨(some 62), none, .nilck (.t 61)⟩,
  ⟨(some 63), none, .faddr 6 (.t 62)⟩,
  ⟨(some 64), none, .load none (.t 63)⟩,
  ⟨(some 65), none, .len 1 (.t 64)⟩,
  ⟨(some 66), none, .bin .eql (.t 65) (.c (.int .i64 0))⟩])
 (.cond (.t 66) (.reg [⟨(some 67), none, .mov (.t 0)⟩,
  ⟨(some 68), none, .nilck (.t 67)⟩,
  ⟨(some 69), none, .faddr 10 (.t 68)⟩,
  ⟨none, none, .store 1 (.t 69) (.c (.bool false))⟩])
 .skip))))))))))
 (.seq (.reg [⟨(some 70), none, .mov (.t 0)⟩,
  ⟨(some 71), none, .nilck (.t 70)⟩,
  ⟨(some 72), none, .faddr 3 (.t 71)⟩,
  ⟨(some 73), none, .load none (.t 72)⟩,
  ⟨(some 4), none, .mov (.t 73)⟩])
 .ret))),
  [.t 4], false, false, 74⟩
theorem co47 : compF Tryd.prog ⟨[], [(1, [0, 1], [])], [], [3], [], [], 47, [], [], []⟩ false false Tryd.f47 = some ac47 := by kernel_rfl

/-- paideia/printer.Letter -/
def ac49 : AF := ⟨(.seq (.reg [⟨(some 2), none, .mov (.c (.str []))⟩])
 (.seq (.block 0 (.seq (.reg [⟨(some 4), none, .mov (.t 0)⟩,
  ⟨(some 5), none, .bin .eql (.t 4) (.c (.int .i64 10))⟩,
  ⟨(some 3), none, .mov (.t 5)⟩])
 (.cond (.t 3) (.seq (.reg [⟨(some 2), none, .mov (.c (.str [39, 92, 110, 39]))⟩])
 .ret)
 (.seq (.reg [⟨(some 7), none, .mov (.t 0)⟩,
  ⟨(some 8), none, .bin .eql (.t 7) (.c (.int .i64 39))⟩,
  ⟨(some 9), none, .mov (.t 8)⟩,
  ⟨(some 10), (some (9, false)), .mov (.t 0)⟩,
  ⟨(some 11), (some (9, false)), .bin .eql (.t 10) (.c (.int .i64 92))⟩,
  ⟨(some 12), none, .pick (.t 9) (.c (.bool true)) (.t 11)⟩,
  ⟨(some 6), none, .mov (.t 12)⟩])
 (.cond (.t 6) (.seq (.reg [⟨(some 13), none, .mov (.t 0)⟩,
  ⟨(some 14), none, .conv (.int .i32) (.t 13)⟩,
  ⟨(some 15), none, .conv .rune (.t 14)⟩,
  ⟨(some 16), none, .bin .add (.c (.str [39, 92])) (.t 15)⟩,
  ⟨(some 17), none, .bin .add (.t 16) (.c (.str [39]))⟩,
  ⟨(some 2), none, .mov (.t 17)⟩])
 .ret)
 (.seq (.reg [⟨(some 19), none, .mov (.t 0)⟩,
  ⟨(some 20), none, .bin .geq (.t 19) (.c (.int .i64 0))⟩,
  ⟨(some 21), none, .mov (.t 20)⟩,
  ⟨(some 22), (some (21, true)), .mov (.t 0)⟩,
  ⟨(some 23), (some (21, true)), .bin .leq (.t 22) (.c (.int .i64 126))⟩,
  ⟨(some 24), none, .pick (.t 21) (.t 23) (.c (.bool false))⟩,
  ⟨(some 25), none, .mov (.t 24)⟩,
  ⟨(some 26), (some (25, true)), .mov (.t 0)⟩,
  ⟨(some 27), (some (25, true)), .conv (.int .u8) (.t 26)⟩,
  ⟨(some 28), (some (25, true)), .call 0 [] (.c (.fn 73 [])) [(.t 27)]⟩,
  ⟨(some 29), none, .pick (.t 25) (.t 28) (.c (.bool false))⟩,
  ⟨(some 18), none, .mov (.t 29)⟩])
 (.cond (.t 18) (.seq (.reg [⟨(some 30), none, .mov (.t 0)⟩,
  ⟨(some 31), none, .conv (.int .i32) (.t 30)⟩,
  ⟨(some 32), none, .conv .rune (.t 31)⟩,
  ⟨(some 33), none, .bin .add (.c (.str [39])) (.t 32)⟩,
  ⟨(some 34), none, .bin .add (.t 33) (.c (.str [39]))⟩,
  ⟨(some 2), none, .mov (.t 34)⟩])
 .ret)
 .skip)))))))
 (.seq (.reg [⟨(some 2), none, .mov (.c (.str [39, 63, 39]))⟩])
 .ret))),
  [.t 2], false, true, 35⟩
theorem co49 : compF Tryd.prog ⟨[], [], [], [], [], [], 49, [], [], []⟩ false true Tryd.f49 = some ac49 := by kernel_rfl

/-- (*paideia/machine.Machine).Part -/
def ac50 : AF := ⟨(.seq (.reg [⟨(some 4), none, .mov (.c (.bool false))⟩])
 (.seq (.reg [⟨(some 9), none, .mov (.t 0)⟩,
  ⟨(some 10), none, .call 0 [] (.c (.fn 26 [])) [(.t 9)]⟩,
  ⟨(some 8), none, .mov (.t 10)⟩,
  ⟨(some 11), none, .extract (.t 8) 0⟩,
  ⟨(some 12), none, .extract (.t 8) 1⟩,
  ⟨(some 13), none, .extract (.t 8) 2⟩,
  ⟨(some 5), none, .mov (.t 11)⟩,
  ⟨(some 6), none, .mov (.t 12)⟩,
  ⟨(some 7), none, .mov (.t 13)⟩])
 (.seq (.seq (.reg [⟨(some 14), none, .mov (.t 1)⟩,
  ⟨(some 15), none, .bin .lss (.t 14) (.c (.int .i64 0))⟩,
  ⟨(some 16), none, .mov (.t 15)⟩,
  ⟨(some 17), (some (16, false)), .mov (.t 1)⟩,
  ⟨(some 18), (some (16, false)), .mov (.t 7)⟩,
  ⟨(some 19), (some (16, false)), .bin .geq (.t 17) (.t 18)⟩,
  ⟨(some 20), none, .pick (.t 16) (.c (.bool true)) (.t 19)⟩])
 (.cond (.t 20) (.seq (.reg [⟨(some 4), none, .mov (.c (.bool false))⟩])
 .ret)
 .skip))
 (.seq (.reg [⟨(some 21), none, .mov (.t 0)⟩,
  ⟨(some 22), none, .mov (.t 0)⟩,
  ⟨(some 23), none, .nilck (.t 22)⟩,
  ⟨(some 24), none, .faddr 5 (.t 23)⟩,
  ⟨(some 25), none, .load none (.t 24)⟩,
  ⟨(some 26), none, .mov (.t 0)⟩,
  ⟨(some 27), none, .nilck (.t 26)⟩,
  ⟨(some 28), none, .faddr 4 (.t 27)⟩,
  ⟨(some 29), none, .load none (.t 28)⟩,
  ⟨(some 30), none, .bslice [.nilp] 1 [(0, (.t 29))]⟩,
  ⟨(some 31), none, .appV 1 (.t 25) (.t 30)⟩,
  ⟨(some 32), none, .nilck (.t 21)⟩,
  ⟨(some 33), none, .faddr 5 (.t 32)⟩,
  ⟨none, none, .store 1 (.t 33) (.t 31)⟩])
 (.seq (.reg [⟨(some 34), none, .mov (.t 0)⟩,
  ⟨(some 35), none, .mov (.t 0)⟩,
  ⟨(some 36), none, .nilck (.t 35)⟩,
  ⟨(some 37), none, .faddr 4 (.t 36)⟩,
  ⟨(some 38), none, .load none (.t 37)⟩,
  ⟨(some 39), none, .nilck (.t 38)⟩,
  ⟨(some 40), none, .faddr 0 (.t 39)⟩,
  ⟨(some 41), none, .load none (.t 40)⟩,
  ⟨(some 42), none, .nilck (.t 41)⟩,
  ⟨(some 43), none, .faddr 3 (.t 42)⟩,
  ⟨(some 44), none, .load none (.t 43)⟩,
  ⟨(some 45), none, .mov (.t 1)⟩,
  ⟨(some 46), none, .iaddr 1 (.t 44) (.t 45)⟩,
  ⟨(some 47), none, .load none (.t 46)⟩,
  ⟨(some 48), none, .nilck (.t 34)⟩,
  ⟨(some 49), none, .faddr 4 (.t 48)⟩,
  ⟨none, none, .store 1 (.t 49) (.t 47)⟩])
 (.seq (.reg [⟨(some 4), none, .mov (.c (.bool true))⟩])
 .ret)))))),
  [.t 4], false, false, 50⟩
theorem co50 : compF Tryd.prog ⟨[], [], [], [], [], [2000031], 50, [], [], [0, 1]⟩ false false Tryd.f50 = some ac50 := by kernel_rfl

/-- (*paideia/machine.Machine).Back -/
def ac51 : AF := ⟨(.seq (.reg [⟨(some 2), none, .mov (.c (.bool false))⟩])
 (.seq (.seq (.reg [⟨(some 3), none, .mov (.t 0)⟩,
  ⟨(some 4), none, .nilck (.t 3)⟩,
  ⟨(some 5), none, .faddr 5 (.t 4)⟩,
  ⟨(some 6), none, .load none (.t 5)⟩,
  ⟨(some 7), none, .len 1 (.t 6)⟩,
  ⟨(some 8), none, .bin .eql (.t 7) (.c (.int .i64 0))⟩])
 (.cond (.t 8) (.seq (.reg [⟨(some 2), none, .mov (.c (.bool false))⟩])
 .ret)
 .skip))
 (.seq (.seq (.reg [⟨(some 9), none, .mov (.t 0)⟩,
  ⟨(some 10), none, .nilck (.t 9)⟩,
  ⟨(some 11), none, .faddr 3 (.t 10)⟩,
  ⟨(some 12), none, .load none (.t 11)⟩,
  ⟨(some 13), none, .eqnil .iface false (.t 12)⟩])
 (.cond (.t 13) (.reg [⟨(some 14), none, .mov (.t 0)⟩,
  ⟨(some 15), none, .call 0 [] (.c (.fn 74 [])) [(.t 14)]⟩])
 .skip))
 (.seq (.reg [⟨(some 16), none, .mov (.t 0)⟩,
  ⟨(some 17), none, .mov (.t 0)⟩,
  ⟨(some 18), none, .nilck (.t 17)⟩,
  ⟨(some 19), none, .faddr 5 (.t 18)⟩,
  ⟨(some 20), none, .load none (.t 19)⟩,
  ⟨(some 21), none, .mov (.t 0)⟩,
  ⟨(some 22), none, .nilck (.t 21)⟩,
  ⟨(some 23), none, .faddr 5 (.t 22)⟩,
  ⟨(some 24), none, .load none (.t 23)⟩,
  ⟨(some 25), none, .len 1 (.t 24)⟩,
  ⟨(some 26), none, .bin .sub (.t 25) (.c (.int .i64 1))⟩,
  ⟨(some 27), none, .iaddr 1 (.t 20) (.t 26)⟩,
  ⟨(some 28), none, .load none (.t 27)⟩,
  ⟨(some 29), none, .nilck (.t 16)⟩,
  ⟨(some 30), none, .faddr 4 (.t 29)⟩,
  ⟨none, none, .store 1 (.t 30) (.t 28)⟩])
 (.seq (.reg [⟨(some 31), none, .mov (.t 0)⟩,
  ⟨(some 32), none, .mov (.t 0)⟩,
  ⟨(some 33), none, .nilck (.t 32)⟩,
  ⟨(some 34), none, .faddr 5 (.t 33)⟩,
  ⟨(some 35), none, .load none (.t 34)⟩,
  ⟨(some 36), none, .mov (.t 0)⟩,
  ⟨(some 37), none, .nilck (.t 36)⟩,
  ⟨(some 38), none, .faddr 5 (.t 37)⟩,
  ⟨(some 39), none, .load none (.t 38)⟩,
  ⟨(some 40), none, .len 1 (.t 39)⟩,
  ⟨(some 41), none, .bin .sub (.t 40) (.c (.int .i64 1))⟩,
  ⟨(some 42), none, .slice 1 (.t 35) none (some (.t 41)) none⟩,
  ⟨(some 43), none, .nilck (.t 31)⟩,
  ⟨(some 44), none, .faddr 5 (.t 43)⟩,
  ⟨none, none, .store 1 (.t 44) (.t 42)⟩])
 (.seq (.reg [⟨(some 2), none, .mov (.c (.bool true))⟩])
 .ret)))))),
  [.t 2], false, false, 45⟩
theorem co51 : compF Tryd.prog ⟨[], [], [], [], [], [], 51, [], [], [0]⟩ false false Tryd.f51 = some ac51 := by kernel_rfl

/-- paideia/paideiaref.None -/
def ac52 : AF := ⟨(.seq (.reg [⟨(some 0), none, .alloc [(.int .i64 0), (.bool false), (.int .i64 0)] false⟩])
 (.seq (.reg [⟨(some 1), none, .build [(.int .i64 0), (.bool false), (.int .i64 0)] []⟩,
  ⟨none, none, .store 3 (.t 0) (.t 1)⟩])
 .ret)),
  [.cell 0 (some 3)], false, true, 2⟩
theorem co52 : compF Tryd.prog ⟨[], [], [], [], [], [], 52, [], [], []⟩ false true Tryd.f52 = some ac52 := by kernel_rfl

/-- paideia/paideiasee.sentinel -/
def ac53 : AF := ⟨(.seq (.reg [⟨(some 2), none, .mov (.c (.int .i64 0))⟩])
 (.seq (.reg [⟨(some 5), none, .call 0 [] (.c (.fn 75 [])) []⟩,
  ⟨(some 3), none, .mov (.t 5)⟩])
 (.seq (.seq (.reg [⟨(some 4), none, .mov (.c (.int .i64 0))⟩])
 (.block 0 (.loop [0, 3, 4] [] (.seq (.seq (.reg [⟨(some 6), none, .mov (.t 4)⟩,
  ⟨(some 7), none, .mov (.t 3)⟩,
  ⟨(some 8), none, .len 1 (.t 7)⟩,
  ⟨(some 9), none, .bin .lss (.t 6) (.t 8)⟩])
 (.cond (.t 9) .skip
 (.exit 0)))
 (.seq (.block 1 (.seq (.reg [⟨(some 12), none, .mov (.t 0)⟩,
  ⟨(some 13), none, .mov (.t 3)⟩,
  ⟨(some 14), none, .mov (.t 4)⟩,
  ⟨(some 15), none, .iaddr 1 (.t 13) (.t 14)⟩,
  ⟨(some 16), none, .load none (.t 15)⟩,
  ⟨(some 17), none, .call 0 [] (.c (.fn 76 [])) [(.t 12), (.t 16)]⟩])
 (.cond (.t 17) (.seq (.reg [⟨(some 18), none, .mov (.t 4)⟩,
  ⟨(some 19), none, .bin .add (.c (.int .i64 101)) (.t 18)⟩,
  ⟨(some 2), none, .mov (.t 19)⟩])
 .ret)
 .skip)))
 (.reg [⟨(some 10), none, .mov (.t 4)⟩,
  ⟨(some 11), none, .bin .add (.t 10) (.c (.int .i64 1))⟩,
  ⟨(some 4), none, .mov (.t 11)⟩]))))))
 (.seq (.reg [⟨(some 2), none, .mov (.c (.int .i64 (-1)))⟩])
 .ret)))),
  [.t 2], false, true, 20⟩
theorem co53 : compF Tryd.prog ⟨[], [(3, [0, 3, 4], [])], [], [], [], [], 53, [], [], []⟩ false true Tryd.f53 = some ac53 := by kernel_rfl

/-- paideia/paideiaref.Placed -/
def ac54 : AF := ⟨(.seq (.reg [⟨(some 4), none, .alloc [(.int .i64 0), (.bool false), (.int .i64 0)] false⟩])
 (.seq (.seq (.reg [⟨(some 5), none, .mov (.t 0)⟩,
  ⟨(some 6), none, .bin .eql (.t 5) (.c (.int .i64 0))⟩])
 (.cond (.t 6) (.seq (.reg [⟨(some 7), none, .call 0 [] (.c (.fn 52 [])) []⟩,
  ⟨none, none, .store 3 (.t 4) (.t 7)⟩])
 .ret)
 .skip))
 (.seq (.reg [⟨(some 8), none, .mov (.t 0)⟩,
  ⟨(some 9), none, .mov (.t 1)⟩,
  ⟨(some 10), none, .build [(.int .i64 0), (.bool false), (.int .i64 0)] [(0, 1, (.t 8)), (1, 1, (.c (.bool true))), (2, 1, (.t 9))]⟩,
  ⟨none, none, .store 3 (.t 4) (.t 10)⟩])
 .ret))),
  [.cell 4 (some 3)], false, true, 11⟩
theorem co54 : compF Tryd.prog ⟨[], [], [], [], [], [], 54, [], [], []⟩ false true Tryd.f54 = some ac54 := by kernel_rfl

/-- (*paideia/term.free).with -/
def ac60 : AF := ⟨(.seq (.seq (.reg [⟨(some 10), none, .mov (.t 1)⟩,
  ⟨(some 11), none, .len 1 (.t 10)⟩,
  ⟨(some 12), none, .mov (.c (.int .i64 0))⟩])
 (.block 0 (.loop [0, 1, 2, 10, 11, 12] [] (.seq (.reg [⟨(some 13), none, .bin .lss (.t 12) (.t 11)⟩])
 (.seq (.cond (.t 13) .skip
 (.exit 0))
 (.seq (.block 1 (.seq (.reg [⟨(some 14), none, .iaddr 1 (.t 10) (.t 12)⟩,
  ⟨(some 15), none, .load none (.t 14)⟩,
  ⟨(some 7), none, .mov (.t 15)⟩])
 (.reg [⟨(some 16), none, .mov (.t 0)⟩,
  ⟨(some 17), none, .nilck (.t 16)⟩,
  ⟨(some 18), none, .faddr 0 (.t 17)⟩,
  ⟨(some 19), none, .load none (.t 18)⟩,
  ⟨(some 20), none, .mov (.t 7)⟩,
  ⟨(some 21), none, .lookup .str (.int .i64 0) (.t 19) (.t 20) false⟩,
  ⟨(some 22), none, .bin .add (.t 21) (.c (.int .i64 1))⟩,
  ⟨none, none, .mapset .str (.t 19) (.t 20) (.t 22)⟩])))
 (.reg [⟨(some 23), none, .bin .add (.t 12) (.c (.int .i64 1))⟩,
  ⟨(some 12), none, .mov (.t 23)⟩])))))))
 (.seq (.reg [⟨(some 24), none, .mov (.t 2)⟩,
  ⟨(some 25), none, .call 0 [] (.t 24) []⟩])
 (.seq (.reg [⟨(some 26), none, .mov (.t 1)⟩,
  ⟨(some 27), none, .len 1 (.t 26)⟩,
  ⟨(some 28), none, .mov (.c (.int .i64 0))⟩])
 (.block 2 (.loop [0, 26, 27, 28] [] (.seq (.reg [⟨(some 29), none, .bin .lss (.t 28) (.t 27)⟩])
 (.seq (.cond (.t 29) .skip
 (.exit 2))
 (.seq (.block 3 (.seq (.reg [⟨(some 30), none, .iaddr 1 (.t 26) (.t 28)⟩,
  ⟨(some 31), none, .load none (.t 30)⟩,
  ⟨(some 9), none, .mov (.t 31)⟩])
 (.reg [⟨(some 32), none, .mov (.t 0)⟩,
  ⟨(some 33), none, .nilck (.t 32)⟩,
  ⟨(some 34), none, .faddr 0 (.t 33)⟩,
  ⟨(some 35), none, .load none (.t 34)⟩,
  ⟨(some 36), none, .mov (.t 9)⟩,
  ⟨(some 37), none, .lookup .str (.int .i64 0) (.t 35) (.t 36) false⟩,
  ⟨(some 38), none, .bin .sub (.t 37) (.c (.int .i64 1))⟩,
  ⟨none, none, .mapset .str (.t 35) (.t 36) (.t 38)⟩])))
 (.reg [⟨(some 39), none, .bin .add (.t 28) (.c (.int .i64 1))⟩,
  ⟨(some 28), none, .mov (.t 39)⟩]))))))))),
  [], false, false, 40⟩
theorem co60 : compF Tryd.prog ⟨[], [(1, [0, 1, 2, 10, 11, 12], []), (7, [0, 26, 27, 28], [])], [], [], [], [], 60, [], [], []⟩ false false Tryd.f60 = some ac60 := by kernel_rfl

/-- (*paideia/term.free).term$1 -/
def ac61 : AF := ⟨(.reg [⟨(some 2), none, .load none (.t 0)⟩,
  ⟨(some 3), none, .faddr 6 (.t 1)⟩,
  ⟨(some 4), none, .load none (.t 3)⟩,
  ⟨(some 5), none, .call 0 [] (.c (.fn 62 [])) [(.t 2), (.t 4)]⟩]),
  [], false, false, 6⟩
theorem co61 : compF Tryd.prog ⟨[], [], [], [], [], [], 61, [], [], []⟩ false false Tryd.f61 = some ac61 := by kernel_rfl

/-- (*paideia/term.free).all -/
def ac62 : AF := ⟨(.seq (.reg [⟨(some 6), none, .mov (.t 1)⟩,
  ⟨(some 7), none, .len 1 (.t 6)⟩,
  ⟨(some 8), none, .mov (.c (.int .i64 0))⟩])
 (.block 0 (.loop [0, 6, 7, 8] [] (.seq (.reg [⟨(some 9), none, .bin .lss (.t 8) (.t 7)⟩])
 (.seq (.cond (.t 9) .skip
 (.exit 0))
 (.seq (.block 1 (.seq (.reg [⟨(some 10), none, .iaddr 9 (.t 6) (.t 8)⟩,
  ⟨(some 11), none, .load (some 9) (.t 10)⟩,
  ⟨(some 5), none, .alloc [(.int .i64 0), (.str []), (.int .i64 0), (.int .i64 0), (.str []), (.sl .clip []), (.sl .clip []), (.sl .clip []), (.sl .clip [])] false⟩,
  ⟨none, none, .store 9 (.t 5) (.t 11)⟩])
 (.reg [⟨(some 12), none, .mov (.t 0)⟩,
  ⟨(some 13), none, .load (some 9) (.t 5)⟩,
  ⟨(some 14), none, .call 0 [] (.c (.fn 37 [])) [(.t 12), (.t 13)]⟩])))
 (.reg [⟨(some 15), none, .bin .add (.t 8) (.c (.int .i64 1))⟩,
  ⟨(some 8), none, .mov (.t 15)⟩]))))))),
  [], false, false, 16⟩
theorem co62 : compF Tryd.prog ⟨[], [(1, [0, 6, 7, 8], [])], [], [], [], [], 62, [], [], []⟩ false false Tryd.f62 = some ac62 := by kernel_rfl

/-- (*paideia/term.free).term$2 -/
def ac63 : AF := ⟨(.seq (.seq (.reg [⟨(some 4), none, .faddr 8 (.t 0)⟩,
  ⟨(some 5), none, .load none (.t 4)⟩,
  ⟨(some 6), none, .len 1 (.t 5)⟩,
  ⟨(some 7), none, .mov (.c (.int .i64 0))⟩])
 (.block 0 (.loop [0, 1, 5, 6, 7] [] (.seq (.reg [⟨(some 8), none, .bin .lss (.t 7) (.t 6)⟩])
 (.seq (.cond (.t 8) .skip
 (.exit 0))
 (.seq (.block 1 (.seq (.reg [⟨(some 9), none, .iaddr 13 (.t 5) (.t 7)⟩,
  ⟨(some 10), none, .load (some 13) (.t 9)⟩,
  ⟨(some 3), none, .alloc [(.str []), (.int .i64 0), (.str []), (.sl .clip []), (.int .i64 0), (.str []), (.int .i64 0), (.int .i64 0), (.str []), (.sl .clip []), (.sl .clip []), (.sl .clip []), (.sl .clip [])] false⟩,
  ⟨none, none, .store 13 (.t 3) (.t 10)⟩])
 (.reg [⟨(some 11), none, .load none (.t 1)⟩,
  ⟨(some 12), none, .faddr 4 (.t 3)⟩,
  ⟨(some 13), none, .load (some 9) (.t 12)⟩,
  ⟨(some 14), none, .call 0 [] (.c (.fn 37 [])) [(.t 11), (.t 13)]⟩])))
 (.reg [⟨(some 15), none, .bin .add (.t 7) (.c (.int .i64 1))⟩,
  ⟨(some 7), none, .mov (.t 15)⟩])))))))
 (.reg [⟨(some 16), none, .load none (.t 1)⟩,
  ⟨(some 17), none, .faddr 6 (.t 0)⟩,
  ⟨(some 18), none, .load none (.t 17)⟩,
  ⟨(some 19), none, .call 0 [] (.c (.fn 62 [])) [(.t 16), (.t 18)]⟩])),
  [], false, false, 20⟩
theorem co63 : compF Tryd.prog ⟨[], [(1, [0, 1, 5, 6, 7], [])], [], [], [], [], 63, [], [], []⟩ false false Tryd.f63 = some ac63 := by kernel_rfl

/-- paideia/term.Bound -/
def ac64 : AF := ⟨(.seq (.reg [⟨(some 2), none, .mov (.c (.sl .clip []))⟩])
 (.seq (.reg [⟨(some 3), none, .mov (.c (.sl .clip []))⟩])
 (.seq (.seq (.reg [⟨(some 6), none, .mov (.t 0)⟩,
  ⟨(some 7), none, .len 1 (.t 6)⟩,
  ⟨(some 8), none, .mov (.c (.int .i64 0))⟩])
 (.block 0 (.loop [3, 6, 7, 8] [] (.seq (.reg [⟨(some 9), none, .bin .lss (.t 8) (.t 7)⟩])
 (.seq (.cond (.t 9) .skip
 (.exit 0))
 (.seq (.block 1 (.seq (.reg [⟨(some 10), none, .iaddr 1 (.t 6) (.t 8)⟩,
  ⟨(some 11), none, .load none (.t 10)⟩,
  ⟨(some 5), none, .mov (.t 11)⟩])
 (.seq (.reg [⟨(some 12), none, .mov (.t 5)⟩,
  ⟨(some 13), none, .bin .neq (.t 12) (.c (.str [95]))⟩])
 (.cond (.t 13) (.reg [⟨(some 14), none, .mov (.t 3)⟩,
  ⟨(some 15), none, .mov (.t 5)⟩,
  ⟨(some 16), none, .bslice [(.str [])] 1 [(0, (.t 15))]⟩,
  ⟨(some 17), none, .append 1 (.t 14) (.t 16)⟩,
  ⟨(some 3), none, .mov (.t 17)⟩])
 .skip))))
 (.reg [⟨(some 18), none, .bin .add (.t 8) (.c (.int .i64 1))⟩,
  ⟨(some 8), none, .mov (.t 18)⟩])))))))
 (.seq (.reg [⟨(some 19), none, .mov (.t 3)⟩,
  ⟨(some 2), none, .mov (.t 19)⟩])
 .ret)))),
  [.t 2], false, true, 20⟩
theorem co64 : compF Tryd.prog ⟨[], [(3, [3, 6, 7, 8], [])], [], [], [], [], 64, [], [], []⟩ false true Tryd.f64 = some ac64 := by kernel_rfl

/-- (*paideia/term.free).term$3 -/
def ac65 : AF := ⟨(.reg [⟨(some 2), none, .load none (.t 0)⟩,
  ⟨(some 3), none, .faddr 2 (.t 1)⟩,
  ⟨(some 4), none, .load (some 9) (.t 3)⟩,
  ⟨(some 5), none, .call 0 [] (.c (.fn 37 [])) [(.t 2), (.t 4)]⟩]),
  [], false, false, 6⟩
theorem co65 : compF Tryd.prog ⟨[], [], [], [], [], [], 65, [], [], []⟩ false false Tryd.f65 = some ac65 := by kernel_rfl

/-- paideia/norm.atom -/
def ac66 : AF := ⟨(.seq (.reg [⟨(some 1), none, .box (.t 0) 9 false⟩,
  ⟨(some 2), none, .mov (.c (.bool false))⟩])
 (.seq (.reg [⟨(some 3), none, .faddr 0 (.t 1)⟩,
  ⟨(some 4), none, .load none (.t 3)⟩,
  ⟨(some 5), none, .bin .eql (.t 4) (.c (.int .i64 1))⟩,
  ⟨(some 6), none, .mov (.t 5)⟩,
  ⟨(some 7), (some (6, false)), .faddr 0 (.t 1)⟩,
  ⟨(some 8), (some (6, false)), .load none (.t 7)⟩,
  ⟨(some 9), (some (6, false)), .bin .eql (.t 8) (.c (.int .i64 3))⟩,
  ⟨(some 10), none, .pick (.t 6) (.c (.bool true)) (.t 9)⟩,
  ⟨(some 11), none, .mov (.t 10)⟩,
  ⟨(some 12), (some (11, false)), .faddr 0 (.t 1)⟩,
  ⟨(some 13), (some (11, false)), .load none (.t 12)⟩,
  ⟨(some 14), (some (11, false)), .bin .eql (.t 13) (.c (.int .i64 4))⟩,
  ⟨(some 15), none, .pick (.t 11) (.c (.bool true)) (.t 14)⟩,
  ⟨(some 2), none, .mov (.t 15)⟩])
 .ret)),
  [.t 2], false, true, 16⟩
theorem co66 : compF Tryd.prog ⟨[], [], [], [], [], [], 66, [], [], []⟩ false true Tryd.f66 = some ac66 := by kernel_rfl

/-- paideia/term.App -/
def ac67 : AF := ⟨(.seq (.reg [⟨(some 2), none, .box (.t 0) 9 false⟩,
  ⟨(some 4), none, .alloc [(.int .i64 0), (.str []), (.int .i64 0), (.int .i64 0), (.str []), (.sl .clip []), (.sl .clip []), (.sl .clip []), (.sl .clip [])] false⟩])
 (.seq (.seq (.reg [⟨(some 7), none, .mov (.t 1)⟩,
  ⟨(some 8), none, .len 1 (.t 7)⟩,
  ⟨(some 9), none, .mov (.c (.int .i64 0))⟩])
 (.block 0 (.loop [7, 8, 9] [2, 4] (.seq (.reg [⟨(some 10), none, .bin .lss (.t 9) (.t 8)⟩])
 (.seq (.cond (.t 10) .skip
 (.exit 0))
 (.seq (.block 1 (.seq (.reg [⟨(some 11), none, .iaddr 9 (.t 7) (.t 9)⟩,
  ⟨(some 12), none, .load (some 9) (.t 11)⟩,
  ⟨(some 6), none, .alloc [(.int .i64 0), (.str []), (.int .i64 0), (.int .i64 0), (.str []), (.sl .clip []), (.sl .clip []), (.sl .clip []), (.sl .clip [])] false⟩,
  ⟨none, none, .store 9 (.t 6) (.t 12)⟩])
 (.reg [⟨(some 13), none, .load (some 9) (.t 2)⟩,
  ⟨(some 14), none, .load (some 9) (.t 6)⟩,
  ⟨(some 15), none, .bslice [(.int .i64 0), (.str []), (.int .i64 0), (.int .i64 0), (.str []), (.sl .clip []), (.sl .clip []), (.sl .clip []), (.sl .clip [])] 2 [(0, (.t 13)), (1, (.t 14))]⟩,
  ⟨(some 16), none, .build [(.int .i64 0), (.str []), (.int .i64 0), (.int .i64 0), (.str []), (.sl .clip []), (.sl .clip []), (.sl .clip []), (.sl .clip [])] [(0, 1, (.c (.int .i64 5))), (6, 1, (.t 15))]⟩,
  ⟨none, none, .store 9 (.t 2) (.t 16)⟩])))
 (.reg [⟨(some 17), none, .bin .add (.t 9) (.c (.int .i64 1))⟩,
  ⟨(some 9), none, .mov (.t 17)⟩])))))))
 (.seq (.reg [⟨(some 18), none, .load (some 9) (.t 2)⟩,
  ⟨none, none, .store 9 (.t 4) (.t 18)⟩])
 .ret))),
  [.cell 4 (some 9)], false, true, 19⟩
theorem co67 : compF Tryd.prog ⟨[], [(2, [7, 8, 9], [2, 4])], [], [], [], [], 67, [], [], []⟩ false true Tryd.f67 = some ac67 := by kernel_rfl

/-- (*paideia/norm.norm).fresh -/
def ac68 : AF := ⟨(.seq (.reg [⟨(some 2), none, .mov (.c (.str []))⟩])
 (.block 0 (.loop [0] [] (.block 1 (.seq (.reg [⟨(some 4), none, .mov (.t 0)⟩,
  ⟨(some 5), none, .nilck (.t 4)⟩,
  ⟨(some 6), none, .faddr 1 (.t 5)⟩,
  ⟨(some 7), none, .load none (.t 6)⟩,
  ⟨(some 8), none, .bin .add (.t 7) (.c (.int .i64 1))⟩,
  ⟨(some 9), none, .nilck (.t 4)⟩,
  ⟨(some 10), none, .faddr 1 (.t 9)⟩,
  ⟨none, none, .store 1 (.t 10) (.t 8)⟩])
 (.seq (.reg [⟨(some 11), none, .mov (.t 0)⟩,
  ⟨(some 12), none, .nilck (.t 11)⟩,
  ⟨(some 13), none, .faddr 1 (.t 12)⟩,
  ⟨(some 14), none, .load none (.t 13)⟩,
  ⟨(some 15), none, .call 0 [] (.c (.fn 79 [])) [(.t 14)]⟩,
  ⟨(some 16), none, .bin .add (.c (.str [118])) (.t 15)⟩,
  ⟨(some 3), none, .mov (.t 16)⟩])
 (.seq (.reg [⟨(some 17), none, .mov (.t 0)⟩,
  ⟨(some 18), none, .nilck (.t 17)⟩,
  ⟨(some 19), none, .faddr 0 (.t 18)⟩,
  ⟨(some 20), none, .load none (.t 19)⟩,
  ⟨(some 21), none, .mov (.t 3)⟩,
  ⟨(some 22), none, .lookup .str (.bool false) (.t 20) (.t 21) false⟩,
  ⟨(some 23), none, .not (.t 22)⟩])
 (.cond (.t 23) (.seq (.reg [⟨(some 24), none, .mov (.t 3)⟩,
  ⟨(some 2), none, .mov (.t 24)⟩])
 .ret)
 .skip)))))))),
  [.t 2], false, true, 25⟩
theorem co68 : compF Tryd.prog ⟨[], [(1, [0], [])], [], [], [], [], 68, [], [], []⟩ false true Tryd.f68 = some ac68 := by kernel_rfl

/-- (*paideia/norm.norm).let$1 -/
def ac69 : AF := ⟨(.seq (.seq (.reg [⟨(some 5), none, .faddr 8 (.t 0)⟩,
  ⟨(some 6), none, .load none (.t 5)⟩,
  ⟨(some 7), none, .len 1 (.t 6)⟩,
  ⟨(some 8), none, .mov (.c (.int .i64 0))⟩])
 (.block 0 (.loop [0, 1, 2, 6, 7, 8] [] (.seq (.reg [⟨(some 9), none, .bin .lss (.t 8) (.t 7)⟩])
 (.seq (.cond (.t 9) .skip
 (.exit 0))
 (.seq (.block 1 (.seq (.reg [⟨(some 10), none, .iaddr 13 (.t 6) (.t 8)⟩,
  ⟨(some 11), none, .load (some 13) (.t 10)⟩,
  ⟨(some 4), none, .alloc [(.str []), (.int .i64 0), (.str []), (.sl .clip []), (.int .i64 0), (.str []), (.int .i64 0), (.int .i64 0), (.str []), (.sl .clip []), (.sl .clip []), (.sl .clip []), (.sl .clip [])] false⟩,
  ⟨none, none, .store 13 (.t 4) (.t 11)⟩])
 (.reg [⟨(some 12), none, .faddr 8 (.t 1)⟩,
  ⟨(some 13), none, .loadX false none (.t 12) [] [(.t 1)]⟩,
  ⟨(some 14), none, .load none (.t 2)⟩,
  ⟨(some 15), none, .faddr 4 (.t 4)⟩,
  ⟨(some 16), none, .load (some 9) (.t 15)⟩,
  ⟨(some 17), none, .callK 0 [] (.c (.fn 24 [])) [(.t 14), (.t 16)] [(.t 1)]⟩,
  ⟨(some 18), none, .build [(.str []), (.int .i64 0), (.str []), (.sl .clip []), (.int .i64 0), (.str []), (.int .i64 0), (.int .i64 0), (.str []), (.sl .clip []), (.sl .clip []), (.sl .clip []), (.sl .clip [])] [(4, 9, (.t 17))]⟩,
  ⟨(some 19), none, .len 1 (.t 13)⟩,
  ⟨(some 20), none, .bslice [(.str []), (.int .i64 0), (.str []), (.sl .clip []), (.int .i64 0), (.str []), (.int .i64 0), (.int .i64 0), (.str []), (.sl .clip []), (.sl .clip []), (.sl .clip []), (.sl .clip [])] 1 [(0, (.c (.agg [(.str []), (.int .i64 0), (.str []), (.sl .clip []), (.int .i64 0), (.str []), (.int .i64 0), (.int .i64 0), (.str []), (.sl .clip []), (.sl .clip []), (.sl .clip []), (.sl .clip [])])))]⟩,
  ⟨(some 21), none, .appm 13 [] (.t 13) (.t 20)⟩,
  ⟨(some 22), none, .iaddr 13 (.t 21) (.t 19)⟩,
  ⟨none, none, .storeX false 13 (.t 22) (.t 18) [(.t 1)] []⟩,
  ⟨(some 23), none, .faddr 8 (.t 1)⟩,
  ⟨none, none, .storeX false 1 (.t 23) (.t 21) [] [(.t 1)]⟩])))
 (.reg [⟨(some 24), none, .bin .add (.t 8) (.c (.int .i64 1))⟩,
  ⟨(some 8), none, .mov (.t 24)⟩])))))))
 (.reg [⟨(some 25), none, .load none (.t 2)⟩,
  ⟨(some 26), none, .faddr 6 (.t 0)⟩,
  ⟨(some 27), none, .load none (.t 26)⟩,
  ⟨(some 28), none, .call 0 [] (.c (.fn 43 [])) [(.t 25), (.t 27)]⟩,
  ⟨(some 29), none, .faddr 6 (.t 1)⟩,
  ⟨none, none, .store 1 (.t 29) (.t 28)⟩])),
  [], false, false, 30⟩
theorem co69 : compF Tryd.prog ⟨[], [(1, [0, 1, 2, 6, 7, 8], [])], [], [], [21], [21], 69, [], [], [1]⟩ false false Tryd.f69 = some ac69 := by kernel_rfl

/-- (*paideia/machine.Machine).works -/
def ac70 : AF := ⟨(.block 0 (.seq (.reg [⟨(some 29), none, .mov (.t 1)⟩,
  ⟨(some 30), none, .eqnil .ptr false (.t 29)⟩,
  ⟨(some 28), none, .mov (.t 30)⟩])
 (.cond (.t 28) (.reg [⟨(some 31), none, .mov (.t 0)⟩,
  ⟨(some 32), none, .gload 1⟩,
  ⟨(some 33), none, .nilck (.t 31)⟩,
  ⟨(some 34), none, .faddr 3 (.t 33)⟩,
  ⟨none, none, .store 1 (.t 34) (.t 32)⟩])
 (.seq (.reg [⟨(some 36), none, .mov (.t 1)⟩,
  ⟨(some 37), none, .nilck (.t 36)⟩,
  ⟨(some 38), none, .faddr 0 (.t 37)⟩,
  ⟨(some 39), none, .load none (.t 38)⟩,
  ⟨(some 40), none, .eqnil .ptr true (.t 39)⟩,
  ⟨(some 35), none, .mov (.t 40)⟩])
 (.cond (.t 35) (.reg [⟨(some 41), none, .mov (.t 0)⟩,
  ⟨(some 42), none, .mov (.t 1)⟩,
  ⟨(some 43), none, .nilck (.t 42)⟩,
  ⟨(some 44), none, .faddr 0 (.t 43)⟩,
  ⟨(some 45), none, .load none (.t 44)⟩,
  ⟨(some 46), none, .call 0 [] (.c (.fn 80 [])) [(.t 41), (.t 45)]⟩])
 (.seq (.reg [⟨(some 48), none, .mov (.t 1)⟩,
  ⟨(some 49), none, .nilck (.t 48)⟩,
  ⟨(some 50), none, .faddr 1 (.t 49)⟩,
  ⟨(some 51), none, .load none (.t 50)⟩,
  ⟨(some 47), none, .mov (.t 51)⟩])
 (.cond (.t 47) (.reg [⟨(some 52), none, .mov (.t 0)⟩,
  ⟨(some 53), none, .gload 4⟩,
  ⟨(some 54), none, .nilck (.t 52)⟩,
  ⟨(some 55), none, .faddr 3 (.t 54)⟩,
  ⟨none, none, .store 1 (.t 55) (.t 53)⟩])
 (.seq (.reg [⟨(some 4), none, .mov (.t 1)⟩,
  ⟨(some 5), none, .nilck (.t 4)⟩,
  ⟨(some 6), none, .faddr 1 (.t 5)⟩,
  ⟨none, none, .store 1 (.t 6) (.c (.bool true))⟩])
 (.seq (.reg [⟨(some 7), none, .mov (.t 0)⟩,
  ⟨(some 8), none, .mov (.t 0)⟩,
  ⟨(some 9), none, .nilck (.t 8)⟩,
  ⟨(some 10), none, .faddr 6 (.t 9)⟩,
  ⟨(some 11), none, .load none (.t 10)⟩,
  ⟨(some 12), none, .mov (.t 1)⟩,
  ⟨(some 13), none, .build [(.int .i64 0), .nilp, .nilp, (.sl .clip []), (.str []), (.sl .clip []), (.sl .clip [])] [(0, 1, (.c (.int .i64 1))), (1, 1, (.t 12))]⟩,
  ⟨(some 14), none, .bslice [(.int .i64 0), .nilp, .nilp, (.sl .clip []), (.str []), (.sl .clip []), (.sl .clip [])] 1 [(0, (.t 13))]⟩,
  ⟨(some 15), none, .appV 7 (.t 11) (.t 14)⟩,
  ⟨(some 16), none, .nilck (.t 7)⟩,
  ⟨(some 17), none, .faddr 6 (.t 16)⟩,
  ⟨none, none, .store 1 (.t 17) (.t 15)⟩])
 (.reg [⟨(some 18), none, .mov (.t 0)⟩,
  ⟨(some 19), none, .mov (.t 1)⟩,
  ⟨(some 20), none, .nilck (.t 19)⟩,
  ⟨(some 21), none, .faddr 2 (.t 20)⟩,
  ⟨(some 22), none, .load none (.t 21)⟩,
  ⟨(some 23), none, .mov (.t 1)⟩,
  ⟨(some 24), none, .nilck (.t 23)⟩,
  ⟨(some 25), none, .faddr 3 (.t 24)⟩,
  ⟨(some 26), none, .load none (.t 25)⟩,
  ⟨(some 27), none, .call 0 [] (.c (.fn 81 [])) [(.t 18), (.t 22), (.t 26), (.c .nilp)]⟩])))))))))),
  [], false, false, 56⟩
theorem co70 : compF Tryd.prog ⟨[], [], [], [1, 4], [], [2000015], 70, [], [], [0, 1]⟩ false false Tryd.f70 = some ac70 := by kernel_rfl

/-- (*paideia/machine.Machine).looks -/
def ac71 : AF := ⟨(.seq (.reg [⟨(some 5), none, .mov (.t 1)⟩,
  ⟨(some 6), none, .nilck (.t 5)⟩,
  ⟨(some 7), none, .faddr 0 (.t 6)⟩,
  ⟨(some 8), none, .load none (.t 7)⟩])
 (.block 0 (.seq (.reg [⟨(some 14), none, .bin .eql (.t 8) (.c (.int .i64 1))⟩,
  ⟨(some 13), none, .mov (.t 14)⟩])
 (.cond (.t 13) (.seq (.seq (.reg [⟨(some 15), none, .mov (.t 1)⟩,
  ⟨(some 16), none, .nilck (.t 15)⟩,
  ⟨(some 17), none, .faddr 3 (.t 16)⟩,
  ⟨(some 18), none, .load none (.t 17)⟩,
  ⟨(some 19), none, .bin .lss (.t 18) (.c (.int .i64 0))⟩])
 (.cond (.t 19) (.seq (.reg [⟨(some 20), none, .mov (.t 0)⟩,
  ⟨(some 21), none, .gload 1⟩,
  ⟨(some 22), none, .nilck (.t 20)⟩,
  ⟨(some 23), none, .faddr 3 (.t 22)⟩,
  ⟨none, none, .store 1 (.t 23) (.t 21)⟩])
 .ret)
 .skip))
 (.reg [⟨(some 24), none, .mov (.t 0)⟩,
  ⟨(some 25), none, .mov (.t 0)⟩,
  ⟨(some 26), none, .nilck (.t 25)⟩,
  ⟨(some 27), none, .faddr 8 (.t 26)⟩,
  ⟨(some 28), none, .load none (.t 27)⟩,
  ⟨(some 29), none, .mov (.t 1)⟩,
  ⟨(some 30), none, .nilck (.t 29)⟩,
  ⟨(some 31), none, .faddr 3 (.t 30)⟩,
  ⟨(some 32), none, .load none (.t 31)⟩,
  ⟨(some 33), none, .iaddr 1 (.t 28) (.t 32)⟩,
  ⟨(some 34), none, .load none (.t 33)⟩,
  ⟨(some 35), none, .call 0 [] (.c (.fn 70 [])) [(.t 24), (.t 34)]⟩]))
 (.seq (.seq (.reg [⟨(some 37), none, .bin .eql (.t 8) (.c (.int .i64 3))⟩,
  ⟨(some 36), none, .mov (.t 37)⟩])
 (.cond (.t 36) .skip
 (.reg [⟨(some 38), none, .bin .eql (.t 8) (.c (.int .i64 4))⟩,
  ⟨(some 36), none, .mov (.t 38)⟩])))
 (.cond (.t 36) (.reg [⟨(some 39), none, .mov (.t 0)⟩,
  ⟨(some 40), none, .mov (.t 1)⟩,
  ⟨(some 41), none, .nilck (.t 40)⟩,
  ⟨(some 42), none, .faddr 0 (.t 41)⟩,
  ⟨(some 43), none, .load none (.t 42)⟩,
  ⟨(some 44), none, .mov (.t 1)⟩,
  ⟨(some 45), none, .nilck (.t 44)⟩,
  ⟨(some 46), none, .faddr 1 (.t 45)⟩,
  ⟨(some 47), none, .load none (.t 46)⟩,
  ⟨(some 48), none, .build [(.int .i64 0), (.int .i64 0), (.str []), (.sl .clip []), .nilp, (.sl .clip [])] [(0, 1, (.t 43)), (1, 1, (.t 47))]⟩,
  ⟨(some 49), none, .box (.t 48) 6 true⟩,
  ⟨(some 50), none, .call 0 [] (.c (.fn 80 [])) [(.t 39), (.t 49)]⟩])
 (.seq (.seq (.reg [⟨(some 52), none, .bin .eql (.t 8) (.c (.int .i64 2))⟩,
  ⟨(some 51), none, .mov (.t 52)⟩])
 (.cond (.t 51) .skip
 (.reg [⟨(some 53), none, .bin .eql (.t 8) (.c (.int .i64 11))⟩,
  ⟨(some 51), none, .mov (.t 53)⟩])))
 (.cond (.t 51) (.reg [⟨(some 54), none, .mov (.t 0)⟩,
  ⟨(some 55), none, .mov (.t 1)⟩,
  ⟨(some 56), none, .nilck (.t 55)⟩,
  ⟨(some 57), none, .faddr 0 (.t 56)⟩,
  ⟨(some 58), none, .load none (.t 57)⟩,
  ⟨(some 59), none, .mov (.t 1)⟩,
  ⟨(some 60), none, .nilck (.t 59)⟩,
  ⟨(some 61), none, .faddr 2 (.t 60)⟩,
  ⟨(some 62), none, .load none (.t 61)⟩,
  ⟨(some 63), none, .build [(.int .i64 0), (.int .i64 0), (.str []), (.sl .clip []), .nilp, (.sl .clip [])] [(0, 1, (.t 58)), (2, 1, (.t 62))]⟩,
  ⟨(some 64), none, .box (.t 63) 6 true⟩,
  ⟨(some 65), none, .call 0 [] (.c (.fn 80 [])) [(.t 54), (.t 64)]⟩])
 (.seq (.reg [⟨(some 67), none, .bin .eql (.t 8) (.c (.int .i64 5))⟩,
  ⟨(some 66), none, .mov (.t 67)⟩])
 (.cond (.t 66) (.seq (.reg [⟨(some 68), none, .mov (.t 0)⟩,
  ⟨(some 69), none, .mov (.t 1)⟩,
  ⟨(some 70), none, .nilck (.t 69)⟩,
  ⟨(some 71), none, .faddr 5 (.t 70)⟩,
  ⟨(some 72), none, .load none (.t 71)⟩,
  ⟨(some 73), none, .call 0 [] (.c (.fn 82 [])) [(.t 68), (.t 72)]⟩,
  ⟨(some 4), none, .mov (.t 73)⟩])
 (.seq (.reg [⟨(some 74), none, .mov (.t 4)⟩,
  ⟨(some 75), none, .eqnil .ptr true (.t 74)⟩])
 (.cond (.t 75) (.seq (.reg [⟨(some 76), none, .mov (.t 0)⟩,
  ⟨(some 77), none, .mov (.t 0)⟩,
  ⟨(some 78), none, .nilck (.t 77)⟩,
  ⟨(some 79), none, .faddr 6 (.t 78)⟩,
  ⟨(some 80), none, .load none (.t 79)⟩,
  ⟨(some 81), none, .mov (.t 4)⟩,
  ⟨(some 82), none, .build [(.int .i64 0), .nilp, .nilp, (.sl .clip []), (.str []), (.sl .clip []), (.sl .clip [])] [(0, 1, (.c (.int .i64 2))), (1, 1, (.t 81))]⟩,
  ⟨(some 83), none, .bslice [(.int .i64 0), .nilp, .nilp, (.sl .clip []), (.str []), (.sl .clip []), (.sl .clip [])] 1 [(0, (.t 82))]⟩,
  ⟨(some 84), none, .appV 7 (.t 80) (.t 83)⟩,
  ⟨(some 85), none, .nilck (.t 76)⟩,
  ⟨(some 86), none, .faddr 6 (.t 85)⟩,
  ⟨none, none, .store 1 (.t 86) (.t 84)⟩])
 (.reg [⟨(some 87), none, .mov (.t 0)⟩,
  ⟨(some 88), none, .mov (.t 1)⟩,
  ⟨(some 89), none, .nilck (.t 88)⟩,
  ⟨(some 90), none, .faddr 4 (.t 89)⟩,
  ⟨(some 91), none, .load none (.t 90)⟩,
  ⟨(some 92), none, .nilck (.t 87)⟩,
  ⟨(some 93), none, .faddr 7 (.t 92)⟩,
  ⟨none, none, .store 1 (.t 93) (.t 91)⟩]))
 .skip)))
 (.seq (.reg [⟨(some 95), none, .bin .eql (.t 8) (.c (.int .i64 6))⟩,
  ⟨(some 94), none, .mov (.t 95)⟩])
 (.cond (.t 94) (.reg [⟨(some 96), none, .mov (.t 0)⟩,
  ⟨(some 97), none, .mov (.t 1)⟩,
  ⟨(some 98), none, .nilck (.t 97)⟩,
  ⟨(some 99), none, .faddr 8 (.t 98)⟩,
  ⟨(some 100), none, .loadX false none (.t 99) [] [(.t 1)]⟩,
  ⟨(some 101), none, .mov (.t 1)⟩,
  ⟨(some 102), none, .nilck (.t 101)⟩,
  ⟨(some 103), none, .faddr 8 (.t 102)⟩,
  ⟨(some 104), none, .load none (.t 103)⟩,
  ⟨(some 105), none, .mov (.t 0)⟩,
  ⟨(some 106), none, .nilck (.t 105)⟩,
  ⟨(some 107), none, .faddr 8 (.t 106)⟩,
  ⟨(some 108), none, .load none (.t 107)⟩,
  ⟨(some 109), none, .callK 0 [] (.c (.fn 83 [])) [(.t 104), (.t 108)] [(.t 1)]⟩,
  ⟨(some 110), none, .build [(.int .i64 0), (.int .i64 0), (.str []), (.sl .clip []), .nilp, (.sl .clip [])] [(0, 1, (.c (.int .i64 6))), (4, 1, (.t 100)), (5, 1, (.t 109))]⟩,
  ⟨(some 111), none, .box (.t 110) 6 true⟩,
  ⟨(some 112), none, .call 0 [] (.c (.fn 80 [])) [(.t 96), (.t 111)]⟩])
 (.seq (.reg [⟨(some 114), none, .bin .eql (.t 8) (.c (.int .i64 9))⟩,
  ⟨(some 113), none, .mov (.t 114)⟩])
 (.cond (.t 113) (.reg [⟨(some 115), none, .mov (.t 0)⟩,
  ⟨(some 116), none, .mov (.t 1)⟩,
  ⟨(some 117), none, .call 0 [] (.c (.fn 84 [])) [(.t 115), (.t 116)]⟩])
 (.seq (.reg [⟨(some 119), none, .bin .eql (.t 8) (.c (.int .i64 10))⟩,
  ⟨(some 118), none, .mov (.t 119)⟩])
 (.cond (.t 118) (.seq (.reg [⟨(some 120), none, .mov (.t 0)⟩,
  ⟨(some 121), none, .mov (.t 0)⟩,
  ⟨(some 122), none, .nilck (.t 121)⟩,
  ⟨(some 123), none, .faddr 6 (.t 122)⟩,
  ⟨(some 124), none, .load none (.t 123)⟩,
  ⟨(some 125), none, .mov (.t 1)⟩,
  ⟨(some 126), none, .mov (.t 0)⟩,
  ⟨(some 127), none, .nilck (.t 126)⟩,
  ⟨(some 128), none, .faddr 8 (.t 127)⟩,
  ⟨(some 129), none, .load none (.t 128)⟩,
  ⟨(some 130), none, .build [(.int .i64 0), .nilp, .nilp, (.sl .clip []), (.str []), (.sl .clip []), (.sl .clip [])] [(0, 1, (.c (.int .i64 3))), (2, 1, (.t 125)), (3, 1, (.t 129))]⟩,
  ⟨(some 131), none, .bslice [(.int .i64 0), .nilp, .nilp, (.sl .clip []), (.str []), (.sl .clip []), (.sl .clip [])] 1 [(0, (.t 130))]⟩,
  ⟨(some 132), none, .appV 7 (.t 124) (.t 131)⟩,
  ⟨(some 133), none, .nilck (.t 120)⟩,
  ⟨(some 134), none, .faddr 6 (.t 133)⟩,
  ⟨none, none, .store 1 (.t 134) (.t 132)⟩])
 (.reg [⟨(some 135), none, .mov (.t 0)⟩,
  ⟨(some 136), none, .mov (.t 1)⟩,
  ⟨(some 137), none, .nilck (.t 136)⟩,
  ⟨(some 138), none, .faddr 4 (.t 137)⟩,
  ⟨(some 139), none, .load none (.t 138)⟩,
  ⟨(some 140), none, .nilck (.t 135)⟩,
  ⟨(some 141), none, .faddr 7 (.t 140)⟩,
  ⟨none, none, .store 1 (.t 141) (.t 139)⟩]))
 (.reg [⟨(some 9), none, .mov (.t 0)⟩,
  ⟨(some 10), none, .gload 1⟩,
  ⟨(some 11), none, .nilck (.t 9)⟩,
  ⟨(some 12), none, .faddr 3 (.t 11)⟩,
  ⟨none, none, .store 1 (.t 12) (.t 10)⟩]))))))))))))))))),
  [], false, false, 142⟩
theorem co71 : compF Tryd.prog ⟨[49, 64, 111], [], [], [1], [], [2000084, 2000132], 71, [], [], [0, 1]⟩ false false Tryd.f71 = some ac71 := by kernel_rfl

/-- (*paideia/machine.Machine).goes -/
def ac72 : AF := ⟨(.seq (.reg [⟨(some 3), none, .mov (.t 0)⟩,
  ⟨(some 4), none, .nilck (.t 3)⟩,
  ⟨(some 5), none, .faddr 6 (.t 4)⟩,
  ⟨(some 6), none, .load none (.t 5)⟩,
  ⟨(some 7), none, .mov (.t 0)⟩,
  ⟨(some 8), none, .nilck (.t 7)⟩,
  ⟨(some 9), none, .faddr 6 (.t 8)⟩,
  ⟨(some 10), none, .load none (.t 9)⟩,
  ⟨(some 11), none, .len 1 (.t 10)⟩,
  ⟨(some 12), none, .bin .sub (.t 11) (.c (.int .i64 1))⟩,
  ⟨(some 13), none, .iaddr 7 (.t 6) (.t 12)⟩,
  ⟨(some 14), none, .load (some 7) (.t 13)⟩,
  ⟨(some 2), none, .alloc [(.int .i64 0), .nilp, .nilp, (.sl .clip []), (.str []), (.sl .clip []), (.sl .clip [])] false⟩,
  ⟨none, none, .store 7 (.t 2) (.t 14)⟩])
 (.seq (.reg [⟨(some 15), none, .mov (.t 0)⟩,
  ⟨(some 16), none, .mov (.t 0)⟩,
  ⟨(some 17), none, .nilck (.t 16)⟩,
  ⟨(some 18), none, .faddr 6 (.t 17)⟩,
  ⟨(some 19), none, .load none (.t 18)⟩,
  ⟨(some 20), none, .mov (.t 0)⟩,
  ⟨(some 21), none, .nilck (.t 20)⟩,
  ⟨(some 22), none, .faddr 6 (.t 21)⟩,
  ⟨(some 23), none, .load none (.t 22)⟩,
  ⟨(some 24), none, .len 1 (.t 23)⟩,
  ⟨(some 25), none, .bin .sub (.t 24) (.c (.int .i64 1))⟩,
  ⟨(some 26), none, .slice 7 (.t 19) none (some (.t 25)) none⟩,
  ⟨(some 27), none, .nilck (.t 15)⟩,
  ⟨(some 28), none, .faddr 6 (.t 27)⟩,
  ⟨none, none, .store 1 (.t 28) (.t 26)⟩])
 (.seq (.reg [⟨(some 29), none, .faddr 0 (.t 2)⟩,
  ⟨(some 30), none, .load none (.t 29)⟩])
 (.block 0 (.seq (.reg [⟨(some 32), none, .bin .eql (.t 30) (.c (.int .i64 1))⟩,
  ⟨(some 31), none, .mov (.t 32)⟩])
 (.cond (.t 31) (.reg [⟨(some 33), none, .faddr 1 (.t 2)⟩,
  ⟨(some 34), none, .load none (.t 33)⟩,
  ⟨(some 35), none, .faddr 1 (.t 2)⟩,
  ⟨(some 36), none, .loadX true none (.t 35) [] [(.t 2)]⟩,
  ⟨(some 37), none, .faddr 1 (.t 2)⟩,
  ⟨(some 38), none, .loadX true none (.t 37) [] [(.t 2), (.t 2)]⟩,
  ⟨(some 39), none, .faddr 1 (.t 2)⟩,
  ⟨(some 40), none, .loadX true none (.t 39) [] [(.t 2), (.t 2), (.t 2)]⟩,
  ⟨(some 41), none, .mov (.t 0)⟩,
  ⟨(some 42), none, .nilck (.t 41)⟩,
  ⟨(some 43), none, .faddr 9 (.t 42)⟩,
  ⟨(some 44), none, .load none (.t 43)⟩,
  ⟨(some 45), none, .nilck (.t 34)⟩,
  ⟨(some 46), none, .faddr 0 (.t 45)⟩,
  ⟨none, none, .storeX false 1 (.t 46) (.t 44) [(.t 2), (.t 2), (.t 2)] []⟩,
  ⟨(some 47), none, .nilck (.t 36)⟩,
  ⟨(some 48), none, .faddr 1 (.t 47)⟩,
  ⟨none, none, .storeX false 1 (.t 48) (.c (.bool false)) [(.t 2), (.t 2)] []⟩,
  ⟨(some 49), none, .nilck (.t 38)⟩,
  ⟨(some 50), none, .faddr 2 (.t 49)⟩,
  ⟨none, none, .storeX false 1 (.t 50) (.c .nilp) [(.t 2)] []⟩,
  ⟨(some 51), none, .nilck (.t 40)⟩,
  ⟨(some 52), none, .faddr 3 (.t 51)⟩,
  ⟨none, none, .store 1 (.t 52) (.c (.sl .clip []))⟩])
 (.seq (.reg [⟨(some 54), none, .bin .eql (.t 30) (.c (.int .i64 2))⟩,
  ⟨(some 53), none, .mov (.t 54)⟩])
 (.cond (.t 53) (.reg [⟨(some 55), none, .mov (.t 0)⟩,
  ⟨(some 56), none, .faddr 1 (.t 2)⟩,
  ⟨(some 57), none, .load none (.t 56)⟩,
  ⟨(some 58), none, .call 0 [] (.c (.fn 85 [])) [(.t 55), (.t 57)]⟩])
 (.seq (.reg [⟨(some 60), none, .bin .eql (.t 30) (.c (.int .i64 3))⟩,
  ⟨(some 59), none, .mov (.t 60)⟩])
 (.cond (.t 59) (.reg [⟨(some 61), none, .mov (.t 0)⟩,
  ⟨(some 62), none, .load (some 7) (.t 2)⟩,
  ⟨(some 63), none, .call 0 [] (.c (.fn 86 [])) [(.t 61), (.t 62)]⟩])
 (.seq (.reg [⟨(some 65), none, .bin .eql (.t 30) (.c (.int .i64 4))⟩,
  ⟨(some 64), none, .mov (.t 65)⟩])
 (.cond (.t 64) (.reg [⟨(some 66), none, .mov (.t 0)⟩,
  ⟨(some 67), none, .load (some 7) (.t 2)⟩,
  ⟨(some 68), none, .call 0 [] (.c (.fn 87 [])) [(.t 66), (.t 67)]⟩])
 .skip)))))))))))),
  [], false, false, 69⟩
theorem co72 : compF Tryd.prog ⟨[], [], [], [], [], [], 72, [], [], [0, 34, 36, 38, 40]⟩ false false Tryd.f72 = some ac72 := by kernel_rfl

/-- paideia/lexer.Plain -/
def ac73 : AF := ⟨(.seq (.reg [⟨(some 2), none, .mov (.c (.bool false))⟩])
 (.seq (.reg [⟨(some 3), none, .mov (.t 0)⟩,
  ⟨(some 4), none, .bin .geq (.t 3) (.c (.int .u8 32))⟩,
  ⟨(some 5), none, .mov (.t 4)⟩,
  ⟨(some 6), (some (5, true)), .mov (.t 0)⟩,
  ⟨(some 7), (some (5, true)), .bin .leq (.t 6) (.c (.int .u8 126))⟩,
  ⟨(some 8), none, .pick (.t 5) (.t 7) (.c (.bool false))⟩,
  ⟨(some 9), none, .mov (.t 8)⟩,
  ⟨(some 10), (some (9, true)), .mov (.t 0)⟩,
  ⟨(some 11), (some (9, true)), .bin .neq (.t 10) (.c (.int .u8 39))⟩,
  ⟨(some 12), none, .pick (.t 9) (.t 11) (.c (.bool false))⟩,
  ⟨(some 13), none, .mov (.t 12)⟩,
  ⟨(some 14), (some (13, true)), .mov (.t 0)⟩,
  ⟨(some 15), (some (13, true)), .bin .neq (.t 14) (.c (.int .u8 92))⟩,
  ⟨(some 16), none, .pick (.t 13) (.t 15) (.c (.bool false))⟩,
  ⟨(some 2), none, .mov (.t 16)⟩])
 .ret)),
  [.t 2], false, true, 17⟩
theorem co73 : compF Tryd.prog ⟨[], [], [], [], [], [], 73, [], [], []⟩ false true Tryd.f73 = some ac73 := by kernel_rfl

/-- (*paideia/machine.Machine).drops -/
def ac74 : AF := ⟨(.seq (.seq (.reg [⟨(some 4), none, .mov (.t 0)⟩,
  ⟨(some 5), none, .nilck (.t 4)⟩,
  ⟨(some 6), none, .faddr 6 (.t 5)⟩,
  ⟨(some 7), none, .load none (.t 6)⟩,
  ⟨(some 8), none, .len 1 (.t 7)⟩,
  ⟨(some 9), none, .mov (.c (.int .i64 0))⟩])
 (.block 0 (.loop [0, 7, 8, 9] [] (.seq (.reg [⟨(some 10), none, .bin .lss (.t 9) (.t 8)⟩])
 (.seq (.cond (.t 10) .skip
 (.exit 0))
 (.seq (.block 1 (.seq (.reg [⟨(some 11), none, .iaddr 7 (.t 7) (.t 9)⟩,
  ⟨(some 12), none, .load (some 7) (.t 11)⟩,
  ⟨(some 3), none, .alloc [(.int .i64 0), .nilp, .nilp, (.sl .clip []), (.str []), (.sl .clip []), (.sl .clip [])] false⟩,
  ⟨none, none, .store 7 (.t 3) (.t 12)⟩])
 (.seq (.reg [⟨(some 13), none, .faddr 0 (.t 3)⟩,
  ⟨(some 14), none, .load none (.t 13)⟩,
  ⟨(some 15), none, .bin .eql (.t 14) (.c (.int .i64 1))⟩])
 (.cond (.t 15) (.reg [⟨(some 16), none, .faddr 1 (.t 3)⟩,
  ⟨(some 17), none, .load none (.t 16)⟩,
  ⟨(some 18), none, .nilck (.t 17)⟩,
  ⟨(some 19), none, .faddr 1 (.t 18)⟩,
  ⟨none, none, .store 1 (.t 19) (.c (.bool false))⟩])
 .skip))))
 (.reg [⟨(some 20), none, .bin .add (.t 9) (.c (.int .i64 1))⟩,
  ⟨(some 9), none, .mov (.t 20)⟩])))))))
 (.reg [⟨(some 21), none, .mov (.t 0)⟩,
  ⟨(some 22), none, .mov (.t 0)⟩,
  ⟨(some 23), none, .mov (.t 0)⟩,
  ⟨(some 24), none, .mov (.t 0)⟩,
  ⟨(some 25), none, .mov (.t 0)⟩,
  ⟨(some 26), none, .nilck (.t 21)⟩,
  ⟨(some 27), none, .faddr 6 (.t 26)⟩,
  ⟨none, none, .store 1 (.t 27) (.c (.sl .clip []))⟩,
  ⟨(some 28), none, .nilck (.t 22)⟩,
  ⟨(some 29), none, .faddr 7 (.t 28)⟩,
  ⟨none, none, .store 1 (.t 29) (.c .nilp)⟩,
  ⟨(some 30), none, .nilck (.t 23)⟩,
  ⟨(some 31), none, .faddr 8 (.t 30)⟩,
  ⟨none, none, .store 1 (.t 31) (.c (.sl .clip []))⟩,
  ⟨(some 32), none, .nilck (.t 24)⟩,
  ⟨(some 33), none, .faddr 9 (.t 32)⟩,
  ⟨none, none, .store 1 (.t 33) (.c .nilp)⟩,
  ⟨(some 34), none, .nilck (.t 25)⟩,
  ⟨(some 35), none, .faddr 10 (.t 34)⟩,
  ⟨none, none, .store 1 (.t 35) (.c (.bool false))⟩])),
  [], false, false, 36⟩
theorem co74 : compF Tryd.prog ⟨[], [(1, [0, 7, 8, 9], [])], [], [], [], [], 74, [], [], []⟩ false false Tryd.f74 = some ac74 := by kernel_rfl

/-- paideia/paideiasee.sentinels -/
def ac75 : AF := ⟨(.seq (.reg [⟨(some 0), none, .mov (.c (.sl .clip []))⟩])
 (.seq (.reg [⟨(some 1), none, .gload 5⟩,
  ⟨(some 2), none, .gload 6⟩,
  ⟨(some 3), none, .gload 7⟩,
  ⟨(some 4), none, .gload 8⟩,
  ⟨(some 5), none, .gload 9⟩,
  ⟨(some 6), none, .gload 10⟩,
  ⟨(some 7), none, .gload 11⟩,
  ⟨(some 8), none, .gload 12⟩,
  ⟨(some 9), none, .gload 13⟩,
  ⟨(some 10), none, .gload 14⟩,
  ⟨(some 11), none, .gload 0⟩,
  ⟨(some 12), none, .gload 3⟩,
  ⟨(some 13), none, .gload 15⟩,
  ⟨(some 14), none, .gload 4⟩,
  ⟨(some 15), none, .gload 1⟩,
  ⟨(some 16), none, .bslice [.nili] 15 [(0, (.t 1)), (1, (.t 2)), (2, (.t 3)), (3, (.t 4)), (4, (.t 5)), (5, (.t 6)), (6, (.t 7)), (7, (.t 8)), (8, (.t 9)), (9, (.t 10)), (10, (.t 11)), (11, (.t 12)), (12, (.t 13)), (13, (.t 14)), (14, (.t 15))]⟩,
  ⟨(some 0), none, .mov (.t 16)⟩])
 .ret)),
  [.t 0], false, true, 17⟩
theorem co75 : compF Tryd.prog ⟨[], [], [], [5, 6, 7, 8, 9, 10, 11, 12, 13, 14, 0, 3, 15, 4, 1], [], [], 75, [], [], []⟩ false true Tryd.f75 = some ac75 := by kernel_rfl

/-- paideia/paideiasee.Alike -/
def ac76 : AF := ⟨(.seq (.reg [⟨(some 4), none, .mov (.c (.bool false))⟩])
 (.seq (.seq (.reg [⟨(some 5), none, .mov (.t 0)⟩,
  ⟨(some 6), none, .eqnil .iface false (.t 5)⟩,
  ⟨(some 7), none, .mov (.t 6)⟩,
  ⟨(some 8), (some (7, false)), .mov (.t 1)⟩,
  ⟨(some 9), (some (7, false)), .eqnil .iface false (.t 8)⟩,
  ⟨(some 10), none, .pick (.t 7) (.c (.bool true)) (.t 9)⟩])
 (.cond (.t 10) (.seq (.reg [⟨(some 11), none, .mov (.t 0)⟩,
  ⟨(some 12), none, .eqnil .iface false (.t 11)⟩,
  ⟨(some 13), none, .mov (.t 12)⟩,
  ⟨(some 14), (some (13, true)), .mov (.t 1)⟩,
  ⟨(some 15), (some (13, true)), .eqnil .iface false (.t 14)⟩,
  ⟨(some 16), none, .pick (.t 13) (.t 15) (.c (.bool false))⟩,
  ⟨(some 4), none, .mov (.t 16)⟩])
 .ret)
 .skip))
 (.seq (.reg [⟨(some 17), none, .mov (.t 0)⟩,
  ⟨(some 18), none, .mov (.t 1)⟩,
  ⟨(some 19), none, .eqi [0, 1, 3, 4, 5, 6, 7, 8, 9, 10, 11, 12, 13, 14, 15] false (.t 17) (.t 18)⟩,
  ⟨(some 4), none, .mov (.t 19)⟩])
 .ret))),
  [.t 4], false, true, 20⟩
theorem co76 : compF Tryd.prog ⟨[], [], [], [0, 1, 3, 4, 5, 6, 7, 8, 9, 10, 11, 12, 13, 14, 15, 1000175, 2000002], [], [], 76, [], [], []⟩ false true Tryd.f76 = some ac76 := by kernel_rfl

/-- strconv.Itoa -/
def ac79 : AF := ⟨(.seq (.reg [⟨(some 2), none, .mov (.c (.str []))⟩])
 (.seq (.reg [⟨(some 3), none, .mov (.t 0)⟩,
  ⟨(some 4), none, .call 0 [] (.c (.fn 88 [])) [(.t 3)]⟩,
  ⟨(some 2), none, .mov (.t 4)⟩])
 .ret)),
  [.t 2], false, true, 5⟩
theorem co79 : compF Tryd.prog ⟨[], [], [], [], [], [], 79, [], [], []⟩ false true Tryd.f79 = some ac79 := by kernel_rfl

/-- (*paideia/machine.Machine).hands -/
def ac80 : AF := ⟨(.reg [⟨(some 4), none, .mov (.t 0)⟩,
  ⟨(some 5), none, .mov (.t 0)⟩,
  ⟨(some 6), none, .mov (.t 0)⟩,
  ⟨(some 7), none, .mov (.t 1)⟩,
  ⟨(some 8), none, .nilck (.t 4)⟩,
  ⟨(some 9), none, .faddr 7 (.t 8)⟩,
  ⟨none, none, .store 1 (.t 9) (.c .nilp)⟩,
  ⟨(some 10), none, .nilck (.t 5)⟩,
  ⟨(some 11), none, .faddr 8 (.t 10)⟩,
  ⟨none, none, .store 1 (.t 11) (.c (.sl .clip []))⟩,
  ⟨(some 12), none, .nilck (.t 6)⟩,
  ⟨(some 13), none, .faddr 9 (.t 12)⟩,
  ⟨none, none, .store 1 (.t 13) (.t 7)⟩]),
  [], false, false, 14⟩
theorem co80 : compF Tryd.prog ⟨[], [], [], [], [], [], 80, [], [], []⟩ false false Tryd.f80 = some ac80 := by kernel_rfl

/-- (*paideia/machine.Machine).enters -/
def ac81 : AF := ⟨(.seq (.reg [⟨(some 9), none, .mov (.t 1)⟩,
  ⟨(some 10), none, .nilck (.t 9)⟩,
  ⟨(some 11), none, .faddr 1 (.t 10)⟩,
  ⟨(some 12), none, .load none (.t 11)⟩,
  ⟨(some 13), none, .mkarr [.nilp] (.t 12) (.t 12)⟩,
  ⟨(some 8), none, .mov (.t 13)⟩])
 (.seq (.reg [⟨(some 14), none, .mov (.t 8)⟩,
  ⟨(some 15), none, .mov (.t 2)⟩,
  ⟨(some 16), none, .copyM 1 (.t 14) (.t 15)⟩])
 (.seq (.seq (.reg [⟨(some 17), none, .mov (.t 1)⟩,
  ⟨(some 18), none, .nilck (.t 17)⟩,
  ⟨(some 19), none, .faddr 2 (.t 18)⟩,
  ⟨(some 20), none, .load none (.t 19)⟩,
  ⟨(some 21), none, .bin .geq (.t 20) (.c (.int .i64 0))⟩])
 (.cond (.t 21) (.reg [⟨(some 22), none, .mov (.t 8)⟩,
  ⟨(some 23), none, .mov (.t 1)⟩,
  ⟨(some 24), none, .nilck (.t 23)⟩,
  ⟨(some 25), none, .faddr 2 (.t 24)⟩,
  ⟨(some 26), none, .load none (.t 25)⟩,
  ⟨(some 27), none, .mov (.t 3)⟩,
  ⟨(some 28), none, .iaddr 1 (.t 22) (.t 26)⟩,
  ⟨none, none, .store 1 (.t 28) (.t 27)⟩])
 .skip))
 (.reg [⟨(some 29), none, .mov (.t 0)⟩,
  ⟨(some 30), none, .mov (.t 0)⟩,
  ⟨(some 31), none, .mov (.t 1)⟩,
  ⟨(some 32), none, .nilck (.t 31)⟩,
  ⟨(some 33), none, .faddr 3 (.t 32)⟩,
  ⟨(some 34), none, .load none (.t 33)⟩,
  ⟨(some 35), none, .mov (.t 8)⟩,
  ⟨(some 36), none, .nilck (.t 29)⟩,
  ⟨(some 37), none, .faddr 7 (.t 36)⟩,
  ⟨none, none, .store 1 (.t 37) (.t 34)⟩,
  ⟨(some 38), none, .nilck (.t 30)⟩,
  ⟨(some 39), none, .faddr 8 (.t 38)⟩,
  ⟨none, none, .store 1 (.t 39) (.t 35)⟩])))),
  [], false, false, 40⟩
theorem co81 : compF Tryd.prog ⟨[], [], [], [], [], [13, 16], 81, [], [], []⟩ false false Tryd.f81 = some ac81 := by kernel_rfl

/-- (*paideia/machine.Machine).argument -/
def ac82 : AF := ⟨(.seq (.reg [⟨(some 4), none, .mov (.c .nilp)⟩])
 (.seq (.seq (.reg [⟨(some 6), none, .mov (.t 1)⟩,
  ⟨(some 7), none, .nilck (.t 6)⟩,
  ⟨(some 8), none, .faddr 0 (.t 7)⟩,
  ⟨(some 9), none, .load none (.t 8)⟩,
  ⟨(some 10), none, .bin .eql (.t 9) (.c (.int .i64 1))⟩])
 (.cond (.t 10) (.seq (.seq (.reg [⟨(some 11), none, .mov (.t 1)⟩,
  ⟨(some 12), none, .nilck (.t 11)⟩,
  ⟨(some 13), none, .faddr 3 (.t 12)⟩,
  ⟨(some 14), none, .load none (.t 13)⟩,
  ⟨(some 15), none, .bin .lss (.t 14) (.c (.int .i64 0))⟩])
 (.cond (.t 15) (.seq (.reg [⟨(some 16), none, .mov (.t 1)⟩,
  ⟨(some 17), none, .build [(.sl .clip []), (.int .i64 0), (.int .i64 0), .nilp] [(2, 1, (.c (.int .i64 (-1)))), (3, 1, (.t 16))]⟩,
  ⟨(some 18), none, .box (.t 17) 4 true⟩,
  ⟨(some 19), none, .build [.nilp, (.bool false), .nilp, (.sl .clip [])] [(2, 1, (.t 18))]⟩,
  ⟨(some 20), none, .box (.t 19) 4 true⟩,
  ⟨(some 4), none, .mov (.t 20)⟩])
 .ret)
 .skip))
 (.seq (.reg [⟨(some 21), none, .mov (.t 0)⟩,
  ⟨(some 22), none, .nilck (.t 21)⟩,
  ⟨(some 23), none, .faddr 8 (.t 22)⟩,
  ⟨(some 24), none, .load none (.t 23)⟩,
  ⟨(some 25), none, .mov (.t 1)⟩,
  ⟨(some 26), none, .nilck (.t 25)⟩,
  ⟨(some 27), none, .faddr 3 (.t 26)⟩,
  ⟨(some 28), none, .load none (.t 27)⟩,
  ⟨(some 29), none, .iaddr 1 (.t 24) (.t 28)⟩,
  ⟨(some 30), none, .load none (.t 29)⟩,
  ⟨(some 4), none, .mov (.t 30)⟩])
 .ret))
 .skip))
 (.seq (.reg [⟨(some 31), none, .mov (.t 0)⟩,
  ⟨(some 32), none, .call 0 [] (.c (.fn 89 [])) [(.t 31)]⟩,
  ⟨(some 5), none, .mov (.t 32)⟩])
 (.seq (.seq (.reg [⟨(some 33), none, .mov (.t 5)⟩,
  ⟨(some 34), none, .eqnil .ptr true (.t 33)⟩])
 (.cond (.t 34) (.reg [⟨(some 35), none, .mov (.t 5)⟩,
  ⟨(some 36), none, .mov (.t 1)⟩,
  ⟨(some 37), none, .nilck (.t 36)⟩,
  ⟨(some 38), none, .faddr 0 (.t 37)⟩,
  ⟨(some 39), none, .load none (.t 38)⟩,
  ⟨(some 40), none, .mov (.t 1)⟩,
  ⟨(some 41), none, .nilck (.t 40)⟩,
  ⟨(some 42), none, .faddr 1 (.t 41)⟩,
  ⟨(some 43), none, .load none (.t 42)⟩,
  ⟨(some 44), none, .build [(.int .i64 0), (.int .i64 0), (.str []), (.sl .clip []), .nilp, (.sl .clip [])] [(0, 1, (.t 39)), (1, 1, (.t 43))]⟩,
  ⟨(some 45), none, .box (.t 44) 6 true⟩,
  ⟨(some 46), none, .nilck (.t 35)⟩,
  ⟨(some 47), none, .faddr 0 (.t 46)⟩,
  ⟨none, none, .store 1 (.t 47) (.t 45)⟩])
 .skip))
 (.seq (.reg [⟨(some 48), none, .mov (.t 5)⟩,
  ⟨(some 4), none, .mov (.t 48)⟩])
 .ret))))),
  [.t 4], false, false, 49⟩
theorem co82 : compF Tryd.prog ⟨[18, 20, 45], [], [], [], [], [], 82, [], [], [0, 1]⟩ false false Tryd.f82 = some ac82 := by kernel_rfl

/-- paideia/machine.picks -/
def ac83 : AF := ⟨(.seq (.reg [⟨(some 4), none, .mov (.c (.sl .clip []))⟩])
 (.seq (.reg [⟨(some 8), none, .mov (.t 0)⟩,
  ⟨(some 9), none, .nilck (.t 8)⟩,
  ⟨(some 10), none, .faddr 0 (.t 9)⟩,
  ⟨(some 11), none, .load none (.t 10)⟩,
  ⟨(some 12), none, .len 1 (.t 11)⟩,
  ⟨(some 13), none, .mkslice [.nilp] (.c (.int .i64 0)) (.t 12)⟩,
  ⟨(some 5), none, .mov (.t 13)⟩])
 (.seq (.seq (.reg [⟨(some 14), none, .mov (.t 0)⟩,
  ⟨(some 15), none, .nilck (.t 14)⟩,
  ⟨(some 16), none, .faddr 0 (.t 15)⟩,
  ⟨(some 17), none, .load none (.t 16)⟩,
  ⟨(some 18), none, .len 1 (.t 17)⟩,
  ⟨(some 19), none, .mov (.c (.int .i64 0))⟩])
 (.block 0 (.loop [1, 5, 17, 18, 19] [] (.seq (.reg [⟨(some 20), none, .bin .lss (.t 19) (.t 18)⟩])
 (.seq (.cond (.t 20) .skip
 (.exit 0))
 (.seq (.block 1 (.seq (.reg [⟨(some 21), none, .iaddr 1 (.t 17) (.t 19)⟩,
  ⟨(some 22), none, .load none (.t 21)⟩,
  ⟨(some 7), none, .mov (.t 22)⟩])
 (.reg [⟨(some 23), none, .mov (.t 5)⟩,
  ⟨(some 24), none, .mov (.t 1)⟩,
  ⟨(some 25), none, .mov (.t 7)⟩,
  ⟨(some 26), none, .iaddr 1 (.t 24) (.t 25)⟩,
  ⟨(some 27), none, .load none (.t 26)⟩,
  ⟨(some 28), none, .bslice [.nilp] 1 [(0, (.t 27))]⟩,
  ⟨(some 29), none, .append 1 (.t 23) (.t 28)⟩,
  ⟨(some 5), none, .mov (.t 29)⟩])))
 (.reg [⟨(some 30), none, .bin .add (.t 19) (.c (.int .i64 1))⟩,
  ⟨(some 19), none, .mov (.t 30)⟩])))))))
 (.seq (.reg [⟨(some 31), none, .mov (.t 5)⟩,
  ⟨(some 4), none, .mov (.t 31)⟩])
 .ret)))),
  [.t 4], false, true, 32⟩
theorem co83 : compF Tryd.prog ⟨[], [(3, [1, 5, 17, 18, 19], [])], [], [], [], [], 83, [], [], []⟩ false true Tryd.f83 = some ac83 := by kernel_rfl

/-- (*paideia/machine.Machine).lets -/
def ac84 : AF := ⟨(.seq (.seq (.reg [⟨(some 9), none, .mov (.t 1)⟩,
  ⟨(some 10), none, .nilck (.t 9)⟩,
  ⟨(some 11), none, .faddr 6 (.t 10)⟩,
  ⟨(some 12), none, .load none (.t 11)⟩,
  ⟨(some 13), none, .len 1 (.t 12)⟩,
  ⟨(some 14), none, .mov (.c (.int .i64 0))⟩])
 (.block 0 (.loop [0, 1, 12, 13, 14] [] (.seq (.reg [⟨(some 15), none, .bin .lss (.t 14) (.t 13)⟩])
 (.seq (.cond (.t 15) .skip
 (.exit 0))
 (.seq (.block 1 (.seq (.reg [⟨(some 16), none, .iaddr 1 (.t 12) (.t 14)⟩,
  ⟨(some 17), none, .load none (.t 16)⟩,
  ⟨(some 5), none, .mov (.t 17)⟩])
 (.seq (.reg [⟨(some 18), none, .mov (.t 0)⟩,
  ⟨(some 19), none, .call 0 [] (.c (.fn 89 [])) [(.t 18)]⟩,
  ⟨(some 6), none, .mov (.t 19)⟩])
 (.seq (.seq (.reg [⟨(some 20), none, .mov (.t 6)⟩,
  ⟨(some 21), none, .eqnil .ptr false (.t 20)⟩])
 (.cond (.t 21) .ret
 .skip))
 (.reg [⟨(some 22), none, .mov (.t 0)⟩,
  ⟨(some 23), none, .nilck (.t 22)⟩,
  ⟨(some 24), none, .faddr 8 (.t 23)⟩,
  ⟨(some 25), none, .load none (.t 24)⟩,
  ⟨(some 26), none, .mov (.t 5)⟩,
  ⟨(some 27), none, .mov (.t 6)⟩,
  ⟨(some 28), none, .iaddr 1 (.t 25) (.t 26)⟩,
  ⟨none, none, .store 1 (.t 28) (.t 27)⟩])))))
 (.reg [⟨(some 29), none, .bin .add (.t 14) (.c (.int .i64 1))⟩,
  ⟨(some 14), none, .mov (.t 29)⟩])))))))
 (.seq (.seq (.reg [⟨(some 30), none, .mov (.t 1)⟩,
  ⟨(some 31), none, .nilck (.t 30)⟩,
  ⟨(some 32), none, .faddr 6 (.t 31)⟩,
  ⟨(some 33), none, .load none (.t 32)⟩,
  ⟨(some 34), none, .len 1 (.t 33)⟩,
  ⟨(some 35), none, .mov (.c (.int .i64 0))⟩])
 (.block 2 (.loop [0, 1, 33, 34, 35] [] (.seq (.reg [⟨(some 36), none, .bin .lss (.t 35) (.t 34)⟩])
 (.seq (.cond (.t 36) .skip
 (.exit 2))
 (.seq (.block 3 (.seq (.reg [⟨(some 37), none, .mov (.t 35)⟩,
  ⟨(some 38), none, .iaddr 1 (.t 33) (.t 35)⟩,
  ⟨(some 39), none, .load none (.t 38)⟩,
  ⟨(some 7), none, .mov (.t 37)⟩,
  ⟨(some 8), none, .mov (.t 39)⟩])
 (.reg [⟨(some 40), none, .mov (.t 0)⟩,
  ⟨(some 41), none, .nilck (.t 40)⟩,
  ⟨(some 42), none, .faddr 8 (.t 41)⟩,
  ⟨(some 43), none, .loadX false none (.t 42) [] [(.t 0)]⟩,
  ⟨(some 44), none, .mov (.t 8)⟩,
  ⟨(some 45), none, .iaddr 1 (.t 43) (.t 44)⟩,
  ⟨(some 46), none, .load none (.t 45)⟩,
  ⟨(some 47), none, .mov (.t 0)⟩,
  ⟨(some 48), none, .nilck (.t 47)⟩,
  ⟨(some 49), none, .faddr 8 (.t 48)⟩,
  ⟨(some 50), none, .loadX false none (.t 49) [] [(.t 0)]⟩,
  ⟨(some 51), none, .mov (.t 8)⟩,
  ⟨(some 52), none, .iaddr 1 (.t 50) (.t 51)⟩,
  ⟨(some 53), none, .load none (.t 52)⟩,
  ⟨(some 54), none, .mov (.t 1)⟩,
  ⟨(some 55), none, .nilck (.t 54)⟩,
  ⟨(some 56), none, .faddr 7 (.t 55)⟩,
  ⟨(some 57), none, .loadX false none (.t 56) [] [(.t 1)]⟩,
  ⟨(some 58), none, .mov (.t 7)⟩,
  ⟨(some 59), none, .iaddr 1 (.t 57) (.t 58)⟩,
  ⟨(some 60), none, .load none (.t 59)⟩,
  ⟨(some 61), none, .mov (.t 1)⟩,
  ⟨(some 62), none, .nilck (.t 61)⟩,
  ⟨(some 63), none, .faddr 7 (.t 62)⟩,
  ⟨(some 64), none, .load none (.t 63)⟩,
  ⟨(some 65), none, .mov (.t 7)⟩,
  ⟨(some 66), none, .iaddr 1 (.t 64) (.t 65)⟩,
  ⟨(some 67), none, .load none (.t 66)⟩,
  ⟨(some 68), none, .mov (.t 0)⟩,
  ⟨(some 69), none, .nilck (.t 68)⟩,
  ⟨(some 70), none, .faddr 8 (.t 69)⟩,
  ⟨(some 71), none, .load none (.t 70)⟩,
  ⟨(some 72), none, .callK 0 [] (.c (.fn 83 [])) [(.t 67), (.t 71)] [(.t 0), (.c .nilfn), (.t 0), (.c .nilfn), (.t 1), (.c .nilfn)]⟩,
  ⟨(some 73), none, .nilck (.t 46)⟩,
  ⟨(some 74), none, .faddr 2 (.t 73)⟩,
  ⟨none, none, .store 1 (.t 74) (.t 60)⟩,
  ⟨(some 75), none, .nilck (.t 53)⟩,
  ⟨(some 76), none, .faddr 3 (.t 75)⟩,
  ⟨none, none, .store 1 (.t 76) (.t 72)⟩])))
 (.reg [⟨(some 77), none, .bin .add (.t 35) (.c (.int .i64 1))⟩,
  ⟨(some 35), none, .mov (.t 77)⟩])))))))
 (.reg [⟨(some 78), none, .mov (.t 0)⟩,
  ⟨(some 79), none, .mov (.t 1)⟩,
  ⟨(some 80), none, .nilck (.t 79)⟩,
  ⟨(some 81), none, .faddr 4 (.t 80)⟩,
  ⟨(some 82), none, .load none (.t 81)⟩,
  ⟨(some 83), none, .nilck (.t 78)⟩,
  ⟨(some 84), none, .faddr 7 (.t 83)⟩,
  ⟨none, none, .store 1 (.t 84) (.t 82)⟩]))),
  [], false, false, 85⟩
theorem co84 : compF Tryd.prog ⟨[], [(1, [0, 1, 12, 13, 14], []), (8, [0, 1, 33, 34, 35], [])], [], [], [], [], 84, [], [], [0, 1, 45, 52, 59, 66]⟩ false false Tryd.f84 = some ac84 := by kernel_rfl

/-- (*paideia/machine.Machine).applies -/
def ac85 : AF := ⟨(.seq (.reg [⟨(some 9), none, .mov (.t 0)⟩,
  ⟨(some 10), none, .nilck (.t 9)⟩,
  ⟨(some 11), none, .faddr 9 (.t 10)⟩,
  ⟨(some 12), none, .load none (.t 11)⟩,
  ⟨(some 4), none, .mov (.t 12)⟩])
 (.seq (.reg [⟨(some 13), none, .mov (.t 4)⟩,
  ⟨(some 14), none, .nilck (.t 13)⟩,
  ⟨(some 15), none, .faddr 0 (.t 14)⟩,
  ⟨(some 16), none, .load none (.t 15)⟩])
 (.block 0 (.seq (.reg [⟨(some 22), none, .bin .eql (.t 16) (.c (.int .i64 6))⟩,
  ⟨(some 21), none, .mov (.t 22)⟩])
 (.cond (.t 21) (.reg [⟨(some 23), none, .mov (.t 0)⟩,
  ⟨(some 24), none, .mov (.t 4)⟩,
  ⟨(some 25), none, .nilck (.t 24)⟩,
  ⟨(some 26), none, .faddr 4 (.t 25)⟩,
  ⟨(some 27), none, .load none (.t 26)⟩,
  ⟨(some 28), none, .mov (.t 4)⟩,
  ⟨(some 29), none, .nilck (.t 28)⟩,
  ⟨(some 30), none, .faddr 5 (.t 29)⟩,
  ⟨(some 31), none, .load none (.t 30)⟩,
  ⟨(some 32), none, .mov (.t 1)⟩,
  ⟨(some 33), none, .call 0 [] (.c (.fn 81 [])) [(.t 23), (.t 27), (.t 31), (.t 32)]⟩])
 (.seq (.reg [⟨(some 35), none, .bin .eql (.t 16) (.c (.int .i64 2))⟩,
  ⟨(some 34), none, .mov (.t 35)⟩])
 (.cond (.t 34) (.reg [⟨(some 36), none, .mov (.t 0)⟩,
  ⟨(some 37), none, .mov (.t 4)⟩,
  ⟨(some 38), none, .nilck (.t 37)⟩,
  ⟨(some 39), none, .faddr 2 (.t 38)⟩,
  ⟨(some 40), none, .loadX false none (.t 39) [] [(.t 4)]⟩,
  ⟨(some 41), none, .mov (.t 4)⟩,
  ⟨(some 42), none, .nilck (.t 41)⟩,
  ⟨(some 43), none, .faddr 3 (.t 42)⟩,
  ⟨(some 44), none, .load none (.t 43)⟩,
  ⟨(some 45), none, .callK 0 [] (.c (.fn 90 [])) [(.t 44)] [(.t 4)]⟩,
  ⟨(some 46), none, .mov (.t 1)⟩,
  ⟨(some 47), none, .bslice [.nilp] 1 [(0, (.t 46))]⟩,
  ⟨(some 48), none, .append 1 (.t 45) (.t 47)⟩,
  ⟨(some 49), none, .build [(.int .i64 0), (.int .i64 0), (.str []), (.sl .clip []), .nilp, (.sl .clip [])] [(0, 1, (.c (.int .i64 2))), (2, 1, (.t 40)), (3, 1, (.t 48))]⟩,
  ⟨(some 50), none, .box (.t 49) 6 true⟩,
  ⟨(some 51), none, .call 0 [] (.c (.fn 80 [])) [(.t 36), (.t 50)]⟩])
 (.seq (.reg [⟨(some 53), none, .bin .eql (.t 16) (.c (.int .i64 11))⟩,
  ⟨(some 52), none, .mov (.t 53)⟩])
 (.cond (.t 52) (.seq (.reg [⟨(some 54), none, .mov (.t 4)⟩,
  ⟨(some 55), none, .nilck (.t 54)⟩,
  ⟨(some 56), none, .faddr 3 (.t 55)⟩,
  ⟨(some 57), none, .load none (.t 56)⟩,
  ⟨(some 58), none, .call 0 [] (.c (.fn 90 [])) [(.t 57)]⟩,
  ⟨(some 59), none, .mov (.t 1)⟩,
  ⟨(some 60), none, .bslice [.nilp] 1 [(0, (.t 59))]⟩,
  ⟨(some 61), none, .append 1 (.t 58) (.t 60)⟩,
  ⟨(some 5), none, .mov (.t 61)⟩])
 (.seq (.reg [⟨(some 63), none, .mov (.t 4)⟩,
  ⟨(some 64), none, .nilck (.t 63)⟩,
  ⟨(some 65), none, .faddr 2 (.t 64)⟩,
  ⟨(some 66), none, .load none (.t 65)⟩,
  ⟨(some 67), none, .call 0 [] (.c (.fn 91 [])) [(.t 66)]⟩,
  ⟨(some 62), none, .mov (.t 67)⟩,
  ⟨(some 68), none, .extract (.t 62) 0⟩,
  ⟨(some 69), none, .extract (.t 62) 1⟩,
  ⟨(some 70), none, .extract (.t 62) 2⟩,
  ⟨(some 6), none, .alloc [(.int .i64 0), (.str []), (.sl .clip [])] false⟩,
  ⟨none, none, .store 3 (.t 6) (.t 68)⟩,
  ⟨(some 7), none, .mov (.t 69)⟩,
  ⟨(some 8), none, .mov (.t 70)⟩])
 (.block 1 (.seq (.reg [⟨(some 92), none, .mov (.t 8)⟩,
  ⟨(some 93), none, .not (.t 92)⟩,
  ⟨(some 91), none, .mov (.t 93)⟩])
 (.cond (.t 91) (.reg [⟨(some 94), none, .mov (.t 0)⟩,
  ⟨(some 95), none, .gload 1⟩,
  ⟨(some 96), none, .nilck (.t 94)⟩,
  ⟨(some 97), none, .faddr 3 (.t 96)⟩,
  ⟨none, none, .store 1 (.t 97) (.t 95)⟩])
 (.seq (.reg [⟨(some 99), none, .mov (.t 5)⟩,
  ⟨(some 100), none, .len 1 (.t 99)⟩,
  ⟨(some 101), none, .mov (.t 7)⟩,
  ⟨(some 102), none, .bin .lss (.t 100) (.t 101)⟩,
  ⟨(some 98), none, .mov (.t 102)⟩])
 (.cond (.t 98) (.reg [⟨(some 103), none, .mov (.t 0)⟩,
  ⟨(some 104), none, .mov (.t 4)⟩,
  ⟨(some 105), none, .nilck (.t 104)⟩,
  ⟨(some 106), none, .faddr 2 (.t 105)⟩,
  ⟨(some 107), none, .load none (.t 106)⟩,
  ⟨(some 108), none, .mov (.t 5)⟩,
  ⟨(some 109), none, .build [(.int .i64 0), (.int .i64 0), (.str []), (.sl .clip []), .nilp, (.sl .clip [])] [(0, 1, (.c (.int .i64 11))), (2, 1, (.t 107)), (3, 1, (.t 108))]⟩,
  ⟨(some 110), none, .box (.t 109) 6 true⟩,
  ⟨(some 111), none, .call 0 [] (.c (.fn 80 [])) [(.t 103), (.t 110)]⟩])
 (.seq (.reg [⟨(some 71), none, .mov (.t 0)⟩,
  ⟨(some 72), none, .mov (.t 0)⟩,
  ⟨(some 73), none, .nilck (.t 72)⟩,
  ⟨(some 74), none, .faddr 6 (.t 73)⟩,
  ⟨(some 75), none, .load none (.t 74)⟩,
  ⟨(some 76), none, .mov (.t 4)⟩,
  ⟨(some 77), none, .nilck (.t 76)⟩,
  ⟨(some 78), none, .faddr 2 (.t 77)⟩,
  ⟨(some 79), none, .load none (.t 78)⟩,
  ⟨(some 80), none, .mov (.t 5)⟩,
  ⟨(some 81), none, .build [(.int .i64 0), .nilp, .nilp, (.sl .clip []), (.str []), (.sl .clip []), (.sl .clip [])] [(0, 1, (.c (.int .i64 4))), (4, 1, (.t 79)), (5, 1, (.t 80))]⟩,
  ⟨(some 82), none, .bslice [(.int .i64 0), .nilp, .nilp, (.sl .clip []), (.str []), (.sl .clip []), (.sl .clip [])] 1 [(0, (.t 81))]⟩,
  ⟨(some 83), none, .appV 7 (.t 75) (.t 82)⟩,
  ⟨(some 84), none, .nilck (.t 71)⟩,
  ⟨(some 85), none, .faddr 6 (.t 84)⟩,
  ⟨none, none, .store 1 (.t 85) (.t 83)⟩])
 (.reg [⟨(some 86), none, .mov (.t 0)⟩,
  ⟨(some 87), none, .mov (.t 5)⟩,
  ⟨(some 88), none, .iaddr 1 (.t 87) (.c (.int .i64 0))⟩,
  ⟨(some 89), none, .load none (.t 88)⟩,
  ⟨(some 90), none, .call 0 [] (.c (.fn 70 [])) [(.t 86), (.t 89)]⟩])))))))))
 (.reg [⟨(some 17), none, .mov (.t 0)⟩,
  ⟨(some 18), none, .gload 1⟩,
  ⟨(some 19), none, .nilck (.t 17)⟩,
  ⟨(some 20), none, .faddr 3 (.t 19)⟩,
  ⟨none, none, .store 1 (.t 20) (.t 18)⟩])))))))))),
  [], false, false, 112⟩
theorem co85 : compF Tryd.prog ⟨[50, 110], [], [], [1], [], [2000083], 85, [], [], [0, 1, 4]⟩ false false Tryd.f85 = some ac85 := by kernel_rfl

/-- (*paideia/machine.Machine).chooses -/
def ac86 : AF := ⟨(.seq (.reg [⟨(some 3), none, .box (.t 1) 7 false⟩])
 (.reg [⟨none, none, .stuck⟩])),
  [], false, false, 111⟩
theorem co86 : compF Tryd.prog ⟨[], [], [], [], [], [], 86, [], [], [0, 1]⟩ false false Tryd.f86 = some ac86 := by kernel_rfl

/-- (*paideia/machine.Machine).counts -/
def ac87 : AF := ⟨(.seq (.reg [⟨(some 3), none, .box (.t 1) 7 false⟩])
 (.seq (.seq (.reg [⟨(some 4), none, .mov (.t 0)⟩,
  ⟨(some 5), none, .nilck (.t 4)⟩,
  ⟨(some 6), none, .faddr 9 (.t 5)⟩,
  ⟨(some 7), none, .load none (.t 6)⟩,
  ⟨(some 8), none, .nilck (.t 7)⟩,
  ⟨(some 9), none, .faddr 0 (.t 8)⟩,
  ⟨(some 10), none, .load none (.t 9)⟩,
  ⟨(some 11), none, .bin .neq (.t 10) (.c (.int .i64 3))⟩,
  ⟨(some 12), none, .mov (.t 11)⟩,
  ⟨(some 13), (some (12, true)), .mov (.t 0)⟩,
  ⟨(some 14), (some (12, true)), .nilck (.t 13)⟩,
  ⟨(some 15), (some (12, true)), .faddr 9 (.t 14)⟩,
  ⟨(some 16), (some (12, true)), .load none (.t 15)⟩,
  ⟨(some 17), (some (12, true)), .nilck (.t 16)⟩,
  ⟨(some 18), (some (12, true)), .faddr 0 (.t 17)⟩,
  ⟨(some 19), (some (12, true)), .load none (.t 18)⟩,
  ⟨(some 20), (some (12, true)), .bin .neq (.t 19) (.c (.int .i64 4))⟩,
  ⟨(some 21), none, .pick (.t 12) (.t 20) (.c (.bool false))⟩])
 (.cond (.t 21) (.seq (.reg [⟨(some 22), none, .mov (.t 0)⟩,
  ⟨(some 23), none, .gload 1⟩,
  ⟨(some 24), none, .nilck (.t 22)⟩,
  ⟨(some 25), none, .faddr 3 (.t 24)⟩,
  ⟨none, none, .store 1 (.t 25) (.t 23)⟩])
 .ret)
 .skip))
 (.seq (.reg [⟨(some 26), none, .faddr 6 (.t 3)⟩,
  ⟨(some 27), none, .load none (.t 26)⟩,
  ⟨(some 28), none, .callK 0 [] (.c (.fn 92 [])) [(.t 27)] [(.t 0)]⟩,
  ⟨(some 29), none, .mov (.t 0)⟩,
  ⟨(some 30), none, .nilck (.t 29)⟩,
  ⟨(some 31), none, .faddr 9 (.t 30)⟩,
  ⟨(some 32), none, .loadX false none (.t 31) [] [(.t 0)]⟩,
  ⟨(some 33), none, .nilck (.t 32)⟩,
  ⟨(some 34), none, .faddr 1 (.t 33)⟩,
  ⟨(some 35), none, .loadL none (.t 34)⟩,
  ⟨(some 36), none, .bslice [(.int .i64 0)] 1 [(0, (.t 35))]⟩,
  ⟨(some 37), none, .append 1 (.t 28) (.t 36)⟩,
  ⟨(some 38), none, .faddr 6 (.t 3)⟩,
  ⟨none, none, .store 1 (.t 38) (.t 37)⟩])
 (.seq (.seq (.reg [⟨(some 39), none, .faddr 6 (.t 3)⟩,
  ⟨(some 40), none, .load none (.t 39)⟩,
  ⟨(some 41), none, .len 1 (.t 40)⟩,
  ⟨(some 42), none, .faddr 5 (.t 3)⟩,
  ⟨(some 43), none, .load none (.t 42)⟩,
  ⟨(some 44), none, .len 1 (.t 43)⟩,
  ⟨(some 45), none, .bin .lss (.t 41) (.t 44)⟩])
 (.cond (.t 45) (.seq (.reg [⟨(some 46), none, .mov (.t 0)⟩,
  ⟨(some 47), none, .mov (.t 0)⟩,
  ⟨(some 48), none, .nilck (.t 47)⟩,
  ⟨(some 49), none, .faddr 6 (.t 48)⟩,
  ⟨(some 50), none, .load none (.t 49)⟩,
  ⟨(some 51), none, .load (some 7) (.t 3)⟩,
  ⟨(some 52), none, .bslice [(.int .i64 0), .nilp, .nilp, (.sl .clip []), (.str []), (.sl .clip []), (.sl .clip [])] 1 [(0, (.t 51))]⟩,
  ⟨(some 53), none, .appV 7 (.t 50) (.t 52)⟩,
  ⟨(some 54), none, .nilck (.t 46)⟩,
  ⟨(some 55), none, .faddr 6 (.t 54)⟩,
  ⟨none, none, .store 1 (.t 55) (.t 53)⟩])
 (.seq (.reg [⟨(some 56), none, .mov (.t 0)⟩,
  ⟨(some 57), none, .faddr 5 (.t 3)⟩,
  ⟨(some 58), none, .load none (.t 57)⟩,
  ⟨(some 59), none, .faddr 6 (.t 3)⟩,
  ⟨(some 60), none, .load none (.t 59)⟩,
  ⟨(some 61), none, .len 1 (.t 60)⟩,
  ⟨(some 62), none, .iaddr 1 (.t 58) (.t 61)⟩,
  ⟨(some 63), none, .load none (.t 62)⟩,
  ⟨(some 64), none, .call 0 [] (.c (.fn 70 [])) [(.t 56), (.t 63)]⟩])
 .ret))
 .skip))
 (.reg [⟨(some 65), none, .mov (.t 0)⟩,
  ⟨(some 66), none, .faddr 4 (.t 3)⟩,
  ⟨(some 67), none, .load none (.t 66)⟩,
  ⟨(some 68), none, .faddr 6 (.t 3)⟩,
  ⟨(some 69), none, .load none (.t 68)⟩,
  ⟨(some 70), none, .call 0 [] (.c (.fn 93 [])) [(.t 67), (.t 69)]⟩,
  ⟨(some 71), none, .call 0 [] (.c (.fn 80 [])) [(.t 65), (.t 70)]⟩]))))),
  [], false, false, 72⟩
theorem co87 : compF Tryd.prog ⟨[], [], [], [1], [], [2000053], 87, [], [], [0, 1]⟩ false false Tryd.f87 = some ac87 := by kernel_rfl

/-- internal/strconv.Itoa -/
def ac88 : AF := ⟨(.seq (.reg [⟨(some 2), none, .mov (.c (.str []))⟩])
 (.seq (.reg [⟨(some 3), none, .mov (.t 0)⟩,
  ⟨(some 4), none, .call 0 [] (.c (.fn 19 [])) [(.t 3), (.c (.int .i64 10))]⟩,
  ⟨(some 2), none, .mov (.t 4)⟩])
 .ret)),
  [.t 2], false, true, 5⟩
theorem co88 : compF Tryd.prog ⟨[], [], [], [], [], [], 88, [], [], []⟩ false true Tryd.f88 = some ac88 := by kernel_rfl

/-- (*paideia/machine.Machine).take -/
def ac89 : AF := ⟨(.seq (.reg [⟨(some 2), none, .mov (.c .nilp)⟩])
 (.seq (.seq (.reg [⟨(some 3), none, .mov (.t 0)⟩,
  ⟨(some 4), none, .nilck (.t 3)⟩,
  ⟨(some 5), none, .faddr 1 (.t 4)⟩,
  ⟨(some 6), none, .load none (.t 5)⟩,
  ⟨(some 7), none, .mov (.t 0)⟩,
  ⟨(some 8), none, .nilck (.t 7)⟩,
  ⟨(some 9), none, .faddr 0 (.t 8)⟩,
  ⟨(some 10), none, .load none (.t 9)⟩,
  ⟨(some 11), none, .bin .geq (.t 6) (.t 10)⟩])
 (.cond (.t 11) (.seq (.reg [⟨(some 12), none, .mov (.t 0)⟩,
  ⟨(some 13), none, .gload 15⟩,
  ⟨(some 14), none, .nilck (.t 12)⟩,
  ⟨(some 15), none, .faddr 3 (.t 14)⟩,
  ⟨none, none, .store 1 (.t 15) (.t 13)⟩])
 (.seq (.reg [⟨(some 2), none, .mov (.c .nilp)⟩])
 .ret))
 .skip))
 (.seq (.reg [⟨(some 16), none, .mov (.t 0)⟩,
  ⟨(some 17), none, .nilck (.t 16)⟩,
  ⟨(some 18), none, .faddr 1 (.t 17)⟩,
  ⟨(some 19), none, .load none (.t 18)⟩,
  ⟨(some 20), none, .bin .add (.t 19) (.c (.int .i64 1))⟩,
  ⟨(some 21), none, .nilck (.t 16)⟩,
  ⟨(some 22), none, .faddr 1 (.t 21)⟩,
  ⟨none, none, .store 1 (.t 22) (.t 20)⟩])
 (.seq (.reg [⟨(some 23), none, .build [.nilp, (.bool false), .nilp, (.sl .clip [])] []⟩,
  ⟨(some 24), none, .box (.t 23) 4 true⟩,
  ⟨(some 2), none, .mov (.t 24)⟩])
 .ret)))),
  [.t 2], false, false, 25⟩
theorem co89 : compF Tryd.prog ⟨[24], [], [], [15], [], [], 89, [], [], [0]⟩ false false Tryd.f89 = some ac89 := by kernel_rfl

/-- slices.Clip[[]*paideia/machine.cell,*paideia/machine.cell] -/
def ac90 : AF := ⟨(.seq (.reg [⟨(some 2), none, .mov (.c (.sl .clip []))⟩])
 (.seq (.reg [⟨(some 3), none, .mov (.t 0)⟩,
  ⟨(some 4), none, .mov (.t 0)⟩,
  ⟨(some 5), none, .len 1 (.t 4)⟩,
  ⟨(some 6), none, .mov (.t 0)⟩,
  ⟨(some 7), none, .len 1 (.t 6)⟩,
  ⟨(some 8), none, .slice 1 (.t 3) none (some (.t 5)) (some (.t 7))⟩,
  ⟨(some 2), none, .mov (.t 8)⟩])
 .ret)),
  [.t 2], true, false, 9⟩
theorem co90 : compF Tryd.prog ⟨[], [], [], [], [], [], 90, [], [], []⟩ true false Tryd.f90 = some ac90 := by kernel_rfl

/-- paideia/term.Prim -/
def ac91 : AF := ⟨(.seq (.reg [⟨(some 2), none, .alloc [(.int .i64 0), (.str []), (.sl .clip [])] false⟩,
  ⟨(some 3), none, .mov (.c (.int .i64 0))⟩,
  ⟨(some 4), none, .mov (.c (.bool false))⟩])
 (.seq (.reg [⟨(some 10), none, .call 0 [] (.c (.fn 94 [])) [(.c (.str [73, 110, 116])), (.c (.sl .clip []))]⟩,
  ⟨(some 11), none, .call 0 [] (.c (.fn 94 [])) [(.c (.str [67, 104, 97, 114])), (.c (.sl .clip []))]⟩,
  ⟨(some 12), none, .call 0 [] (.c (.fn 94 [])) [(.c (.str [66, 111, 111, 108])), (.c (.sl .clip []))]⟩,
  ⟨(some 5), none, .alloc [(.int .i64 0), (.str []), (.sl .clip [])] false⟩,
  ⟨(some 6), none, .alloc [(.int .i64 0), (.str []), (.sl .clip [])] false⟩,
  ⟨(some 7), none, .alloc [(.int .i64 0), (.str []), (.sl .clip [])] false⟩,
  ⟨none, none, .store 3 (.t 5) (.t 10)⟩,
  ⟨none, none, .store 3 (.t 6) (.t 11)⟩,
  ⟨none, none, .store 3 (.t 7) (.t 12)⟩])
 (.seq (.reg [⟨(some 13), none, .load (some 3) (.t 6)⟩,
  ⟨(some 14), none, .bslice [(.int .i64 0), (.str []), (.sl .clip [])] 1 [(0, (.t 13))]⟩,
  ⟨(some 15), none, .call 0 [] (.c (.fn 94 [])) [(.c (.str [76, 105, 115, 116])), (.t 14)]⟩,
  ⟨(some 8), none, .alloc [(.int .i64 0), (.str []), (.sl .clip [])] false⟩,
  ⟨none, none, .store 3 (.t 8) (.t 15)⟩])
 (.seq (.reg [⟨(some 9), none, .mov (.c (.sl .clip []))⟩])
 (.seq (.seq (.reg [⟨(some 16), none, .mov (.t 0)⟩])
 (.block 0 (.seq (.seq (.reg [⟨(some 19), none, .bin .eql (.t 16) (.c (.str [112, 114, 105, 109, 73, 110, 116, 69, 113]))⟩,
  ⟨(some 18), none, .mov (.t 19)⟩])
 (.cond (.t 18) .skip
 (.reg [⟨(some 20), none, .bin .eql (.t 16) (.c (.str [112, 114, 105, 109, 73, 110, 116, 76, 101, 115, 115]))⟩,
  ⟨(some 18), none, .mov (.t 20)⟩])))
 (.cond (.t 18) (.reg [⟨(some 21), none, .load (some 3) (.t 5)⟩,
  ⟨(some 22), none, .load (some 3) (.t 5)⟩,
  ⟨(some 23), none, .load (some 3) (.t 7)⟩,
  ⟨(some 24), none, .bslice [(.int .i64 0), (.str []), (.sl .clip [])] 3 [(0, (.t 21)), (1, (.t 22)), (2, (.t 23))]⟩,
  ⟨(some 9), none, .mov (.t 24)⟩])
 (.seq (.seq (.reg [⟨(some 26), none, .bin .eql (.t 16) (.c (.str [112, 114, 105, 109, 73, 110, 116, 65, 100, 100]))⟩,
  ⟨(some 25), none, .mov (.t 26)⟩])
 (.cond (.t 25) .skip
 (.seq (.reg [⟨(some 27), none, .bin .eql (.t 16) (.c (.str [112, 114, 105, 109, 73, 110, 116, 83, 117, 98]))⟩,
  ⟨(some 25), none, .mov (.t 27)⟩])
 (.cond (.t 25) .skip
 (.reg [⟨(some 28), none, .bin .eql (.t 16) (.c (.str [112, 114, 105, 109, 73, 110, 116, 77, 117, 108]))⟩,
  ⟨(some 25), none, .mov (.t 28)⟩])))))
 (.cond (.t 25) (.reg [⟨(some 29), none, .load (some 3) (.t 5)⟩,
  ⟨(some 30), none, .load (some 3) (.t 5)⟩,
  ⟨(some 31), none, .load (some 3) (.t 5)⟩,
  ⟨(some 32), none, .bslice [(.int .i64 0), (.str []), (.sl .clip [])] 3 [(0, (.t 29)), (1, (.t 30)), (2, (.t 31))]⟩,
  ⟨(some 9), none, .mov (.t 32)⟩])
 (.seq (.reg [⟨(some 34), none, .bin .eql (.t 16) (.c (.str [112, 114, 105, 109, 73, 110, 116, 83, 104, 111, 119]))⟩,
  ⟨(some 33), none, .mov (.t 34)⟩])
 (.cond (.t 33) (.reg [⟨(some 35), none, .load (some 3) (.t 5)⟩,
  ⟨(some 36), none, .load (some 3) (.t 8)⟩,
  ⟨(some 37), none, .bslice [(.int .i64 0), (.str []), (.sl .clip [])] 2 [(0, (.t 35)), (1, (.t 36))]⟩,
  ⟨(some 9), none, .mov (.t 37)⟩])
 (.seq (.seq (.reg [⟨(some 39), none, .bin .eql (.t 16) (.c (.str [112, 114, 105, 109, 67, 104, 97, 114, 69, 113]))⟩,
  ⟨(some 38), none, .mov (.t 39)⟩])
 (.cond (.t 38) .skip
 (.reg [⟨(some 40), none, .bin .eql (.t 16) (.c (.str [112, 114, 105, 109, 67, 104, 97, 114, 76, 101, 115, 115]))⟩,
  ⟨(some 38), none, .mov (.t 40)⟩])))
 (.cond (.t 38) (.reg [⟨(some 41), none, .load (some 3) (.t 6)⟩,
  ⟨(some 42), none, .load (some 3) (.t 6)⟩,
  ⟨(some 43), none, .load (some 3) (.t 7)⟩,
  ⟨(some 44), none, .bslice [(.int .i64 0), (.str []), (.sl .clip [])] 3 [(0, (.t 41)), (1, (.t 42)), (2, (.t 43))]⟩,
  ⟨(some 9), none, .mov (.t 44)⟩])
 (.seq (.reg [⟨(some 46), none, .bin .eql (.t 16) (.c (.str [112, 114, 105, 109, 67, 104, 97, 114, 83, 104, 111, 119]))⟩,
  ⟨(some 45), none, .mov (.t 46)⟩])
 (.cond (.t 45) (.reg [⟨(some 47), none, .load (some 3) (.t 6)⟩,
  ⟨(some 48), none, .load (some 3) (.t 8)⟩,
  ⟨(some 49), none, .bslice [(.int .i64 0), (.str []), (.sl .clip [])] 2 [(0, (.t 47)), (1, (.t 48))]⟩,
  ⟨(some 9), none, .mov (.t 49)⟩])
 (.seq (.reg [⟨(some 17), none, .build [(.int .i64 0), (.str []), (.sl .clip [])] []⟩,
  ⟨none, none, .store 3 (.t 2) (.t 17)⟩,
  ⟨(some 3), none, .mov (.c (.int .i64 0))⟩,
  ⟨(some 4), none, .mov (.c (.bool false))⟩])
 .ret)))))))))))))
 (.seq (.reg [⟨(some 50), none, .mov (.t 9)⟩,
  ⟨(some 51), none, .call 0 [] (.c (.fn 95 [])) [(.t 50)]⟩,
  ⟨(some 52), none, .mov (.t 9)⟩,
  ⟨(some 53), none, .len 1 (.t 52)⟩,
  ⟨(some 54), none, .bin .sub (.t 53) (.c (.int .i64 1))⟩,
  ⟨none, none, .store 3 (.t 2) (.t 51)⟩,
  ⟨(some 3), none, .mov (.t 54)⟩,
  ⟨(some 4), none, .mov (.c (.bool true))⟩])
 .ret)))))),
  [.cell 2 (some 3), .t 3, .t 4], false, true, 55⟩
theorem co91 : compF Tryd.prog ⟨[], [], [], [], [], [], 91, [], [], []⟩ false true Tryd.f91 = some ac91 := by kernel_rfl

/-- slices.Clip[[]int64,int64] -/
def ac92 : AF := ⟨(.seq (.reg [⟨(some 2), none, .mov (.c (.sl .clip []))⟩])
 (.seq (.reg [⟨(some 3), none, .mov (.t 0)⟩,
  ⟨(some 4), none, .mov (.t 0)⟩,
  ⟨(some 5), none, .len 1 (.t 4)⟩,
  ⟨(some 6), none, .mov (.t 0)⟩,
  ⟨(some 7), none, .len 1 (.t 6)⟩,
  ⟨(some 8), none, .slice 1 (.t 3) none (some (.t 5)) (some (.t 7))⟩,
  ⟨(some 2), none, .mov (.t 8)⟩])
 .ret)),
  [.t 2], true, false, 9⟩
theorem co92 : compF Tryd.prog ⟨[], [], [], [], [], [], 92, [], [], []⟩ true false Tryd.f92 = some ac92 := by kernel_rfl

/-- paideia/machine.result -/
def ac93 : AF := ⟨(.seq (.reg [⟨(some 4), none, .mov (.c .nilp)⟩])
 (.seq (.reg [⟨(some 13), none, .mov (.t 1)⟩,
  ⟨(some 14), none, .iaddr 1 (.t 13) (.c (.int .i64 0))⟩,
  ⟨(some 15), none, .load none (.t 14)⟩,
  ⟨(some 5), none, .mov (.t 15)⟩])
 (.seq (.reg [⟨(some 16), none, .mov (.t 1)⟩,
  ⟨(some 17), none, .mov (.t 1)⟩,
  ⟨(some 18), none, .len 1 (.t 17)⟩,
  ⟨(some 19), none, .bin .sub (.t 18) (.c (.int .i64 1))⟩,
  ⟨(some 20), none, .iaddr 1 (.t 16) (.t 19)⟩,
  ⟨(some 21), none, .load none (.t 20)⟩,
  ⟨(some 6), none, .mov (.t 21)⟩])
 (.seq (.seq (.reg [⟨(some 23), none, .mov (.t 0)⟩,
  ⟨(some 24), none, .mov (.t 5)⟩,
  ⟨(some 25), none, .mov (.t 6)⟩,
  ⟨(some 26), none, .call 0 [] (.c (.fn 96 [])) [(.t 23), (.t 24), (.t 25)]⟩,
  ⟨(some 22), none, .mov (.t 26)⟩,
  ⟨(some 27), none, .extract (.t 22) 0⟩,
  ⟨(some 28), none, .extract (.t 22) 1⟩,
  ⟨(some 7), none, .mov (.t 27)⟩,
  ⟨(some 8), none, .mov (.t 28)⟩])
 (.seq (.reg [⟨(some 29), none, .mov (.t 8)⟩])
 (.cond (.t 29) (.seq (.reg [⟨(some 30), none, .mov (.t 7)⟩,
  ⟨(some 31), none, .build [(.int .i64 0), (.int .i64 0), (.str []), (.sl .clip []), .nilp, (.sl .clip [])] [(0, 1, (.c (.int .i64 3))), (1, 1, (.t 30))]⟩,
  ⟨(some 32), none, .box (.t 31) 6 true⟩,
  ⟨(some 4), none, .mov (.t 32)⟩])
 .ret)
 .skip)))
 (.seq (.seq (.reg [⟨(some 34), none, .mov (.t 0)⟩,
  ⟨(some 35), none, .mov (.t 5)⟩,
  ⟨(some 36), none, .mov (.t 6)⟩,
  ⟨(some 37), none, .call 0 [] (.c (.fn 97 [])) [(.t 34), (.t 35), (.t 36)]⟩,
  ⟨(some 33), none, .mov (.t 37)⟩,
  ⟨(some 38), none, .extract (.t 33) 0⟩,
  ⟨(some 39), none, .extract (.t 33) 1⟩,
  ⟨(some 9), none, .mov (.t 38)⟩,
  ⟨(some 10), none, .mov (.t 39)⟩])
 (.seq (.reg [⟨(some 40), none, .mov (.t 10)⟩])
 (.cond (.t 40) (.seq (.seq (.reg [⟨(some 41), none, .mov (.t 9)⟩])
 (.cond (.t 41) (.seq (.reg [⟨(some 42), none, .build [(.int .i64 0), (.int .i64 0), (.str []), (.sl .clip []), .nilp, (.sl .clip [])] [(0, 1, (.c (.int .i64 2))), (2, 1, (.c (.str [84, 114, 117, 101])))]⟩,
  ⟨(some 43), none, .box (.t 42) 6 true⟩,
  ⟨(some 4), none, .mov (.t 43)⟩])
 .ret)
 .skip))
 (.seq (.reg [⟨(some 44), none, .build [(.int .i64 0), (.int .i64 0), (.str []), (.sl .clip []), .nilp, (.sl .clip [])] [(0, 1, (.c (.int .i64 2))), (2, 1, (.c (.str [70, 97, 108, 115, 101])))]⟩,
  ⟨(some 45), none, .box (.t 44) 6 true⟩,
  ⟨(some 4), none, .mov (.t 45)⟩])
 .ret))
 .skip)))
 (.seq (.reg [⟨(some 47), none, .mov (.t 0)⟩,
  ⟨(some 48), none, .mov (.t 5)⟩,
  ⟨(some 49), none, .call 0 [] (.c (.fn 98 [])) [(.t 47), (.t 48)]⟩,
  ⟨(some 46), none, .mov (.t 49)⟩,
  ⟨(some 50), none, .extract (.t 46) 0⟩,
  ⟨(some 51), none, .extract (.t 46) 1⟩,
  ⟨(some 11), none, .mov (.t 50)⟩,
  ⟨(some 12), none, .mov (.t 51)⟩])
 (.seq (.reg [⟨(some 52), none, .mov (.t 11)⟩,
  ⟨(some 53), none, .call 0 [] (.c (.fn 99 [])) [(.t 52)]⟩,
  ⟨(some 4), none, .mov (.t 53)⟩])
 .ret))))))),
  [.t 4], false, true, 54⟩
theorem co93 : compF Tryd.prog ⟨[32, 43, 45], [], [], [], [], [], 93, [], [], []⟩ false true Tryd.f93 = some ac93 := by kernel_rfl

/-- paideia/types.Con -/
def ac94 : AF := ⟨(.seq (.reg [⟨(some 4), none, .alloc [(.int .i64 0), (.str []), (.sl .clip [])] false⟩])
 (.seq (.reg [⟨(some 5), none, .mov (.t 0)⟩,
  ⟨(some 6), none, .mov (.t 1)⟩,
  ⟨(some 7), none, .call 0 [] (.c (.fn 100 [])) [(.t 6)]⟩,
  ⟨(some 8), none, .build [(.int .i64 0), (.str []), (.sl .clip [])] [(0, 1, (.c (.int .i64 2))), (1, 1, (.t 5)), (2, 1, (.t 7))]⟩,
  ⟨none, none, .store 3 (.t 4) (.t 8)⟩])
 .ret)),
  [.cell 4 (some 3)], false, true, 9⟩
theorem co94 : compF Tryd.prog ⟨[], [], [], [], [], [], 94, [], [], []⟩ false true Tryd.f94 = some ac94 := by kernel_rfl

/-- paideia/types.Fun -/
def ac95 : AF := ⟨(.seq (.reg [⟨(some 2), none, .alloc [(.int .i64 0), (.str []), (.sl .clip [])] false⟩])
 (.seq (.seq (.reg [⟨(some 5), none, .mov (.t 0)⟩,
  ⟨(some 6), none, .len 1 (.t 5)⟩,
  ⟨(some 7), none, .bin .eql (.t 6) (.c (.int .i64 0))⟩])
 (.cond (.t 7) (.seq (.reg [⟨(some 8), none, .call 0 [] (.c (.fn 94 [])) [(.c (.str [85, 110, 105, 116])), (.c (.sl .clip []))]⟩,
  ⟨none, none, .store 3 (.t 2) (.t 8)⟩])
 .ret)
 .skip))
 (.seq (.reg [⟨(some 9), none, .mov (.t 0)⟩,
  ⟨(some 10), none, .mov (.t 0)⟩,
  ⟨(some 11), none, .len 1 (.t 10)⟩,
  ⟨(some 12), none, .bin .sub (.t 11) (.c (.int .i64 1))⟩,
  ⟨(some 13), none, .iaddr 3 (.t 9) (.t 12)⟩,
  ⟨(some 14), none, .load (some 3) (.t 13)⟩,
  ⟨(some 3), none, .alloc [(.int .i64 0), (.str []), (.sl .clip [])] false⟩,
  ⟨none, none, .store 3 (.t 3) (.t 14)⟩])
 (.seq (.seq (.reg [⟨(some 15), none, .mov (.t 0)⟩,
  ⟨(some 16), none, .len 1 (.t 15)⟩,
  ⟨(some 17), none, .bin .sub (.t 16) (.c (.int .i64 2))⟩,
  ⟨(some 4), none, .mov (.t 17)⟩])
 (.block 0 (.loop [0, 4] [2, 3] (.seq (.seq (.reg [⟨(some 18), none, .mov (.t 4)⟩,
  ⟨(some 19), none, .bin .geq (.t 18) (.c (.int .i64 0))⟩])
 (.cond (.t 19) .skip
 (.exit 0)))
 (.seq (.block 1 (.reg [⟨(some 22), none, .mov (.t 0)⟩,
  ⟨(some 23), none, .mov (.t 4)⟩,
  ⟨(some 24), none, .iaddr 3 (.t 22) (.t 23)⟩,
  ⟨(some 25), none, .load (some 3) (.t 24)⟩,
  ⟨(some 26), none, .load (some 3) (.t 3)⟩,
  ⟨(some 27), none, .bslice [(.int .i64 0), (.str []), (.sl .clip [])] 2 [(0, (.t 25)), (1, (.t 26))]⟩,
  ⟨(some 28), none, .build [(.int .i64 0), (.str []), (.sl .clip [])] [(0, 1, (.c (.int .i64 3))), (2, 1, (.t 27))]⟩,
  ⟨none, none, .store 3 (.t 3) (.t 28)⟩]))
 (.reg [⟨(some 20), none, .mov (.t 4)⟩,
  ⟨(some 21), none, .bin .sub (.t 20) (.c (.int .i64 1))⟩,
  ⟨(some 4), none, .mov (.t 21)⟩]))))))
 (.seq (.reg [⟨(some 29), none, .load (some 3) (.t 3)⟩,
  ⟨none, none, .store 3 (.t 2) (.t 29)⟩])
 .ret))))),
  [.cell 2 (some 3)], false, true, 30⟩
theorem co95 : compF Tryd.prog ⟨[], [(5, [0, 4], [2, 3])], [], [], [], [], 95, [], [], [0]⟩ false true Tryd.f95 = some ac95 := by kernel_rfl

/-- paideia/prim.Number -/
def ac96 : AF := ⟨(.seq (.reg [⟨(some 6), none, .mov (.c (.int .i64 0))⟩,
  ⟨(some 7), none, .mov (.c (.bool false))⟩])
 (.seq (.seq (.reg [⟨(some 8), none, .mov (.t 0)⟩])
 (.block 0 (.seq (.reg [⟨(some 10), none, .bin .eql (.t 8) (.c (.str [112, 114, 105, 109, 73, 110, 116, 65, 100, 100]))⟩,
  ⟨(some 9), none, .mov (.t 10)⟩])
 (.cond (.t 9) (.seq (.reg [⟨(some 11), none, .mov (.t 1)⟩,
  ⟨(some 12), none, .mov (.t 2)⟩,
  ⟨(some 13), none, .bin .add (.t 11) (.t 12)⟩,
  ⟨(some 6), none, .mov (.t 13)⟩,
  ⟨(some 7), none, .mov (.c (.bool true))⟩])
 .ret)
 (.seq (.reg [⟨(some 15), none, .bin .eql (.t 8) (.c (.str [112, 114, 105, 109, 73, 110, 116, 83, 117, 98]))⟩,
  ⟨(some 14), none, .mov (.t 15)⟩])
 (.cond (.t 14) (.seq (.reg [⟨(some 16), none, .mov (.t 1)⟩,
  ⟨(some 17), none, .mov (.t 2)⟩,
  ⟨(some 18), none, .bin .sub (.t 16) (.t 17)⟩,
  ⟨(some 6), none, .mov (.t 18)⟩,
  ⟨(some 7), none, .mov (.c (.bool true))⟩])
 .ret)
 (.seq (.reg [⟨(some 20), none, .bin .eql (.t 8) (.c (.str [112, 114, 105, 109, 73, 110, 116, 77, 117, 108]))⟩,
  ⟨(some 19), none, .mov (.t 20)⟩])
 (.cond (.t 19) (.seq (.reg [⟨(some 21), none, .mov (.t 1)⟩,
  ⟨(some 22), none, .mov (.t 2)⟩,
  ⟨(some 23), none, .bin .mul (.t 21) (.t 22)⟩,
  ⟨(some 6), none, .mov (.t 23)⟩,
  ⟨(some 7), none, .mov (.c (.bool true))⟩])
 .ret)
 .skip))))))))
 (.seq (.reg [⟨(some 6), none, .mov (.c (.int .i64 0))⟩,
  ⟨(some 7), none, .mov (.c (.bool false))⟩])
 .ret))),
  [.t 6, .t 7], false, true, 24⟩
theorem co96 : compF Tryd.prog ⟨[], [], [], [], [], [], 96, [], [], []⟩ false true Tryd.f96 = some ac96 := by kernel_rfl

/-- paideia/prim.Asks -/
def ac97 : AF := ⟨(.seq (.reg [⟨(some 6), none, .mov (.c (.bool false))⟩,
  ⟨(some 7), none, .mov (.c (.bool false))⟩])
 (.seq (.seq (.reg [⟨(some 8), none, .mov (.t 0)⟩])
 (.block 0 (.seq (.seq (.reg [⟨(some 10), none, .bin .eql (.t 8) (.c (.str [112, 114, 105, 109, 73, 110, 116, 69, 113]))⟩,
  ⟨(some 9), none, .mov (.t 10)⟩])
 (.cond (.t 9) .skip
 (.reg [⟨(some 11), none, .bin .eql (.t 8) (.c (.str [112, 114, 105, 109, 67, 104, 97, 114, 69, 113]))⟩,
  ⟨(some 9), none, .mov (.t 11)⟩])))
 (.cond (.t 9) (.seq (.reg [⟨(some 12), none, .mov (.t 1)⟩,
  ⟨(some 13), none, .mov (.t 2)⟩,
  ⟨(some 14), none, .bin .eql (.t 12) (.t 13)⟩,
  ⟨(some 6), none, .mov (.t 14)⟩,
  ⟨(some 7), none, .mov (.c (.bool true))⟩])
 .ret)
 (.seq (.seq (.reg [⟨(some 16), none, .bin .eql (.t 8) (.c (.str [112, 114, 105, 109, 73, 110, 116, 76, 101, 115, 115]))⟩,
  ⟨(some 15), none, .mov (.t 16)⟩])
 (.cond (.t 15) .skip
 (.reg [⟨(some 17), none, .bin .eql (.t 8) (.c (.str [112, 114, 105, 109, 67, 104, 97, 114, 76, 101, 115, 115]))⟩,
  ⟨(some 15), none, .mov (.t 17)⟩])))
 (.cond (.t 15) (.seq (.reg [⟨(some 18), none, .mov (.t 1)⟩,
  ⟨(some 19), none, .mov (.t 2)⟩,
  ⟨(some 20), none, .bin .lss (.t 18) (.t 19)⟩,
  ⟨(some 6), none, .mov (.t 20)⟩,
  ⟨(some 7), none, .mov (.c (.bool true))⟩])
 .ret)
 .skip))))))
 (.seq (.reg [⟨(some 6), none, .mov (.c (.bool false))⟩,
  ⟨(some 7), none, .mov (.c (.bool false))⟩])
 .ret))),
  [.t 6, .t 7], false, true, 21⟩
theorem co97 : compF Tryd.prog ⟨[], [], [], [], [], [], 97, [], [], []⟩ false true Tryd.f97 = some ac97 := by kernel_rfl

/-- paideia/prim.Text -/
def ac98 : AF := ⟨(.seq (.reg [⟨(some 4), none, .mov (.c (.str []))⟩,
  ⟨(some 5), none, .mov (.c (.bool false))⟩])
 (.seq (.seq (.reg [⟨(some 6), none, .mov (.t 0)⟩])
 (.block 0 (.seq (.reg [⟨(some 8), none, .bin .eql (.t 6) (.c (.str [112, 114, 105, 109, 73, 110, 116, 83, 104, 111, 119]))⟩,
  ⟨(some 7), none, .mov (.t 8)⟩])
 (.cond (.t 7) (.seq (.reg [⟨(some 9), none, .mov (.t 1)⟩,
  ⟨(some 10), none, .call 0 [] (.c (.fn 12 [])) [(.t 9), (.c (.int .i64 10))]⟩,
  ⟨(some 4), none, .mov (.t 10)⟩,
  ⟨(some 5), none, .mov (.c (.bool true))⟩])
 .ret)
 (.seq (.reg [⟨(some 12), none, .bin .eql (.t 6) (.c (.str [112, 114, 105, 109, 67, 104, 97, 114, 83, 104, 111, 119]))⟩,
  ⟨(some 11), none, .mov (.t 12)⟩])
 (.cond (.t 11) (.seq (.reg [⟨(some 13), none, .mov (.t 1)⟩,
  ⟨(some 14), none, .conv (.int .u8) (.t 13)⟩,
  ⟨(some 15), none, .call 0 [] (.c (.fn 29 [])) [(.t 14)]⟩,
  ⟨(some 4), none, .mov (.t 15)⟩,
  ⟨(some 5), none, .mov (.c (.bool true))⟩])
 .ret)
 .skip))))))
 (.seq (.reg [⟨(some 4), none, .mov (.c (.str []))⟩,
  ⟨(some 5), none, .mov (.c (.bool false))⟩])
 .ret))),
  [.t 4, .t 5], false, true, 16⟩
theorem co98 : compF Tryd.prog ⟨[], [], [], [], [], [], 98, [], [], []⟩ false true Tryd.f98 = some ac98 := by kernel_rfl

/-- paideia/machine.text -/
def ac99 : AF := ⟨(.seq (.reg [⟨(some 2), none, .mov (.c .nilp)⟩])
 (.seq (.reg [⟨(some 6), none, .build [(.int .i64 0), (.int .i64 0), (.str []), (.sl .clip []), .nilp, (.sl .clip [])] [(0, 1, (.c (.int .i64 2))), (2, 1, (.c (.str [78, 105, 108])))]⟩,
  ⟨(some 7), none, .box (.t 6) 6 true⟩,
  ⟨(some 3), none, .mov (.t 7)⟩])
 (.seq (.seq (.reg [⟨(some 8), none, .mov (.t 0)⟩,
  ⟨(some 9), none, .len 0 (.t 8)⟩,
  ⟨(some 10), none, .bin .sub (.t 9) (.c (.int .i64 1))⟩,
  ⟨(some 4), none, .mov (.t 10)⟩])
 (.block 0 (.loop [0, 3, 4] [] (.seq (.seq (.reg [⟨(some 11), none, .mov (.t 4)⟩,
  ⟨(some 12), none, .bin .geq (.t 11) (.c (.int .i64 0))⟩])
 (.cond (.t 12) .skip
 (.exit 0)))
 (.seq (.block 1 (.seq (.reg [⟨(some 15), none, .mov (.t 0)⟩,
  ⟨(some 16), none, .mov (.t 4)⟩,
  ⟨(some 17), none, .sindex (.t 15) (.t 16)⟩,
  ⟨(some 18), none, .conv (.int .i64) (.t 17)⟩,
  ⟨(some 19), none, .build [(.int .i64 0), (.int .i64 0), (.str []), (.sl .clip []), .nilp, (.sl .clip [])] [(0, 1, (.c (.int .i64 4))), (1, 1, (.t 18))]⟩,
  ⟨(some 20), none, .box (.t 19) 6 true⟩,
  ⟨(some 5), none, .mov (.t 20)⟩])
 (.reg [⟨(some 21), none, .mov (.t 5)⟩,
  ⟨(some 22), none, .call 0 [] (.c (.fn 101 [])) [(.t 21)]⟩,
  ⟨(some 23), none, .mov (.t 3)⟩,
  ⟨(some 24), none, .call 0 [] (.c (.fn 101 [])) [(.t 23)]⟩,
  ⟨(some 25), none, .bslice [.nilp] 2 [(0, (.t 22)), (1, (.t 24))]⟩,
  ⟨(some 26), none, .build [(.int .i64 0), (.int .i64 0), (.str []), (.sl .clip []), .nilp, (.sl .clip [])] [(0, 1, (.c (.int .i64 2))), (2, 1, (.c (.str [67, 111, 110, 115]))), (3, 1, (.t 25))]⟩,
  ⟨(some 27), none, .box (.t 26) 6 true⟩,
  ⟨(some 3), none, .mov (.t 27)⟩])))
 (.reg [⟨(some 13), none, .mov (.t 4)⟩,
  ⟨(some 14), none, .bin .sub (.t 13) (.c (.int .i64 1))⟩,
  ⟨(some 4), none, .mov (.t 14)⟩]))))))
 (.seq (.reg [⟨(some 28), none, .mov (.t 3)⟩,
  ⟨(some 2), none, .mov (.t 28)⟩])
 .ret)))),
  [.t 2], false, true, 29⟩
theorem co99 : compF Tryd.prog ⟨[7, 20, 27], [(3, [0, 3, 4], [])], [], [], [], [], 99, [], [], []⟩ false true Tryd.f99 = some ac99 := by kernel_rfl

/-- slices.Clone[[]paideia/api.Type,paideia/api.Type] -/
def ac100 : AF := ⟨(.seq (.reg [⟨(some 2), none, .mov (.c (.sl .clip []))⟩])
 (.seq (.seq (.reg [⟨(some 3), none, .mov (.t 0)⟩,
  ⟨(some 4), none, .nilsl false (.t 3)⟩])
 (.cond (.t 4) (.seq (.reg [⟨(some 2), none, .mov (.c (.sl .clip []))⟩])
 .ret)
 .skip))
 (.seq (.reg [⟨(some 5), none, .bslice [(.int .i64 0), (.str []), (.sl .clip [])] 0 []⟩,
  ⟨(some 6), none, .mov (.t 0)⟩,
  ⟨(some 7), none, .append 3 (.t 5) (.t 6)⟩,
  ⟨(some 2), none, .mov (.t 7)⟩])
 .ret))),
  [.t 2], false, true, 8⟩
theorem co100 : compF Tryd.prog ⟨[], [], [], [], [], [], 100, [], [], []⟩ false true Tryd.f100 = some ac100 := by kernel_rfl

/-- paideia/machine.known -/
def ac101 : AF := ⟨(.seq (.reg [⟨(some 2), none, .mov (.c .nilp)⟩])
 (.seq (.reg [⟨(some 3), none, .mov (.t 0)⟩,
  ⟨(some 4), none, .build [.nilp, (.bool false), .nilp, (.sl .clip [])] [(0, 1, (.t 3))]⟩,
  ⟨(some 5), none, .box (.t 4) 4 true⟩,
  ⟨(some 2), none, .mov (.t 5)⟩])
 .ret)),
  [.t 2], false, true, 6⟩
theorem co101 : compF Tryd.prog ⟨[5], [], [], [], [], [], 101, [], [], []⟩ false true Tryd.f101 = some ac101 := by kernel_rfl

-- 117 (*paideia/api.At).Error: not compiled

theorem prim19 : PrimOkG Tryd.prog [0,1,3,4,5,6,7,8,9,10,11,12,13,14,15,1000175,2000002] 19 itoaP := itoaP_ok (g := 2) Tryd.func19 (by kernel_rfl) (by kernel_rfl) (by kernel_rfl) (by simp) Tryd.internal_strconv_FormatInt_10
theorem prim48 : PrimOkG Tryd.prog [0,1,3,4,5,6,7,8,9,10,11,12,13,14,15,1000175,2000002] 48 utoaP := utoaP_ok (g := 2) Tryd.func48 (by kernel_rfl) (by kernel_rfl) (by kernel_rfl) (by simp) Tryd.FormatUint_10

def ap3 : AP := fun f vr => match f, vr with
  | 91, 0 => some (.code ac91)
  | 92, 0 => some (.code ac92)
  | 93, 0 => some (.code ac93)
  | 94, 0 => some (.code ac94)
  | 95, 0 => some (.code ac95)
  | 96, 0 => some (.code ac96)
  | 97, 0 => some (.code ac97)
  | 98, 0 => some (.code ac98)
  | 99, 0 => some (.code ac99)
  | 100, 0 => some (.code ac100)
  | 101, 0 => some (.code ac101)
  | 19, 0 => some (.prim itoaP)
  | 48, 0 => some (.prim utoaP)
  | _, _ => none

theorem table3 : TableOk Tryd.prog ap3 [0,1,3,4,5,6,7,8,9,10,11,12,13,14,15,1000175,2000002] := by
  intro f vr fd h
  unfold ap3 at h
  split at h
  · cases h; exact ⟨_, _, Tryd.func91, co91, by decide, rfl⟩
  · cases h; exact ⟨_, _, Tryd.func92, co92, by decide, rfl⟩
  · cases h; exact ⟨_, _, Tryd.func93, co93, by decide, rfl⟩
  · cases h; exact ⟨_, _, Tryd.func94, co94, by decide, rfl⟩
  · cases h; exact ⟨_, _, Tryd.func95, co95, by decide, rfl⟩
  · cases h; exact ⟨_, _, Tryd.func96, co96, by decide, rfl⟩
  · cases h; exact ⟨_, _, Tryd.func97, co97, by decide, rfl⟩
  · cases h; exact ⟨_, _, Tryd.func98, co98, by decide, rfl⟩
  · cases h; exact ⟨_, _, Tryd.func99, co99, by decide, rfl⟩
  · cases h; exact ⟨_, _, Tryd.func100, co100, by decide, rfl⟩
  · cases h; exact ⟨_, _, Tryd.func101, co101, by decide, rfl⟩
  · cases h; exact prim19
  · cases h; exact prim48
  · cases h

def ap2 : AP := fun f vr => match f, vr with
  | 64, 0 => some (.code ac64)
  | 65, 0 => some (.code ac65)
  | 66, 0 => some (.code ac66)
  | 67, 0 => some (.code ac67)
  | 68, 0 => some (.code ac68)
  | 69, 0 => some (.code ac69)
  | 70, 0 => some (.code ac70)
  | 71, 0 => some (.code ac71)
  | 72, 0 => some (.code ac72)
  | 73, 0 => some (.code ac73)
  | 74, 0 => some (.code ac74)
  | 75, 0 => some (.code ac75)
  | 76, 0 => some (.code ac76)
  | 79, 0 => some (.code ac79)
  | 80, 0 => some (.code ac80)
  | 81, 0 => some (.code ac81)
  | 82, 0 => some (.code ac82)
  | 83, 0 => some (.code ac83)
  | 84, 0 => some (.code ac84)
  | 85, 0 => some (.code ac85)
  | 86, 0 => some (.code ac86)
  | 87, 0 => some (.code ac87)
  | 88, 0 => some (.code ac88)
  | 89, 0 => some (.code ac89)
  | 90, 0 => some (.code ac90)
  | f, vr => ap3 f vr

theorem table2 : TableOk Tryd.prog ap2 [0,1,3,4,5,6,7,8,9,10,11,12,13,14,15,1000175,2000002] := by
  intro f vr fd h
  unfold ap2 at h
  split at h
  · cases h; exact ⟨_, _, Tryd.func64, co64, by decide, rfl⟩
  · cases h; exact ⟨_, _, Tryd.func65, co65, by decide, rfl⟩
  · cases h; exact ⟨_, _, Tryd.func66, co66, by decide, rfl⟩
  · cases h; exact ⟨_, _, Tryd.func67, co67, by decide, rfl⟩
  · cases h; exact ⟨_, _, Tryd.func68, co68, by decide, rfl⟩
  · cases h; exact ⟨_, _, Tryd.func69, co69, by decide, rfl⟩
  · cases h; exact ⟨_, _, Tryd.func70, co70, by decide, rfl⟩
  · cases h; exact ⟨_, _, Tryd.func71, co71, by decide, rfl⟩
  · cases h; exact ⟨_, _, Tryd.func72, co72, by decide, rfl⟩
  · cases h; exact ⟨_, _, Tryd.func73, co73, by decide, rfl⟩
  · cases h; exact ⟨_, _, Tryd.func74, co74, by decide, rfl⟩
  · cases h; exact ⟨_, _, Tryd.func75, co75, by decide, rfl⟩
  · cases h; exact ⟨_, _, Tryd.func76, co76, by decide, rfl⟩
  · cases h; exact ⟨_, _, Tryd.func79, co79, by decide, rfl⟩
  · cases h; exact ⟨_, _, Tryd.func80, co80, by decide, rfl⟩
  · cases h; exact ⟨_, _, Tryd.func81, co81, by decide, rfl⟩
  · cases h; exact ⟨_, _, Tryd.func82, co82, by decide, rfl⟩
  · cases h; exact ⟨_, _, Tryd.func83, co83, by decide, rfl⟩
  · cases h; exact ⟨_, _, Tryd.func84, co84, by decide, rfl⟩
  · cases h; exact ⟨_, _, Tryd.func85, co85, by decide, rfl⟩
  · cases h; exact ⟨_, _, Tryd.func86, co86, by decide, rfl⟩
  · cases h; exact ⟨_, _, Tryd.func87, co87, by decide, rfl⟩
  · cases h; exact ⟨_, _, Tryd.func88, co88, by decide, rfl⟩
  · cases h; exact ⟨_, _, Tryd.func89, co89, by decide, rfl⟩
  · cases h; exact ⟨_, _, Tryd.func90, co90, by decide, rfl⟩
  · exact table3 _ _ _ h

def ap1 : AP := fun f vr => match f, vr with
  | 29, 0 => some (.code ac29)
  | 30, 0 => some (.code ac30)
  | 31, 0 => some (.code ac31)
  | 32, 0 => some (.code ac32)
  | 37, 0 => some (.code ac37)
  | 38, 0 => some (.code ac38)
  | 39, 0 => some (.code ac39)
  | 40, 0 => some (.code ac40)
  | 41, 0 => some (.code ac41)
  | 42, 0 => some (.code ac42)
  | 43, 0 => some (.code ac43)
  | 44, 0 => some (.codeF ac44)
  | 45, 0 => some (.code ac45)
  | 46, 0 => some (.code ac46)
  | 47, 0 => some (.code ac47)
  | 49, 0 => some (.code ac49)
  | 50, 0 => some (.code ac50)
  | 51, 0 => some (.code ac51)
  | 52, 0 => some (.code ac52)
  | 53, 0 => some (.code ac53)
  | 54, 0 => some (.code ac54)
  | 60, 0 => some (.code ac60)
  | 61, 0 => some (.code ac61)
  | 62, 0 => some (.code ac62)
  | 63, 0 => some (.code ac63)
  | f, vr => ap2 f vr

theorem table1 : TableOk Tryd.prog ap1 [0,1,3,4,5,6,7,8,9,10,11,12,13,14,15,1000175,2000002] := by
  intro f vr fd h
  unfold ap1 at h
  split at h
  · cases h; exact ⟨_, _, Tryd.func29, co29, by decide, rfl⟩
  · cases h; exact ⟨_, _, Tryd.func30, co30, by decide, rfl⟩
  · cases h; exact ⟨_, _, Tryd.func31, co31, by decide, rfl⟩
  · cases h; exact ⟨_, _, Tryd.func32, co32, by decide, rfl⟩
  · cases h; exact ⟨_, _, Tryd.func37, co37, by decide, rfl⟩
  · cases h; exact ⟨_, _, Tryd.func38, co38, by decide, rfl⟩
  · cases h; exact ⟨_, _, Tryd.func39, co39, by decide, rfl⟩
  · cases h; exact ⟨_, _, Tryd.func40, co40, by decide, rfl⟩
  · cases h; exact ⟨_, _, Tryd.func41, co41, by decide, rfl⟩
  · cases h; exact ⟨_, _, Tryd.func42, co42, by decide, rfl⟩
  · cases h; exact ⟨_, _, Tryd.func43, co43, by decide, rfl⟩
  · cases h; exact ⟨_, _, Tryd.func44, co44, by decide, rfl⟩
  · cases h; exact ⟨_, _, Tryd.func45, co45, by decide, rfl⟩
  · cases h; exact ⟨_, _, Tryd.func46, co46, by decide, rfl⟩
  · cases h; exact ⟨_, _, Tryd.func47, co47, by decide, rfl⟩
  · cases h; exact ⟨_, _, Tryd.func49, co49, by decide, rfl⟩
  · cases h; exact ⟨_, _, Tryd.func50, co50, by decide, rfl⟩
  · cases h; exact ⟨_, _, Tryd.func51, co51, by decide, rfl⟩
  · cases h; exact ⟨_, _, Tryd.func52, co52, by decide, rfl⟩
  · cases h; exact ⟨_, _, Tryd.func53, co53, by decide, rfl⟩
  · cases h; exact ⟨_, _, Tryd.func54, co54, by decide, rfl⟩
  · cases h; exact ⟨_, _, Tryd.func60, co60, by decide, rfl⟩
  · cases h; exact ⟨_, _, Tryd.func61, co61, by decide, rfl⟩
  · cases h; exact ⟨_, _, Tryd.func62, co62, by decide, rfl⟩
  · cases h; exact ⟨_, _, Tryd.func63, co63, by decide, rfl⟩
  · exact table2 _ _ _ h

def ap0 : AP := fun f vr => match f, vr with
  | 3, 0 => some (.code ac3)
  | 4, 0 => some (.code ac4)
  | 5, 0 => some (.code ac5)
  | 6, 0 => some (.code ac6)
  | 7, 0 => some (.code ac7)
  | 8, 0 => some (.code ac8)
  | 9, 0 => some (.code ac9)
  | 10, 0 => some (.code ac10)
  | 11, 0 => some (.code ac11)
  | 12, 0 => some (.code ac12)
  | 13, 0 => some (.code ac13)
  | 14, 0 => some (.code ac14)
  | 15, 0 => some (.code ac15)
  | 16, 0 => some (.code ac16)
  | 17, 0 => some (.code ac17)
  | 18, 0 => some (.code ac18)
  | 20, 0 => some (.code ac20)
  | 21, 0 => some (.code ac21)
  | 22, 0 => some (.code ac22)
  | 23, 0 => some (.code ac23)
  | 24, 0 => some (.codeF ac24)
  | 25, 0 => some (.code ac25)
  | 26, 0 => some (.code ac26)
  | 27, 0 => some (.code ac27)
  | 28, 0 => some (.code ac28)
  | f, vr => ap1 f vr

theorem table0 : TableOk Tryd.prog ap0 [0,1,3,4,5,6,7,8,9,10,11,12,13,14,15,1000175,2000002] := by
  intro f vr fd h
  unfold ap0 at h
  split at h
  · cases h; exact ⟨_, _, Tryd.func3, co3, by decide, rfl⟩
  · cases h; exact ⟨_, _, Tryd.func4, co4, by decide, rfl⟩
  · cases h; exact ⟨_, _, Tryd.func5, co5, by decide, rfl⟩
  · cases h; exact ⟨_, _, Tryd.func6, co6, by decide, rfl⟩
  · cases h; exact ⟨_, _, Tryd.func7, co7, by decide, rfl⟩
  · cases h; exact ⟨_, _, Tryd.func8, co8, by decide, rfl⟩
  · cases h; exact ⟨_, _, Tryd.func9, co9, by decide, rfl⟩
  · cases h; exact ⟨_, _, Tryd.func10, co10, by decide, rfl⟩
  · cases h; exact ⟨_, _, Tryd.func11, co11, by decide, rfl⟩
  · cases h; exact ⟨_, _, Tryd.func12, co12, by decide, rfl⟩
  · cases h; exact ⟨_, _, Tryd.func13, co13, by decide, rfl⟩
  · cases h; exact ⟨_, _, Tryd.func14, co14, by decide, rfl⟩
  · cases h; exact ⟨_, _, Tryd.func15, co15, by decide, rfl⟩
  · cases h; exact ⟨_, _, Tryd.func16, co16, by decide, rfl⟩
  · cases h; exact ⟨_, _, Tryd.func17, co17, by decide, rfl⟩
  · cases h; exact ⟨_, _, Tryd.func18, co18, by decide, rfl⟩
  · cases h; exact ⟨_, _, Tryd.func20, co20, by decide, rfl⟩
  · cases h; exact ⟨_, _, Tryd.func21, co21, by decide, rfl⟩
  · cases h; exact ⟨_, _, Tryd.func22, co22, by decide, rfl⟩
  · cases h; exact ⟨_, _, Tryd.func23, co23, by decide, rfl⟩
  · cases h; exact ⟨_, _, Tryd.func24, co24, by decide, rfl⟩
  · cases h; exact ⟨_, _, Tryd.func25, co25, by decide, rfl⟩
  · cases h; exact ⟨_, _, Tryd.func26, co26, by decide, rfl⟩
  · cases h; exact ⟨_, _, Tryd.func27, co27, by decide, rfl⟩
  · cases h; exact ⟨_, _, Tryd.func28, co28, by decide, rfl⟩
  · exact table1 _ _ _ h

def ap : AP := ap0
theorem tableOk : TableOk Tryd.prog ap [0,1,3,4,5,6,7,8,9,10,11,12,13,14,15,1000175,2000002] := table0

end Go.Rt
