/- The seat's functions on the abstract machine. -/
import Derived.Test.YtjfflpknmhflfaaDoorAmX
import Derived.Test.YtjfflpknmhflfaaDoorAmZ
import Derived.Test.YtjfflpknmhflfaaDoorAmL
import Derived.Test.YtjfflpknmhflfaaDoorAmQ
import Derived.Test.YtjfflpknmhflfaaDoorAmU
import Derived.Test.YtjfflpknmhflfaaDoorAmF
import Derived.Test.YtjfflpknmhflfaaDoorAmK
import Derived.Test.YtjfflpknmhflfaaDoorLtShelf
import Derived.Test.YtjfflpknmhflfaaDoorProg
namespace Go.Mt
open Go.Am Go.Proofs

set_option maxRecDepth 100000
/-- paideia/paideialaw1.LexerSays: round 0 -/
def ab8_0 : AB := ⟨[49, 50], (.seq (.reg [⟨(some 12), none, .alloc [(.int .i64 0), (.int .i64 0), (.str []), (.int .i64 0)] false⟩,
  ⟨none, none, .store 4 (.t 12) (.t 49)⟩])
 (.reg [⟨(some 13), none, .mov (.t 50)⟩])),
 (.block 1 (.seq (.seq (.reg [⟨(some 51), none, .faddr 0 (.t 11)⟩,
  ⟨(some 52), none, .load none (.t 51)⟩,
  ⟨(some 53), none, .bin .neq (.t 52) (.c (.int .i64 0))⟩])
 (.cond (.t 53) (.seq (.reg [⟨none, none, .store 1 (.t 4) (.c (.bool false))⟩])
 .ret)
 .skip))
 (.seq (.reg [⟨(some 54), none, .mov (.t 13)⟩,
  ⟨(some 55), none, .call 0 [] (.c (.fn 21 [])) [(.t 54)]⟩,
  ⟨none, none, .store 3 (.t 11) (.t 55)⟩])
 (.seq (.reg [⟨(some 56), none, .mov (.t 13)⟩,
  ⟨(some 57), none, .eqnil .iface false (.t 56)⟩])
 (.cond (.t 57) (.reg [⟨(some 58), none, .load none (.t 10)⟩,
  ⟨(some 59), none, .load (some 4) (.t 12)⟩,
  ⟨(some 60), none, .bslice [(.int .i64 0), (.int .i64 0), (.str []), (.int .i64 0)] 1 [(0, (.t 59))]⟩,
  ⟨(some 61), none, .append 4 (.t 58) (.t 60)⟩,
  ⟨none, none, .store 1 (.t 10) (.t 61)⟩])
 (.seq (.reg [⟨(some 62), none, .faddr 2 (.t 12)⟩,
  ⟨(some 63), none, .load none (.t 62)⟩,
  ⟨(some 64), none, .len 0 (.t 63)⟩,
  ⟨(some 65), none, .bin .gtr (.t 64) (.c (.int .i64 0))⟩])
 (.cond (.t 65) (.seq (.reg [⟨none, none, .store 1 (.t 4) (.c (.bool false))⟩])
 .ret)
 .skip)))))))⟩
theorem cb8_0 : ((Tryd.f8.body.bind fun c => ((rfs c)[512 % 64]?).map fun t => (t.1, t.2.1, t.2.2, Tryd.f8.ntmps)).bind (compB Tryd.prog ⟨[], [], [], [], [], [], 8, [], [], []⟩)) = some ab8_0 := by kernel_rfl

/-- paideia/paideialaw1.LexerSays -/
def ac8 : AF := ⟨(.seq (.reg [⟨(some 4), none, .alloc [(.bool false)] true⟩])
 (.seq (.reg [⟨(some 14), none, .call 0 [] (.c (.fn 9 [])) []⟩,
  ⟨(some 5), none, .mov (.t 14)⟩])
 (.seq (.seq (.reg [⟨(some 15), none, .mov (.t 5)⟩,
  ⟨(some 16), none, .not (.t 15)⟩])
 (.cond (.t 16) (.seq (.reg [⟨none, none, .store 1 (.t 4) (.c (.bool false))⟩])
 .ret)
 .skip))
 (.seq (.seq (.reg [⟨(some 17), none, .mov (.t 0)⟩,
  ⟨(some 18), none, .len 1 (.t 17)⟩,
  ⟨(some 19), none, .bin .gtr (.t 18) (.c (.int .i64 500))⟩,
  ⟨(some 20), none, .mov (.t 19)⟩,
  ⟨(some 21), (some (20, false)), .mov (.t 1)⟩,
  ⟨(some 22), (some (20, false)), .len 0 (.t 21)⟩,
  ⟨(some 23), (some (20, false)), .bin .gtr (.t 22) (.c (.int .i64 80))⟩,
  ⟨(some 24), none, .pick (.t 20) (.c (.bool true)) (.t 23)⟩])
 (.cond (.t 24) (.seq (.reg [⟨(some 25), none, .mov (.t 5)⟩,
  ⟨none, none, .store 1 (.t 4) (.t 25)⟩])
 .ret)
 .skip))
 (.seq (.reg [⟨(some 27), none, .mov (.t 0)⟩,
  ⟨(some 28), none, .call 0 [] (.c (.fn 10 [])) [(.t 27)]⟩,
  ⟨(some 26), none, .mov (.t 28)⟩,
  ⟨(some 29), none, .extract (.t 26) 0⟩,
  ⟨(some 30), none, .extract (.t 26) 1⟩,
  ⟨(some 6), none, .mov (.t 29)⟩,
  ⟨(some 7), none, .mov (.t 30)⟩])
 (.seq (.reg [⟨(some 32), none, .mov (.t 0)⟩,
  ⟨(some 33), none, .call 0 [] (.c (.fn 17 [])) [(.t 32)]⟩,
  ⟨(some 31), none, .mov (.t 33)⟩,
  ⟨(some 34), none, .extract (.t 31) 0⟩,
  ⟨(some 35), none, .extract (.t 31) 1⟩,
  ⟨(some 9), none, .alloc [(.int .i64 0), (.bool false), (.int .i64 0)] false⟩,
  ⟨(some 8), none, .mov (.t 34)⟩,
  ⟨none, none, .store 3 (.t 9) (.t 35)⟩])
 (.seq (.seq (.reg [⟨(some 36), none, .mov (.t 6)⟩,
  ⟨(some 37), none, .mov (.t 8)⟩,
  ⟨(some 38), none, .call 0 [] (.c (.fn 18 [])) [(.t 36), (.t 37)]⟩,
  ⟨(some 39), none, .not (.t 38)⟩,
  ⟨(some 40), none, .mov (.t 39)⟩,
  ⟨(some 41), (some (40, false)), .mov (.t 7)⟩,
  ⟨(some 42), (some (40, false)), .load (some 3) (.t 9)⟩,
  ⟨(some 43), (some (40, false)), .call 0 [] (.c (.fn 12 [])) [(.t 41), (.t 42)]⟩,
  ⟨(some 44), (some (40, false)), .not (.t 43)⟩,
  ⟨(some 45), none, .pick (.t 40) (.c (.bool true)) (.t 44)⟩])
 (.cond (.t 45) (.seq (.reg [⟨none, none, .store 1 (.t 4) (.c (.bool false))⟩])
 .ret)
 .skip))
 (.seq (.reg [⟨(some 10), none, .alloc [(.sl .clip [])] true⟩])
 (.seq (.reg [⟨(some 46), none, .call 0 [] (.c (.fn 19 [])) []⟩,
  ⟨(some 11), none, .alloc [(.int .i64 0), (.bool false), (.int .i64 0)] true⟩,
  ⟨none, none, .store 3 (.t 11) (.t 46)⟩])
 (.seq (.seq (.reg [⟨(some 47), none, .mov (.t 0)⟩,
  ⟨(some 48), none, .call 0 [] (.c (.fn 20 [])) [(.t 47)]⟩])
 (.block 0 (.rfunc (.t 48) 512 [11, 4, 10] [34])))
 (.seq (.reg [⟨(some 66), none, .mov (.t 5)⟩,
  ⟨(some 67), none, .mov (.t 66)⟩,
  ⟨(some 68), (some (67, true)), .load (some 3) (.t 11)⟩,
  ⟨(some 69), (some (67, true)), .load (some 3) (.t 9)⟩,
  ⟨(some 70), (some (67, true)), .call 0 [] (.c (.fn 22 [])) [(.t 68), (.t 69)]⟩,
  ⟨(some 71), none, .pick (.t 67) (.t 70) (.c (.bool false))⟩,
  ⟨(some 72), none, .mov (.t 71)⟩,
  ⟨(some 73), (some (72, true)), .faddr 0 (.t 9)⟩,
  ⟨(some 74), (some (72, true)), .load none (.t 73)⟩,
  ⟨(some 75), (some (72, true)), .bin .neq (.t 74) (.c (.int .i64 0))⟩,
  ⟨(some 76), (some (72, true)), .mov (.t 75)⟩,
  ⟨(some 77), (some (76, false)), .load none (.t 10)⟩,
  ⟨(some 78), (some (76, false)), .mov (.t 8)⟩,
  ⟨(some 79), (some (76, false)), .call 0 [] (.c (.fn 18 [])) [(.t 77), (.t 78)]⟩,
  ⟨(some 80), (some (72, true)), .pick (.t 76) (.c (.bool true)) (.t 79)⟩,
  ⟨(some 81), none, .pick (.t 72) (.t 80) (.c (.bool false))⟩,
  ⟨(some 82), none, .mov (.t 81)⟩,
  ⟨(some 83), (some (82, true)), .mov (.t 1)⟩,
  ⟨(some 84), (some (82, true)), .call 0 [] (.c (.fn 14 [])) [(.t 83)]⟩,
  ⟨(some 85), (some (82, true)), .mov (.t 1)⟩,
  ⟨(some 86), (some (82, true)), .call 0 [] (.c (.fn 23 [])) [(.t 85)]⟩,
  ⟨(some 87), (some (82, true)), .eqb false (.t 84) (.t 86)⟩,
  ⟨(some 88), none, .pick (.t 82) (.t 87) (.c (.bool false))⟩,
  ⟨(some 89), none, .mov (.t 88)⟩,
  ⟨(some 90), (some (89, true)), .mov (.t 1)⟩,
  ⟨(some 91), (some (89, true)), .call 0 [] (.c (.fn 15 [])) [(.t 90)]⟩,
  ⟨(some 92), (some (89, true)), .mov (.t 1)⟩,
  ⟨(some 93), (some (89, true)), .call 0 [] (.c (.fn 24 [])) [(.t 92)]⟩,
  ⟨(some 94), (some (89, true)), .eqb false (.t 91) (.t 93)⟩,
  ⟨(some 95), none, .pick (.t 89) (.t 94) (.c (.bool false))⟩,
  ⟨(some 96), none, .mov (.t 95)⟩,
  ⟨(some 97), (some (96, true)), .mov (.t 1)⟩,
  ⟨(some 98), (some (96, true)), .call 0 [] (.c (.fn 25 [])) [(.t 97)]⟩,
  ⟨(some 99), (some (96, true)), .mov (.t 1)⟩,
  ⟨(some 100), (some (96, true)), .call 0 [] (.c (.fn 26 [])) [(.t 99)]⟩,
  ⟨(some 101), (some (96, true)), .eqb false (.t 98) (.t 100)⟩,
  ⟨(some 102), none, .pick (.t 96) (.t 101) (.c (.bool false))⟩,
  ⟨(some 103), none, .mov (.t 102)⟩,
  ⟨(some 104), (some (103, true)), .mov (.t 1)⟩,
  ⟨(some 105), (some (103, true)), .call 0 [] (.c (.fn 16 [])) [(.t 104)]⟩,
  ⟨(some 106), (some (103, true)), .mov (.t 1)⟩,
  ⟨(some 107), (some (103, true)), .call 0 [] (.c (.fn 27 [])) [(.t 106)]⟩,
  ⟨(some 108), (some (103, true)), .eqb false (.t 105) (.t 107)⟩,
  ⟨(some 109), none, .pick (.t 103) (.t 108) (.c (.bool false))⟩,
  ⟨none, none, .store 1 (.t 4) (.t 109)⟩])
 .ret))))))))))),
  [.cell 4 none], false, true, 110⟩
theorem co8 : compF Tryd.prog ⟨[4, 10, 11], [], [], [], [], [], 8, [(0, [11, 4, 10])], [34], []⟩ false true Tryd.f8 = some ac8 := by kernel_rfl

/-- paideia/paideialaw1.first -/
def ac9 : AF := ⟨(.seq (.reg [⟨(some 0), none, .mov (.c (.bool false))⟩])
 (.seq (.reg [⟨(some 4), none, .bslice [(.int .u8 0)] 6 [(0, (.c (.int .u8 97))), (1, (.c (.int .u8 32))), (2, (.c (.int .u8 45))), (3, (.c (.int .u8 62))), (4, (.c (.int .u8 32))), (5, (.c (.int .u8 66)))]⟩,
  ⟨(some 5), none, .mov (.t 4)⟩,
  ⟨(some 6), none, .call 0 [] (.c (.fn 10 [])) [(.t 5)]⟩,
  ⟨(some 3), none, .mov (.t 6)⟩,
  ⟨(some 7), none, .extract (.t 3) 0⟩,
  ⟨(some 8), none, .extract (.t 3) 1⟩,
  ⟨(some 1), none, .mov (.t 7)⟩,
  ⟨(some 2), none, .mov (.t 8)⟩])
 (.seq (.reg [⟨(some 9), none, .mov (.t 2)⟩,
  ⟨(some 10), none, .eqnil .iface false (.t 9)⟩,
  ⟨(some 11), none, .mov (.t 10)⟩,
  ⟨(some 12), (some (11, true)), .mov (.t 1)⟩,
  ⟨(some 13), (some (11, true)), .len 1 (.t 12)⟩,
  ⟨(some 14), (some (11, true)), .bin .eql (.t 13) (.c (.int .i64 3))⟩,
  ⟨(some 15), none, .pick (.t 11) (.t 14) (.c (.bool false))⟩,
  ⟨(some 16), none, .mov (.t 15)⟩,
  ⟨(some 17), (some (16, true)), .mov (.t 1)⟩,
  ⟨(some 18), (some (16, true)), .iaddr 4 (.t 17) (.c (.int .i64 1))⟩,
  ⟨(some 19), (some (16, true)), .faddr 2 (.t 18)⟩,
  ⟨(some 20), (some (16, true)), .load none (.t 19)⟩,
  ⟨(some 21), (some (16, true)), .bin .eql (.t 20) (.c (.str [45, 62]))⟩,
  ⟨(some 22), none, .pick (.t 16) (.t 21) (.c (.bool false))⟩,
  ⟨(some 23), none, .mov (.t 22)⟩,
  ⟨(some 24), (some (23, true)), .mov (.t 1)⟩,
  ⟨(some 25), (some (23, true)), .iaddr 4 (.t 24) (.c (.int .i64 2))⟩,
  ⟨(some 26), (some (23, true)), .faddr 1 (.t 25)⟩,
  ⟨(some 27), (some (23, true)), .load none (.t 26)⟩,
  ⟨(some 28), (some (23, true)), .bin .eql (.t 27) (.c (.int .i64 5))⟩,
  ⟨(some 29), none, .pick (.t 23) (.t 28) (.c (.bool false))⟩,
  ⟨(some 0), none, .mov (.t 29)⟩])
 .ret))),
  [.t 0], false, true, 30⟩
theorem co9 : compF Tryd.prog ⟨[], [], [], [], [], [], 9, [], [], []⟩ false true Tryd.f9 = some ac9 := by kernel_rfl

/-- paideia/lexer.Split: round 0 -/
def ab10_0 : AB := ⟨[9, 10], (.seq (.reg [⟨(some 5), none, .alloc [(.int .i64 0), (.int .i64 0), (.str []), (.int .i64 0)] false⟩,
  ⟨none, none, .store 4 (.t 5) (.t 9)⟩])
 (.reg [⟨(some 6), none, .mov (.t 10)⟩])),
 (.block 1 (.seq (.seq (.reg [⟨(some 11), none, .mov (.t 6)⟩,
  ⟨(some 12), none, .eqnil .iface true (.t 11)⟩])
 (.cond (.t 12) (.seq (.reg [⟨(some 13), none, .mov (.t 6)⟩,
  ⟨none, none, .store 1 (.t 2) (.c (.sl .clip []))⟩,
  ⟨none, none, .store 1 (.t 3) (.t 13)⟩])
 .ret)
 .skip))
 (.reg [⟨(some 14), none, .load none (.t 4)⟩,
  ⟨(some 15), none, .load (some 4) (.t 5)⟩,
  ⟨(some 16), none, .bslice [(.int .i64 0), (.int .i64 0), (.str []), (.int .i64 0)] 1 [(0, (.t 15))]⟩,
  ⟨(some 17), none, .append 4 (.t 14) (.t 16)⟩,
  ⟨none, none, .store 1 (.t 4) (.t 17)⟩])))⟩
theorem cb10_0 : ((Tryd.f10.body.bind fun c => ((rfs c)[640 % 64]?).map fun t => (t.1, t.2.1, t.2.2, Tryd.f10.ntmps)).bind (compB Tryd.prog ⟨[], [], [], [], [], [], 10, [], [], []⟩)) = some ab10_0 := by kernel_rfl

/-- paideia/lexer.Split -/
def ac10 : AF := ⟨(.seq (.reg [⟨(some 2), none, .alloc [(.sl .clip [])] true⟩,
  ⟨(some 3), none, .alloc [.nili] true⟩])
 (.seq (.reg [⟨(some 4), none, .alloc [(.sl .clip [])] true⟩])
 (.seq (.seq (.reg [⟨(some 7), none, .mov (.t 0)⟩,
  ⟨(some 8), none, .call 0 [] (.c (.fn 20 [])) [(.t 7)]⟩])
 (.block 0 (.rfunc (.t 8) 640 [2, 3, 4] [34])))
 (.seq (.reg [⟨(some 18), none, .load none (.t 4)⟩,
  ⟨none, none, .store 1 (.t 2) (.t 18)⟩,
  ⟨none, none, .store 1 (.t 3) (.c .nili)⟩])
 .ret)))),
  [.cell 2 none, .cell 3 none], false, false, 19⟩
theorem co10 : compF Tryd.prog ⟨[2, 3, 4], [], [], [], [], [], 10, [(0, [2, 3, 4])], [34], []⟩ false false Tryd.f10 = some ac10 := by kernel_rfl

/-- paideia/paideiaworld.Number -/
def ac11 : AF := ⟨(.seq (.reg [⟨(some 4), none, .mov (.c (.int .i64 0))⟩])
 (.seq (.reg [⟨(some 6), none, .mov (.t 0)⟩,
  ⟨(some 7), none, .mov (.t 1)⟩,
  ⟨(some 8), none, .bin .rem (.t 6) (.t 7)⟩,
  ⟨(some 5), none, .mov (.t 8)⟩])
 (.seq (.seq (.reg [⟨(some 9), none, .mov (.t 5)⟩,
  ⟨(some 10), none, .bin .lss (.t 9) (.c (.int .i64 0))⟩])
 (.cond (.t 10) (.reg [⟨(some 11), none, .mov (.t 5)⟩,
  ⟨(some 12), none, .mov (.t 1)⟩,
  ⟨(some 13), none, .bin .add (.t 11) (.t 12)⟩,
  ⟨(some 5), none, .mov (.t 13)⟩])
 .skip))
 (.seq (.reg [⟨(some 14), none, .mov (.t 5)⟩,
  ⟨(some 4), none, .mov (.t 14)⟩])
 .ret)))),
  [.t 4], false, true, 15⟩
theorem co11 : compF Tryd.prog ⟨[], [], [], [], [], [], 11, [], [], []⟩ false true Tryd.f11 = some ac11 := by kernel_rfl

/-- paideia/paideiasee.Same -/
def ac12 : AF := ⟨(.seq (.reg [⟨(some 3), none, .box (.t 1) 3 false⟩,
  ⟨(some 4), none, .mov (.c (.bool false))⟩])
 (.seq (.reg [⟨(some 5), none, .mov (.t 0)⟩,
  ⟨(some 6), none, .call 0 [] (.c (.fn 21 [])) [(.t 5)]⟩,
  ⟨(some 7), none, .loadL (some 3) (.t 3)⟩,
  ⟨(some 8), none, .call 0 [] (.c (.fn 22 [])) [(.t 6), (.t 7)]⟩,
  ⟨(some 4), none, .mov (.t 8)⟩])
 .ret)),
  [.t 4], false, true, 9⟩
theorem co12 : compF Tryd.prog ⟨[], [], [], [], [], [], 12, [], [], []⟩ false true Tryd.f12 = some ac12 := by kernel_rfl

/-- paideia/paideiaref.Placed -/
def ac13 : AF := ⟨(.seq (.reg [⟨(some 4), none, .alloc [(.int .i64 0), (.bool false), (.int .i64 0)] false⟩])
 (.seq (.seq (.reg [⟨(some 5), none, .mov (.t 0)⟩,
  ⟨(some 6), none, .bin .eql (.t 5) (.c (.int .i64 0))⟩])
 (.cond (.t 6) (.seq (.reg [⟨(some 7), none, .call 0 [] (.c (.fn 19 [])) []⟩,
  ⟨none, none, .store 3 (.t 4) (.t 7)⟩])
 .ret)
 .skip))
 (.seq (.reg [⟨(some 8), none, .mov (.t 0)⟩,
  ⟨(some 9), none, .mov (.t 1)⟩,
  ⟨(some 10), none, .build [(.int .i64 0), (.bool false), (.int .i64 0)] [(0, 1, (.t 8)), (1, 1, (.c (.bool true))), (2, 1, (.t 9))]⟩,
  ⟨none, none, .store 3 (.t 4) (.t 10)⟩])
 .ret))),
  [.cell 4 (some 3)], false, true, 11⟩
theorem co13 : compF Tryd.prog ⟨[], [], [], [], [], [], 13, [], [], []⟩ false true Tryd.f13 = some ac13 := by kernel_rfl

/-- paideia/lexer.Low -/
def ac14 : AF := ⟨(.seq (.reg [⟨(some 2), none, .mov (.c (.bool false))⟩])
 (.seq (.reg [⟨(some 3), none, .mov (.t 0)⟩,
  ⟨(some 4), none, .call 0 [] (.c (.fn 28 [])) [(.t 3)]⟩,
  ⟨(some 5), none, .mov (.t 4)⟩,
  ⟨(some 6), (some (5, true)), .mov (.t 0)⟩,
  ⟨(some 7), (some (5, true)), .sindex (.t 6) (.c (.int .i64 0))⟩,
  ⟨(some 8), (some (5, true)), .call 0 [] (.c (.fn 29 [])) [(.t 7)]⟩,
  ⟨(some 9), none, .pick (.t 5) (.t 8) (.c (.bool false))⟩,
  ⟨(some 10), none, .mov (.t 9)⟩,
  ⟨(some 11), (some (10, true)), .mov (.t 0)⟩,
  ⟨(some 12), (some (10, true)), .bin .neq (.t 11) (.c (.str [95]))⟩,
  ⟨(some 13), none, .pick (.t 10) (.t 12) (.c (.bool false))⟩,
  ⟨(some 14), none, .mov (.t 13)⟩,
  ⟨(some 15), (some (14, true)), .mov (.t 0)⟩,
  ⟨(some 16), (some (14, true)), .call 0 [] (.c (.fn 16 [])) [(.t 15)]⟩,
  ⟨(some 17), (some (14, true)), .not (.t 16)⟩,
  ⟨(some 18), none, .pick (.t 14) (.t 17) (.c (.bool false))⟩,
  ⟨(some 2), none, .mov (.t 18)⟩])
 .ret)),
  [.t 2], false, true, 19⟩
theorem co14 : compF Tryd.prog ⟨[], [], [], [], [], [], 14, [], [], []⟩ false true Tryd.f14 = some ac14 := by kernel_rfl

/-- paideia/lexer.High -/
def ac15 : AF := ⟨(.seq (.reg [⟨(some 2), none, .mov (.c (.bool false))⟩])
 (.seq (.reg [⟨(some 3), none, .mov (.t 0)⟩,
  ⟨(some 4), none, .call 0 [] (.c (.fn 28 [])) [(.t 3)]⟩,
  ⟨(some 5), none, .mov (.t 4)⟩,
  ⟨(some 6), (some (5, true)), .mov (.t 0)⟩,
  ⟨(some 7), (some (5, true)), .sindex (.t 6) (.c (.int .i64 0))⟩,
  ⟨(some 8), (some (5, true)), .call 0 [] (.c (.fn 30 [])) [(.t 7)]⟩,
  ⟨(some 9), none, .pick (.t 5) (.t 8) (.c (.bool false))⟩,
  ⟨(some 2), none, .mov (.t 9)⟩])
 .ret)),
  [.t 2], false, true, 10⟩
theorem co15 : compF Tryd.prog ⟨[], [], [], [], [], [], 15, [], [], []⟩ false true Tryd.f15 = some ac15 := by kernel_rfl

/-- paideia/lexer.Reserved -/
def ac16 : AF := ⟨(.seq (.reg [⟨(some 2), none, .mov (.c (.bool false))⟩])
 (.seq (.reg [⟨(some 3), none, .mov (.t 0)⟩,
  ⟨(some 4), none, .bin .neq (.t 3) (.c (.str []))⟩,
  ⟨(some 5), none, .mov (.t 4)⟩,
  ⟨(some 6), (some (5, true)), .mov (.t 0)⟩,
  ⟨(some 7), (some (5, true)), .call 0 [] (.c (.fn 31 [])) [(.t 6), (.c (.str [32]))]⟩,
  ⟨(some 8), (some (5, true)), .not (.t 7)⟩,
  ⟨(some 9), none, .pick (.t 5) (.t 8) (.c (.bool false))⟩,
  ⟨(some 10), none, .mov (.t 9)⟩,
  ⟨(some 11), (some (10, true)), .mov (.t 0)⟩,
  ⟨(some 12), (some (10, true)), .bin .add (.c (.str [32])) (.t 11)⟩,
  ⟨(some 13), (some (10, true)), .bin .add (.t 12) (.c (.str [32]))⟩,
  ⟨(some 14), (some (10, true)), .call 0 [] (.c (.fn 31 [])) [(.c (.str [32, 100, 97, 116, 97, 32, 99, 108, 97, 115, 115, 32, 105, 110, 115, 116, 97, 110, 99, 101, 32, 119, 104, 101, 114, 101, 32, 108, 101, 116, 32, 105, 110, 32, 99, 97, 115, 101, 32, 111, 102, 32, 105, 102, 32, 116, 104, 101, 110, 32, 101, 108, 115, 101, 32, 100, 101, 114, 105, 118, 105, 110, 103, 32])), (.t 13)]⟩,
  ⟨(some 15), none, .pick (.t 10) (.t 14) (.c (.bool false))⟩,
  ⟨(some 2), none, .mov (.t 15)⟩])
 .ret)),
  [.t 2], false, true, 16⟩
theorem co16 : compF Tryd.prog ⟨[], [], [], [], [], [], 16, [], [], []⟩ false true Tryd.f16 = some ac16 := by kernel_rfl

/-- paideia/paideiaref1.Split -/
def ac17 : AF := ⟨(.seq (.reg [⟨(some 2), none, .mov (.c (.sl .clip []))⟩,
  ⟨(some 3), none, .alloc [(.int .i64 0), (.bool false), (.int .i64 0)] false⟩])
 (.seq (.seq (.reg [⟨(some 8), none, .mov (.t 0)⟩,
  ⟨(some 9), none, .len 1 (.t 8)⟩,
  ⟨(some 10), none, .bin .gtr (.t 9) (.c (.int .i64 20000))⟩])
 (.cond (.t 10) (.seq (.reg [⟨(some 11), none, .call 0 [] (.c (.fn 13 [])) [(.c (.int .i64 111)), (.c (.int .i64 20000))]⟩,
  ⟨(some 2), none, .mov (.c (.sl .clip []))⟩,
  ⟨none, none, .store 3 (.t 3) (.t 11)⟩])
 .ret)
 .skip))
 (.seq (.reg [⟨(some 4), none, .mov (.c (.sl .clip []))⟩])
 (.seq (.seq (.reg [⟨(some 5), none, .mov (.c (.int .i64 0))⟩])
 (.block 0 (.loop [0, 4, 5] [3] (.seq (.seq (.reg [⟨(some 12), none, .mov (.t 5)⟩,
  ⟨(some 13), none, .mov (.t 0)⟩,
  ⟨(some 14), none, .len 1 (.t 13)⟩,
  ⟨(some 15), none, .bin .lss (.t 12) (.t 14)⟩])
 (.cond (.t 15) .skip
 (.exit 0)))
 (.block 1 (.block 2 (.seq (.reg [⟨(some 37), none, .mov (.t 0)⟩,
  ⟨(some 38), none, .mov (.t 5)⟩,
  ⟨(some 39), none, .iaddr 1 (.t 37) (.t 38)⟩,
  ⟨(some 40), none, .load none (.t 39)⟩,
  ⟨(some 41), none, .bin .eql (.t 40) (.c (.int .u8 32))⟩,
  ⟨(some 42), none, .mov (.t 41)⟩,
  ⟨(some 43), (some (42, false)), .mov (.t 0)⟩,
  ⟨(some 44), (some (42, false)), .mov (.t 5)⟩,
  ⟨(some 45), (some (42, false)), .iaddr 1 (.t 43) (.t 44)⟩,
  ⟨(some 46), (some (42, false)), .load none (.t 45)⟩,
  ⟨(some 47), (some (42, false)), .bin .eql (.t 46) (.c (.int .u8 9))⟩,
  ⟨(some 48), none, .pick (.t 42) (.c (.bool true)) (.t 47)⟩,
  ⟨(some 49), none, .mov (.t 48)⟩,
  ⟨(some 50), (some (49, false)), .mov (.t 0)⟩,
  ⟨(some 51), (some (49, false)), .mov (.t 5)⟩,
  ⟨(some 52), (some (49, false)), .iaddr 1 (.t 50) (.t 51)⟩,
  ⟨(some 53), (some (49, false)), .load none (.t 52)⟩,
  ⟨(some 54), (some (49, false)), .bin .eql (.t 53) (.c (.int .u8 10))⟩,
  ⟨(some 55), none, .pick (.t 49) (.c (.bool true)) (.t 54)⟩,
  ⟨(some 56), none, .mov (.t 55)⟩,
  ⟨(some 57), (some (56, false)), .mov (.t 0)⟩,
  ⟨(some 58), (some (56, false)), .mov (.t 5)⟩,
  ⟨(some 59), (some (56, false)), .iaddr 1 (.t 57) (.t 58)⟩,
  ⟨(some 60), (some (56, false)), .load none (.t 59)⟩,
  ⟨(some 61), (some (56, false)), .bin .eql (.t 60) (.c (.int .u8 13))⟩,
  ⟨(some 62), none, .pick (.t 56) (.c (.bool true)) (.t 61)⟩,
  ⟨(some 36), none, .mov (.t 62)⟩])
 (.cond (.t 36) (.reg [⟨(some 63), none, .mov (.t 5)⟩,
  ⟨(some 64), none, .bin .add (.t 63) (.c (.int .i64 1))⟩,
  ⟨(some 5), none, .mov (.t 64)⟩])
 (.seq (.reg [⟨(some 66), none, .mov (.t 0)⟩,
  ⟨(some 67), none, .mov (.t 5)⟩,
  ⟨(some 68), none, .iaddr 1 (.t 66) (.t 67)⟩,
  ⟨(some 69), none, .load none (.t 68)⟩,
  ⟨(some 70), none, .bin .eql (.t 69) (.c (.int .u8 45))⟩,
  ⟨(some 71), none, .mov (.t 70)⟩,
  ⟨(some 72), (some (71, true)), .mov (.t 5)⟩,
  ⟨(some 73), (some (71, true)), .bin .add (.t 72) (.c (.int .i64 1))⟩,
  ⟨(some 74), (some (71, true)), .mov (.t 0)⟩,
  ⟨(some 75), (some (71, true)), .len 1 (.t 74)⟩,
  ⟨(some 76), (some (71, true)), .bin .lss (.t 73) (.t 75)⟩,
  ⟨(some 77), none, .pick (.t 71) (.t 76) (.c (.bool false))⟩,
  ⟨(some 78), none, .mov (.t 77)⟩,
  ⟨(some 79), (some (78, true)), .mov (.t 0)⟩,
  ⟨(some 80), (some (78, true)), .mov (.t 5)⟩,
  ⟨(some 81), (some (78, true)), .bin .add (.t 80) (.c (.int .i64 1))⟩,
  ⟨(some 82), (some (78, true)), .iaddr 1 (.t 79) (.t 81)⟩,
  ⟨(some 83), (some (78, true)), .load none (.t 82)⟩,
  ⟨(some 84), (some (78, true)), .bin .eql (.t 83) (.c (.int .u8 45))⟩,
  ⟨(some 85), none, .pick (.t 78) (.t 84) (.c (.bool false))⟩,
  ⟨(some 65), none, .mov (.t 85)⟩])
 (.cond (.t 65) (.block 3 (.loop [0, 4, 5] [3] (.seq (.seq (.reg [⟨(some 86), none, .mov (.t 5)⟩,
  ⟨(some 87), none, .mov (.t 0)⟩,
  ⟨(some 88), none, .len 1 (.t 87)⟩,
  ⟨(some 89), none, .bin .lss (.t 86) (.t 88)⟩,
  ⟨(some 90), none, .mov (.t 89)⟩,
  ⟨(some 91), (some (90, true)), .mov (.t 0)⟩,
  ⟨(some 92), (some (90, true)), .mov (.t 5)⟩,
  ⟨(some 93), (some (90, true)), .iaddr 1 (.t 91) (.t 92)⟩,
  ⟨(some 94), (some (90, true)), .load none (.t 93)⟩,
  ⟨(some 95), (some (90, true)), .bin .neq (.t 94) (.c (.int .u8 10))⟩,
  ⟨(some 96), none, .pick (.t 90) (.t 95) (.c (.bool false))⟩])
 (.cond (.t 96) .skip
 (.exit 3)))
 (.block 4 (.reg [⟨(some 97), none, .mov (.t 5)⟩,
  ⟨(some 98), none, .bin .add (.t 97) (.c (.int .i64 1))⟩,
  ⟨(some 5), none, .mov (.t 98)⟩])))))
 (.seq (.reg [⟨(some 17), none, .mov (.t 0)⟩,
  ⟨(some 18), none, .mov (.t 5)⟩,
  ⟨(some 19), none, .slice 1 (.t 17) (some (.t 18)) none none⟩,
  ⟨(some 20), none, .call 0 [] (.c (.fn 32 [])) [(.t 19)]⟩,
  ⟨(some 16), none, .mov (.t 20)⟩,
  ⟨(some 21), none, .extract (.t 16) 0⟩,
  ⟨(some 22), none, .extract (.t 16) 1⟩,
  ⟨(some 6), none, .alloc [(.int .i64 0), (.int .i64 0), (.str []), (.int .i64 0)] false⟩,
  ⟨none, none, .store 4 (.t 6) (.t 21)⟩,
  ⟨(some 7), none, .mov (.t 22)⟩])
 (.seq (.seq (.reg [⟨(some 23), none, .mov (.t 7)⟩,
  ⟨(some 24), none, .bin .eql (.t 23) (.c (.int .i64 0))⟩])
 (.cond (.t 24) (.seq (.reg [⟨(some 25), none, .mov (.t 5)⟩,
  ⟨(some 26), none, .call 0 [] (.c (.fn 13 [])) [(.c (.int .i64 101)), (.t 25)]⟩,
  ⟨(some 2), none, .mov (.c (.sl .clip []))⟩,
  ⟨none, none, .store 3 (.t 3) (.t 26)⟩])
 .ret)
 .skip))
 (.seq (.reg [⟨(some 27), none, .mov (.t 5)⟩,
  ⟨(some 28), none, .faddr 1 (.t 6)⟩,
  ⟨none, none, .store 1 (.t 28) (.t 27)⟩])
 (.seq (.reg [⟨(some 29), none, .mov (.t 4)⟩,
  ⟨(some 30), none, .load (some 4) (.t 6)⟩,
  ⟨(some 31), none, .bslice [(.int .i64 0), (.int .i64 0), (.str []), (.int .i64 0)] 1 [(0, (.t 30))]⟩,
  ⟨(some 32), none, .append 4 (.t 29) (.t 31)⟩,
  ⟨(some 4), none, .mov (.t 32)⟩])
 (.reg [⟨(some 33), none, .mov (.t 5)⟩,
  ⟨(some 34), none, .mov (.t 7)⟩,
  ⟨(some 35), none, .bin .add (.t 33) (.t 34)⟩,
  ⟨(some 5), none, .mov (.t 35)⟩])))))))))))))))
 (.seq (.reg [⟨(some 99), none, .mov (.t 4)⟩,
  ⟨(some 100), none, .call 0 [] (.c (.fn 19 [])) []⟩,
  ⟨(some 2), none, .mov (.t 99)⟩,
  ⟨none, none, .store 3 (.t 3) (.t 100)⟩])
 .ret))))),
  [.t 2, .cell 3 (some 3)], false, true, 101⟩
theorem co17 : compF Tryd.prog ⟨[], [(5, [0, 4, 5], [3]), (15, [0, 4, 5], [3])], [], [], [], [], 17, [], [], []⟩ false true Tryd.f17 = some ac17 := by kernel_rfl

/-- paideia/paideiaref.SameTokens -/
def ac18 : AF := ⟨(.seq (.reg [⟨(some 4), none, .mov (.c (.bool false))⟩])
 (.seq (.seq (.reg [⟨(some 7), none, .mov (.t 0)⟩,
  ⟨(some 8), none, .len 1 (.t 7)⟩,
  ⟨(some 9), none, .mov (.t 1)⟩,
  ⟨(some 10), none, .len 1 (.t 9)⟩,
  ⟨(some 11), none, .bin .neq (.t 8) (.t 10)⟩])
 (.cond (.t 11) (.seq (.reg [⟨(some 4), none, .mov (.c (.bool false))⟩])
 .ret)
 .skip))
 (.seq (.seq (.reg [⟨(some 5), none, .mov (.c (.int .i64 0))⟩])
 (.block 0 (.loop [0, 1, 5] [] (.seq (.seq (.reg [⟨(some 12), none, .mov (.t 5)⟩,
  ⟨(some 13), none, .mov (.t 0)⟩,
  ⟨(some 14), none, .len 1 (.t 13)⟩,
  ⟨(some 15), none, .bin .lss (.t 12) (.t 14)⟩])
 (.cond (.t 15) .skip
 (.exit 0)))
 (.seq (.block 1 (.seq (.reg [⟨(some 18), none, .mov (.t 0)⟩,
  ⟨(some 19), none, .mov (.t 5)⟩,
  ⟨(some 20), none, .iaddr 4 (.t 18) (.t 19)⟩,
  ⟨(some 21), none, .load (some 4) (.t 20)⟩,
  ⟨(some 22), none, .mov (.t 1)⟩,
  ⟨(some 23), none, .mov (.t 5)⟩,
  ⟨(some 24), none, .iaddr 4 (.t 22) (.t 23)⟩,
  ⟨(some 25), none, .load (some 4) (.t 24)⟩,
  ⟨(some 26), none, .call 0 [] (.c (.fn 33 [])) [(.t 21), (.t 25)]⟩,
  ⟨(some 6), none, .mov (.t 26)⟩])
 (.seq (.reg [⟨(some 27), none, .mov (.t 6)⟩,
  ⟨(some 28), none, .not (.t 27)⟩])
 (.cond (.t 28) (.seq (.reg [⟨(some 4), none, .mov (.c (.bool false))⟩])
 .ret)
 .skip))))
 (.reg [⟨(some 16), none, .mov (.t 5)⟩,
  ⟨(some 17), none, .bin .add (.t 16) (.c (.int .i64 1))⟩,
  ⟨(some 5), none, .mov (.t 17)⟩]))))))
 (.seq (.reg [⟨(some 4), none, .mov (.c (.bool true))⟩])
 .ret)))),
  [.t 4], false, true, 29⟩
theorem co18 : compF Tryd.prog ⟨[], [(4, [0, 1, 5], [])], [], [], [], [], 18, [], [], []⟩ false true Tryd.f18 = some ac18 := by kernel_rfl

/-- paideia/paideiaref.None -/
def ac19 : AF := ⟨(.seq (.reg [⟨(some 0), none, .alloc [(.int .i64 0), (.bool false), (.int .i64 0)] false⟩])
 (.seq (.reg [⟨(some 1), none, .build [(.int .i64 0), (.bool false), (.int .i64 0)] []⟩,
  ⟨none, none, .store 3 (.t 0) (.t 1)⟩])
 .ret)),
  [.cell 0 (some 3)], false, true, 2⟩
theorem co19 : compF Tryd.prog ⟨[], [], [], [], [], [], 19, [], [], []⟩ false true Tryd.f19 = some ac19 := by kernel_rfl

/-- paideia/lexer.All -/
def ac20 : AF := ⟨(.seq (.reg [⟨(some 1), none, .box (.t 0) 1 true⟩,
  ⟨(some 2), none, .mov (.c .nilfn)⟩])
 (.seq (.reg [⟨(some 3), none, .mkfn 34 [(.t 1)]⟩,
  ⟨(some 2), none, .mov (.t 3)⟩])
 .ret)),
  [.t 2], false, false, 4⟩
theorem co20 : compF Tryd.prog ⟨[1], [], [], [], [], [], 20, [], [], []⟩ false false Tryd.f20 = some ac20 := by kernel_rfl

/-- paideia/paideiasee.Fault -/
def ac21 : AF := ⟨(.seq (.reg [⟨(some 2), none, .alloc [(.int .i64 0), (.bool false), (.int .i64 0)] false⟩])
 (.seq (.seq (.reg [⟨(some 5), none, .mov (.t 0)⟩,
  ⟨(some 6), none, .eqnil .iface false (.t 5)⟩])
 (.cond (.t 6) (.seq (.reg [⟨(some 7), none, .call 0 [] (.c (.fn 19 [])) []⟩,
  ⟨none, none, .store 3 (.t 2) (.t 7)⟩])
 .ret)
 .skip))
 (.seq (.reg [⟨(some 9), none, .mov (.t 0)⟩,
  ⟨(some 10), none, .tasent [0, 1, 3, 4, 5, 6, 7, 8, 9, 10, 11, 12, 13, 14, 15] 59 .nilp (.t 9)⟩,
  ⟨(some 8), none, .mov (.t 10)⟩,
  ⟨(some 11), none, .extract (.t 8) 0⟩,
  ⟨(some 12), none, .extract (.t 8) 1⟩,
  ⟨(some 3), none, .mov (.t 11)⟩,
  ⟨(some 4), none, .mov (.t 12)⟩])
 (.seq (.seq (.reg [⟨(some 13), none, .mov (.t 4)⟩,
  ⟨(some 14), none, .not (.t 13)⟩])
 (.cond (.t 14) (.seq (.reg [⟨(some 15), none, .mov (.t 0)⟩,
  ⟨(some 16), none, .call 0 [] (.c (.fn 38 [])) [(.t 15)]⟩,
  ⟨(some 17), none, .call 0 [] (.c (.fn 37 [])) [(.t 16)]⟩,
  ⟨none, none, .store 3 (.t 2) (.t 17)⟩])
 .ret)
 .skip))
 (.seq (.seq (.reg [⟨(some 18), none, .mov (.t 3)⟩,
  ⟨(some 19), none, .eqnil .ptr false (.t 18)⟩,
  ⟨(some 20), none, .mov (.t 19)⟩,
  ⟨(some 21), (some (20, false)), .mov (.t 3)⟩,
  ⟨(some 22), (some (20, false)), .nilck (.t 21)⟩,
  ⟨(some 23), (some (20, false)), .faddr 1 (.t 22)⟩,
  ⟨(some 24), (some (20, false)), .load none (.t 23)⟩,
  ⟨(some 25), (some (20, false)), .eqnil .iface false (.t 24)⟩,
  ⟨(some 26), none, .pick (.t 20) (.c (.bool true)) (.t 25)⟩])
 (.cond (.t 26) (.seq (.reg [⟨(some 27), none, .call 0 [] (.c (.fn 37 [])) [(.c (.int .i64 (-1)))]⟩,
  ⟨none, none, .store 3 (.t 2) (.t 27)⟩])
 .ret)
 .skip))
 (.seq (.reg [⟨(some 28), none, .mov (.t 3)⟩,
  ⟨(some 29), none, .nilck (.t 28)⟩,
  ⟨(some 30), none, .faddr 1 (.t 29)⟩,
  ⟨(some 31), none, .load none (.t 30)⟩,
  ⟨(some 32), none, .callK 0 [] (.c (.fn 38 [])) [(.t 31)] [(.t 3)]⟩,
  ⟨(some 33), none, .mov (.t 3)⟩,
  ⟨(some 34), none, .nilck (.t 33)⟩,
  ⟨(some 35), none, .faddr 0 (.t 34)⟩,
  ⟨(some 36), none, .loadX false none (.t 35) [] [(.t 3)]⟩,
  ⟨(some 37), none, .call 0 [] (.c (.fn 13 [])) [(.t 32), (.t 36)]⟩,
  ⟨none, none, .store 3 (.t 2) (.t 37)⟩])
 .ret)))))),
  [.cell 2 (some 3)], false, true, 38⟩
theorem co21 : compF Tryd.prog ⟨[], [], [], [0, 1, 3, 4, 5, 6, 7, 8, 9, 10, 11, 12, 13, 14, 15, 1000125, 3000002, 4000017], [], [], 21, [], [], [3]⟩ false true Tryd.f21 = some ac21 := by kernel_rfl

/-- paideia/paideiaref.SameFault -/
def ac22 : AF := ⟨(.seq (.reg [⟨(some 2), none, .box (.t 0) 3 false⟩,
  ⟨(some 3), none, .box (.t 1) 3 false⟩,
  ⟨(some 4), none, .mov (.c (.bool false))⟩])
 (.seq (.reg [⟨(some 5), none, .faddr 0 (.t 2)⟩,
  ⟨(some 6), none, .load none (.t 5)⟩,
  ⟨(some 7), none, .faddr 0 (.t 3)⟩,
  ⟨(some 8), none, .load none (.t 7)⟩,
  ⟨(some 9), none, .bin .eql (.t 6) (.t 8)⟩,
  ⟨(some 10), none, .mov (.t 9)⟩,
  ⟨(some 11), (some (10, true)), .faddr 1 (.t 2)⟩,
  ⟨(some 12), (some (10, true)), .load none (.t 11)⟩,
  ⟨(some 13), (some (10, true)), .faddr 1 (.t 3)⟩,
  ⟨(some 14), (some (10, true)), .load none (.t 13)⟩,
  ⟨(some 15), (some (10, true)), .eqb false (.t 12) (.t 14)⟩,
  ⟨(some 16), none, .pick (.t 10) (.t 15) (.c (.bool false))⟩,
  ⟨(some 17), none, .mov (.t 16)⟩,
  ⟨(some 18), (some (17, true)), .faddr 2 (.t 2)⟩,
  ⟨(some 19), (some (17, true)), .load none (.t 18)⟩,
  ⟨(some 20), (some (17, true)), .faddr 2 (.t 3)⟩,
  ⟨(some 21), (some (17, true)), .load none (.t 20)⟩,
  ⟨(some 22), (some (17, true)), .bin .eql (.t 19) (.t 21)⟩,
  ⟨(some 23), none, .pick (.t 17) (.t 22) (.c (.bool false))⟩,
  ⟨(some 4), none, .mov (.t 23)⟩])
 .ret)),
  [.t 4], false, true, 24⟩
theorem co22 : compF Tryd.prog ⟨[], [], [], [], [], [], 22, [], [], []⟩ false true Tryd.f22 = some ac22 := by kernel_rfl

/-- paideia/paideiaref1.Low -/
def ac23 : AF := ⟨(.seq (.reg [⟨(some 2), none, .mov (.c (.bool false))⟩])
 (.seq (.reg [⟨(some 3), none, .mov (.t 0)⟩,
  ⟨(some 4), none, .len 0 (.t 3)⟩,
  ⟨(some 5), none, .bin .gtr (.t 4) (.c (.int .i64 0))⟩,
  ⟨(some 6), none, .mov (.t 5)⟩,
  ⟨(some 7), (some (6, true)), .mov (.t 0)⟩,
  ⟨(some 8), (some (6, true)), .mov (.t 0)⟩,
  ⟨(some 9), (some (6, true)), .sindex (.t 8) (.c (.int .i64 0))⟩,
  ⟨(some 10), (some (6, true)), .call 0 [] (.c (.fn 40 [])) [(.t 9)]⟩,
  ⟨(some 11), (some (6, true)), .call 0 [] (.c (.fn 39 [])) [(.t 7), (.t 10)]⟩,
  ⟨(some 12), none, .pick (.t 6) (.t 11) (.c (.bool false))⟩,
  ⟨(some 13), none, .mov (.t 12)⟩,
  ⟨(some 14), (some (13, true)), .mov (.t 0)⟩,
  ⟨(some 15), (some (13, true)), .bin .neq (.t 14) (.c (.str [95]))⟩,
  ⟨(some 16), none, .pick (.t 13) (.t 15) (.c (.bool false))⟩,
  ⟨(some 17), none, .mov (.t 16)⟩,
  ⟨(some 18), (some (17, true)), .mov (.t 0)⟩,
  ⟨(some 19), (some (17, true)), .call 0 [] (.c (.fn 27 [])) [(.t 18)]⟩,
  ⟨(some 20), (some (17, true)), .not (.t 19)⟩,
  ⟨(some 21), none, .pick (.t 17) (.t 20) (.c (.bool false))⟩,
  ⟨(some 2), none, .mov (.t 21)⟩])
 .ret)),
  [.t 2], false, true, 22⟩
theorem co23 : compF Tryd.prog ⟨[], [], [], [], [], [], 23, [], [], []⟩ false true Tryd.f23 = some ac23 := by kernel_rfl

/-- paideia/paideiaref1.High -/
def ac24 : AF := ⟨(.seq (.reg [⟨(some 2), none, .mov (.c (.bool false))⟩])
 (.seq (.reg [⟨(some 3), none, .mov (.t 0)⟩,
  ⟨(some 4), none, .len 0 (.t 3)⟩,
  ⟨(some 5), none, .bin .gtr (.t 4) (.c (.int .i64 0))⟩,
  ⟨(some 6), none, .mov (.t 5)⟩,
  ⟨(some 7), (some (6, true)), .mov (.t 0)⟩,
  ⟨(some 8), (some (6, true)), .mov (.t 0)⟩,
  ⟨(some 9), (some (6, true)), .sindex (.t 8) (.c (.int .i64 0))⟩,
  ⟨(some 10), (some (6, true)), .call 0 [] (.c (.fn 41 [])) [(.t 9)]⟩,
  ⟨(some 11), (some (6, true)), .call 0 [] (.c (.fn 39 [])) [(.t 7), (.t 10)]⟩,
  ⟨(some 12), none, .pick (.t 6) (.t 11) (.c (.bool false))⟩,
  ⟨(some 2), none, .mov (.t 12)⟩])
 .ret)),
  [.t 2], false, true, 13⟩
theorem co24 : compF Tryd.prog ⟨[], [], [], [], [], [], 24, [], [], []⟩ false true Tryd.f24 = some ac24 := by kernel_rfl

/-- paideia/lexer.Operator -/
def ac25 : AF := ⟨(.seq (.reg [⟨(some 2), none, .mov (.c (.bool false))⟩])
 (.seq (.seq (.reg [⟨(some 5), none, .call 0 [] (.c (.fn 42 [])) [(.c (.str [61, 61, 32, 47, 61, 32, 60, 61, 32, 62, 61, 32, 60, 32, 62, 32, 43, 32, 45, 32, 42]))]⟩,
  ⟨(some 6), none, .len 1 (.t 5)⟩,
  ⟨(some 7), none, .mov (.c (.int .i64 0))⟩])
 (.block 0 (.loop [0, 5, 6, 7] [] (.seq (.reg [⟨(some 8), none, .bin .lss (.t 7) (.t 6)⟩])
 (.seq (.cond (.t 8) .skip
 (.exit 0))
 (.seq (.block 1 (.seq (.reg [⟨(some 9), none, .iaddr 1 (.t 5) (.t 7)⟩,
  ⟨(some 10), none, .load none (.t 9)⟩,
  ⟨(some 4), none, .mov (.t 10)⟩])
 (.seq (.reg [⟨(some 11), none, .mov (.t 0)⟩,
  ⟨(some 12), none, .mov (.t 4)⟩,
  ⟨(some 13), none, .bin .eql (.t 11) (.t 12)⟩])
 (.cond (.t 13) (.seq (.reg [⟨(some 2), none, .mov (.c (.bool true))⟩])
 .ret)
 .skip))))
 (.reg [⟨(some 14), none, .bin .add (.t 7) (.c (.int .i64 1))⟩,
  ⟨(some 7), none, .mov (.t 14)⟩])))))))
 (.seq (.reg [⟨(some 2), none, .mov (.c (.bool false))⟩])
 .ret))),
  [.t 2], false, true, 15⟩
theorem co25 : compF Tryd.prog ⟨[], [(2, [0, 5, 6, 7], [])], [], [], [], [], 25, [], [], []⟩ false true Tryd.f25 = some ac25 := by kernel_rfl

/-- paideia/paideiaref1.Operator -/
def ac26 : AF := ⟨(.seq (.reg [⟨(some 2), none, .mov (.c (.bool false))⟩])
 (.seq (.reg [⟨(some 3), none, .call 0 [] (.c (.fn 44 [])) []⟩,
  ⟨(some 4), none, .mov (.t 0)⟩,
  ⟨(some 5), none, .call 0 [] (.c (.fn 43 [])) [(.t 3), (.t 4)]⟩,
  ⟨(some 2), none, .mov (.t 5)⟩])
 .ret)),
  [.t 2], false, true, 6⟩
theorem co26 : compF Tryd.prog ⟨[], [], [], [], [], [], 26, [], [], []⟩ false true Tryd.f26 = some ac26 := by kernel_rfl

/-- paideia/paideiaref1.Reserved -/
def ac27 : AF := ⟨(.seq (.reg [⟨(some 2), none, .mov (.c (.bool false))⟩])
 (.seq (.reg [⟨(some 3), none, .call 0 [] (.c (.fn 45 [])) []⟩,
  ⟨(some 4), none, .mov (.t 0)⟩,
  ⟨(some 5), none, .call 0 [] (.c (.fn 43 [])) [(.t 3), (.t 4)]⟩,
  ⟨(some 2), none, .mov (.t 5)⟩])
 .ret)),
  [.t 2], false, true, 6⟩
theorem co27 : compF Tryd.prog ⟨[], [], [], [], [], [], 27, [], [], []⟩ false true Tryd.f27 = some ac27 := by kernel_rfl

/-- paideia/lexer.isName -/
def ac28 : AF := ⟨(.seq (.reg [⟨(some 2), none, .mov (.c (.bool false))⟩])
 (.seq (.seq (.reg [⟨(some 4), none, .mov (.t 0)⟩,
  ⟨(some 5), none, .len 0 (.t 4)⟩,
  ⟨(some 6), none, .mov (.c (.int .i64 0))⟩])
 (.block 0 (.loop [0, 5, 6] [] (.seq (.reg [⟨(some 7), none, .bin .lss (.t 6) (.t 5)⟩])
 (.seq (.cond (.t 7) .skip
 (.exit 0))
 (.seq (.block 1 (.seq (.reg [⟨(some 8), none, .mov (.t 6)⟩,
  ⟨(some 3), none, .mov (.t 8)⟩])
 (.seq (.reg [⟨(some 9), none, .mov (.t 0)⟩,
  ⟨(some 10), none, .mov (.t 3)⟩,
  ⟨(some 11), none, .sindex (.t 9) (.t 10)⟩,
  ⟨(some 12), none, .call 0 [] (.c (.fn 46 [])) [(.t 11)]⟩,
  ⟨(some 13), none, .not (.t 12)⟩])
 (.cond (.t 13) (.seq (.reg [⟨(some 2), none, .mov (.c (.bool false))⟩])
 .ret)
 .skip))))
 (.reg [⟨(some 14), none, .bin .add (.t 6) (.c (.int .i64 1))⟩,
  ⟨(some 6), none, .mov (.t 14)⟩])))))))
 (.seq (.reg [⟨(some 15), none, .mov (.t 0)⟩,
  ⟨(some 16), none, .len 0 (.t 15)⟩,
  ⟨(some 17), none, .bin .gtr (.t 16) (.c (.int .i64 0))⟩,
  ⟨(some 18), none, .mov (.t 17)⟩,
  ⟨(some 19), (some (18, true)), .mov (.t 0)⟩,
  ⟨(some 20), (some (18, true)), .len 0 (.t 19)⟩,
  ⟨(some 21), (some (18, true)), .bin .leq (.t 20) (.c (.int .i64 40))⟩,
  ⟨(some 22), none, .pick (.t 18) (.t 21) (.c (.bool false))⟩,
  ⟨(some 2), none, .mov (.t 22)⟩])
 .ret))),
  [.t 2], false, true, 23⟩
theorem co28 : compF Tryd.prog ⟨[], [(2, [0, 5, 6], [])], [], [], [], [], 28, [], [], []⟩ false true Tryd.f28 = some ac28 := by kernel_rfl

/-- paideia/lexer.isSmall -/
def ac29 : AF := ⟨(.seq (.reg [⟨(some 2), none, .mov (.c (.bool false))⟩])
 (.seq (.reg [⟨(some 3), none, .mov (.t 0)⟩,
  ⟨(some 4), none, .bin .geq (.t 3) (.c (.int .u8 97))⟩,
  ⟨(some 5), none, .mov (.t 4)⟩,
  ⟨(some 6), (some (5, true)), .mov (.t 0)⟩,
  ⟨(some 7), (some (5, true)), .bin .leq (.t 6) (.c (.int .u8 122))⟩,
  ⟨(some 8), none, .pick (.t 5) (.t 7) (.c (.bool false))⟩,
  ⟨(some 9), none, .mov (.t 8)⟩,
  ⟨(some 10), (some (9, false)), .mov (.t 0)⟩,
  ⟨(some 11), (some (9, false)), .bin .eql (.t 10) (.c (.int .u8 95))⟩,
  ⟨(some 12), none, .pick (.t 9) (.c (.bool true)) (.t 11)⟩,
  ⟨(some 2), none, .mov (.t 12)⟩])
 .ret)),
  [.t 2], false, true, 13⟩
theorem co29 : compF Tryd.prog ⟨[], [], [], [], [], [], 29, [], [], []⟩ false true Tryd.f29 = some ac29 := by kernel_rfl

/-- paideia/lexer.isGreat -/
def ac30 : AF := ⟨(.seq (.reg [⟨(some 2), none, .mov (.c (.bool false))⟩])
 (.seq (.reg [⟨(some 3), none, .mov (.t 0)⟩,
  ⟨(some 4), none, .bin .geq (.t 3) (.c (.int .u8 65))⟩,
  ⟨(some 5), none, .mov (.t 4)⟩,
  ⟨(some 6), (some (5, true)), .mov (.t 0)⟩,
  ⟨(some 7), (some (5, true)), .bin .leq (.t 6) (.c (.int .u8 90))⟩,
  ⟨(some 8), none, .pick (.t 5) (.t 7) (.c (.bool false))⟩,
  ⟨(some 2), none, .mov (.t 8)⟩])
 .ret)),
  [.t 2], false, true, 9⟩
theorem co30 : compF Tryd.prog ⟨[], [], [], [], [], [], 30, [], [], []⟩ false true Tryd.f30 = some ac30 := by kernel_rfl

/-- paideia/paideiaref1.word -/
def ac32 : AF := ⟨(.seq (.reg [⟨(some 2), none, .alloc [(.int .i64 0), (.int .i64 0), (.str []), (.int .i64 0)] false⟩,
  ⟨(some 3), none, .mov (.c (.int .i64 0))⟩])
 (.seq (.reg [⟨(some 17), none, .mov (.t 0)⟩,
  ⟨(some 18), none, .iaddr 1 (.t 17) (.c (.int .i64 0))⟩,
  ⟨(some 19), none, .load none (.t 18)⟩,
  ⟨(some 4), none, .mov (.t 19)⟩])
 (.seq (.reg [⟨(some 5), none, .mov (.c (.int .i64 1))⟩])
 (.seq (.block 0 (.seq (.reg [⟨(some 21), none, .mov (.t 4)⟩,
  ⟨(some 22), none, .call 0 [] (.c (.fn 40 [])) [(.t 21)]⟩,
  ⟨(some 23), none, .mov (.t 22)⟩,
  ⟨(some 24), (some (23, false)), .mov (.t 4)⟩,
  ⟨(some 25), (some (23, false)), .call 0 [] (.c (.fn 41 [])) [(.t 24)]⟩,
  ⟨(some 26), none, .pick (.t 23) (.c (.bool true)) (.t 25)⟩,
  ⟨(some 20), none, .mov (.t 26)⟩])
 (.cond (.t 20) (.seq (.block 1 (.loop [0, 4, 5] [2] (.seq (.seq (.reg [⟨(some 27), none, .mov (.t 5)⟩,
  ⟨(some 28), none, .mov (.t 0)⟩,
  ⟨(some 29), none, .len 1 (.t 28)⟩,
  ⟨(some 30), none, .bin .lss (.t 27) (.t 29)⟩,
  ⟨(some 31), none, .mov (.t 30)⟩,
  ⟨(some 32), (some (31, true)), .mov (.t 0)⟩,
  ⟨(some 33), (some (31, true)), .mov (.t 5)⟩,
  ⟨(some 34), (some (31, true)), .iaddr 1 (.t 32) (.t 33)⟩,
  ⟨(some 35), (some (31, true)), .load none (.t 34)⟩,
  ⟨(some 36), (some (31, true)), .call 0 [] (.c (.fn 48 [])) [(.t 35)]⟩,
  ⟨(some 37), none, .pick (.t 31) (.t 36) (.c (.bool false))⟩])
 (.cond (.t 37) .skip
 (.exit 1)))
 (.block 2 (.reg [⟨(some 38), none, .mov (.t 5)⟩,
  ⟨(some 39), none, .bin .add (.t 38) (.c (.int .i64 1))⟩,
  ⟨(some 5), none, .mov (.t 39)⟩])))))
 (.seq (.reg [⟨(some 40), none, .mov (.t 0)⟩,
  ⟨(some 41), none, .mov (.t 5)⟩,
  ⟨(some 42), none, .slice 1 (.t 40) none (some (.t 41)) none⟩,
  ⟨(some 43), none, .conv .text (.t 42)⟩,
  ⟨(some 6), none, .mov (.t 43)⟩])
 (.seq (.reg [⟨(some 7), none, .mov (.c (.int .i64 1))⟩])
 (.seq (.seq (.reg [⟨(some 44), none, .mov (.t 4)⟩,
  ⟨(some 45), none, .call 0 [] (.c (.fn 41 [])) [(.t 44)]⟩])
 (.cond (.t 45) (.reg [⟨(some 7), none, .mov (.c (.int .i64 2))⟩])
 (.seq (.reg [⟨(some 46), none, .mov (.t 6)⟩,
  ⟨(some 47), none, .bin .eql (.t 46) (.c (.str [95]))⟩,
  ⟨(some 48), none, .mov (.t 47)⟩,
  ⟨(some 49), (some (48, false)), .mov (.t 6)⟩,
  ⟨(some 50), (some (48, false)), .call 0 [] (.c (.fn 27 [])) [(.t 49)]⟩,
  ⟨(some 51), none, .pick (.t 48) (.c (.bool true)) (.t 50)⟩])
 (.cond (.t 51) (.reg [⟨(some 7), none, .mov (.c (.int .i64 6))⟩])
 .skip))))
 (.seq (.seq (.reg [⟨(some 52), none, .mov (.t 5)⟩,
  ⟨(some 53), none, .bin .gtr (.t 52) (.c (.int .i64 40))⟩])
 (.cond (.t 53) (.seq (.reg [⟨(some 54), none, .build [(.int .i64 0), (.int .i64 0), (.str []), (.int .i64 0)] []⟩,
  ⟨none, none, .store 4 (.t 2) (.t 54)⟩,
  ⟨(some 3), none, .mov (.c (.int .i64 0))⟩])
 .ret)
 .skip))
 (.seq (.reg [⟨(some 55), none, .mov (.t 7)⟩,
  ⟨(some 56), none, .mov (.t 6)⟩,
  ⟨(some 57), none, .build [(.int .i64 0), (.int .i64 0), (.str []), (.int .i64 0)] [(0, 1, (.t 55)), (2, 1, (.t 56))]⟩,
  ⟨(some 58), none, .mov (.t 5)⟩,
  ⟨none, none, .store 4 (.t 2) (.t 57)⟩,
  ⟨(some 3), none, .mov (.t 58)⟩])
 .ret))))))
 (.seq (.reg [⟨(some 60), none, .mov (.t 4)⟩,
  ⟨(some 61), none, .call 0 [] (.c (.fn 49 [])) [(.t 60)]⟩,
  ⟨(some 59), none, .mov (.t 61)⟩])
 (.cond (.t 59) (.seq (.block 3 (.loop [0, 5] [2] (.seq (.seq (.reg [⟨(some 62), none, .mov (.t 5)⟩,
  ⟨(some 63), none, .mov (.t 0)⟩,
  ⟨(some 64), none, .len 1 (.t 63)⟩,
  ⟨(some 65), none, .bin .lss (.t 62) (.t 64)⟩,
  ⟨(some 66), none, .mov (.t 65)⟩,
  ⟨(some 67), (some (66, true)), .mov (.t 0)⟩,
  ⟨(some 68), (some (66, true)), .mov (.t 5)⟩,
  ⟨(some 69), (some (66, true)), .iaddr 1 (.t 67) (.t 68)⟩,
  ⟨(some 70), (some (66, true)), .load none (.t 69)⟩,
  ⟨(some 71), (some (66, true)), .call 0 [] (.c (.fn 49 [])) [(.t 70)]⟩,
  ⟨(some 72), none, .pick (.t 66) (.t 71) (.c (.bool false))⟩])
 (.cond (.t 72) .skip
 (.exit 3)))
 (.block 4 (.reg [⟨(some 73), none, .mov (.t 5)⟩,
  ⟨(some 74), none, .bin .add (.t 73) (.c (.int .i64 1))⟩,
  ⟨(some 5), none, .mov (.t 74)⟩])))))
 (.seq (.seq (.reg [⟨(some 75), none, .mov (.t 5)⟩,
  ⟨(some 76), none, .bin .gtr (.t 75) (.c (.int .i64 15))⟩])
 (.cond (.t 76) (.seq (.reg [⟨(some 77), none, .build [(.int .i64 0), (.int .i64 0), (.str []), (.int .i64 0)] []⟩,
  ⟨none, none, .store 4 (.t 2) (.t 77)⟩,
  ⟨(some 3), none, .mov (.c (.int .i64 0))⟩])
 .ret)
 .skip))
 (.seq (.reg [⟨(some 8), none, .mov (.c (.int .i64 0))⟩])
 (.seq (.seq (.reg [⟨(some 9), none, .mov (.c (.int .i64 0))⟩])
 (.block 5 (.loop [0, 5, 8, 9] [2] (.seq (.seq (.reg [⟨(some 78), none, .mov (.t 9)⟩,
  ⟨(some 79), none, .mov (.t 5)⟩,
  ⟨(some 80), none, .bin .lss (.t 78) (.t 79)⟩])
 (.cond (.t 80) .skip
 (.exit 5)))
 (.seq (.block 6 (.reg [⟨(some 83), none, .mov (.t 8)⟩,
  ⟨(some 84), none, .bin .mul (.c (.int .i64 10)) (.t 83)⟩,
  ⟨(some 85), none, .mov (.t 0)⟩,
  ⟨(some 86), none, .mov (.t 9)⟩,
  ⟨(some 87), none, .iaddr 1 (.t 85) (.t 86)⟩,
  ⟨(some 88), none, .load none (.t 87)⟩,
  ⟨(some 89), none, .bin .sub (.t 88) (.c (.int .u8 48))⟩,
  ⟨(some 90), none, .conv (.int .i64) (.t 89)⟩,
  ⟨(some 91), none, .bin .add (.t 84) (.t 90)⟩,
  ⟨(some 8), none, .mov (.t 91)⟩]))
 (.reg [⟨(some 81), none, .mov (.t 9)⟩,
  ⟨(some 82), none, .bin .add (.t 81) (.c (.int .i64 1))⟩,
  ⟨(some 9), none, .mov (.t 82)⟩]))))))
 (.seq (.reg [⟨(some 92), none, .mov (.t 0)⟩,
  ⟨(some 93), none, .mov (.t 5)⟩,
  ⟨(some 94), none, .slice 1 (.t 92) none (some (.t 93)) none⟩,
  ⟨(some 95), none, .conv .text (.t 94)⟩,
  ⟨(some 96), none, .mov (.t 8)⟩,
  ⟨(some 97), none, .build [(.int .i64 0), (.int .i64 0), (.str []), (.int .i64 0)] [(0, 1, (.c (.int .i64 3))), (2, 1, (.t 95)), (3, 1, (.t 96))]⟩,
  ⟨(some 98), none, .mov (.t 5)⟩,
  ⟨none, none, .store 4 (.t 2) (.t 97)⟩,
  ⟨(some 3), none, .mov (.t 98)⟩])
 .ret)))))
 (.seq (.reg [⟨(some 100), none, .mov (.t 4)⟩,
  ⟨(some 101), none, .bin .eql (.t 100) (.c (.int .u8 39))⟩,
  ⟨(some 99), none, .mov (.t 101)⟩])
 (.cond (.t 99) (.seq (.reg [⟨(some 103), none, .mov (.t 0)⟩,
  ⟨(some 104), none, .call 0 [] (.c (.fn 50 [])) [(.t 103)]⟩,
  ⟨(some 102), none, .mov (.t 104)⟩,
  ⟨(some 105), none, .extract (.t 102) 0⟩,
  ⟨(some 106), none, .extract (.t 102) 1⟩,
  ⟨(some 10), none, .mov (.t 105)⟩,
  ⟨(some 11), none, .mov (.t 106)⟩])
 (.seq (.seq (.reg [⟨(some 107), none, .mov (.t 10)⟩,
  ⟨(some 108), none, .bin .eql (.t 107) (.c (.int .i64 0))⟩])
 (.cond (.t 108) (.seq (.reg [⟨(some 109), none, .build [(.int .i64 0), (.int .i64 0), (.str []), (.int .i64 0)] []⟩,
  ⟨none, none, .store 4 (.t 2) (.t 109)⟩,
  ⟨(some 3), none, .mov (.c (.int .i64 0))⟩])
 .ret)
 .skip))
 (.seq (.reg [⟨(some 110), none, .mov (.t 0)⟩,
  ⟨(some 111), none, .mov (.t 10)⟩,
  ⟨(some 112), none, .slice 1 (.t 110) none (some (.t 111)) none⟩,
  ⟨(some 113), none, .conv .text (.t 112)⟩,
  ⟨(some 114), none, .mov (.t 11)⟩,
  ⟨(some 115), none, .build [(.int .i64 0), (.int .i64 0), (.str []), (.int .i64 0)] [(0, 1, (.c (.int .i64 4))), (2, 1, (.t 113)), (3, 1, (.t 114))]⟩,
  ⟨(some 116), none, .mov (.t 10)⟩,
  ⟨none, none, .store 4 (.t 2) (.t 115)⟩,
  ⟨(some 3), none, .mov (.t 116)⟩])
 .ret)))
 .skip)))))))
 (.seq (.reg [⟨(some 12), none, .mov (.c (.str []))⟩])
 (.seq (.seq (.reg [⟨(some 117), none, .mov (.t 0)⟩,
  ⟨(some 118), none, .len 1 (.t 117)⟩,
  ⟨(some 119), none, .bin .gtr (.t 118) (.c (.int .i64 1))⟩])
 (.cond (.t 119) (.reg [⟨(some 120), none, .mov (.t 0)⟩,
  ⟨(some 121), none, .slice 1 (.t 120) none (some (.c (.int .i64 2))) none⟩,
  ⟨(some 122), none, .conv .text (.t 121)⟩,
  ⟨(some 12), none, .mov (.t 122)⟩])
 .skip))
 (.seq (.seq (.reg [⟨(some 123), none, .mov (.t 12)⟩,
  ⟨(some 124), none, .bin .eql (.t 123) (.c (.str [45, 62]))⟩,
  ⟨(some 125), none, .mov (.t 124)⟩,
  ⟨(some 126), (some (125, false)), .mov (.t 12)⟩,
  ⟨(some 127), (some (125, false)), .bin .eql (.t 126) (.c (.str [61, 62]))⟩,
  ⟨(some 128), none, .pick (.t 125) (.c (.bool true)) (.t 127)⟩,
  ⟨(some 129), none, .mov (.t 128)⟩,
  ⟨(some 130), (some (129, false)), .mov (.t 12)⟩,
  ⟨(some 131), (some (129, false)), .bin .eql (.t 130) (.c (.str [58, 58]))⟩,
  ⟨(some 132), none, .pick (.t 129) (.c (.bool true)) (.t 131)⟩])
 (.cond (.t 132) (.seq (.reg [⟨(some 133), none, .mov (.t 12)⟩,
  ⟨(some 134), none, .build [(.int .i64 0), (.int .i64 0), (.str []), (.int .i64 0)] [(0, 1, (.c (.int .i64 6))), (2, 1, (.t 133))]⟩,
  ⟨none, none, .store 4 (.t 2) (.t 134)⟩,
  ⟨(some 3), none, .mov (.c (.int .i64 2))⟩])
 .ret)
 .skip))
 (.seq (.reg [⟨(some 135), none, .call 0 [] (.c (.fn 44 [])) []⟩,
  ⟨(some 13), none, .mov (.t 135)⟩])
 (.seq (.seq (.reg [⟨(some 14), none, .mov (.c (.int .i64 0))⟩])
 (.block 7 (.loop [4, 12, 13, 14] [2] (.seq (.seq (.reg [⟨(some 136), none, .mov (.t 14)⟩,
  ⟨(some 137), none, .mov (.t 13)⟩,
  ⟨(some 138), none, .len 1 (.t 137)⟩,
  ⟨(some 139), none, .bin .lss (.t 136) (.t 138)⟩])
 (.cond (.t 139) .skip
 (.exit 7)))
 (.seq (.block 8 (.seq (.reg [⟨(some 142), none, .mov (.t 12)⟩,
  ⟨(some 143), none, .mov (.t 13)⟩,
  ⟨(some 144), none, .mov (.t 14)⟩,
  ⟨(some 145), none, .iaddr 1 (.t 143) (.t 144)⟩,
  ⟨(some 146), none, .load none (.t 145)⟩,
  ⟨(some 147), none, .bin .eql (.t 142) (.t 146)⟩,
  ⟨(some 148), none, .mov (.t 147)⟩,
  ⟨(some 149), (some (148, false)), .mov (.t 4)⟩,
  ⟨(some 150), (some (148, false)), .conv .rune (.t 149)⟩,
  ⟨(some 151), (some (148, false)), .mov (.t 13)⟩,
  ⟨(some 152), (some (148, false)), .mov (.t 14)⟩,
  ⟨(some 153), (some (148, false)), .iaddr 1 (.t 151) (.t 152)⟩,
  ⟨(some 154), (some (148, false)), .load none (.t 153)⟩,
  ⟨(some 155), (some (148, false)), .bin .eql (.t 150) (.t 154)⟩,
  ⟨(some 156), none, .pick (.t 148) (.c (.bool true)) (.t 155)⟩])
 (.cond (.t 156) (.seq (.reg [⟨(some 157), none, .mov (.t 13)⟩,
  ⟨(some 158), none, .mov (.t 14)⟩,
  ⟨(some 159), none, .iaddr 1 (.t 157) (.t 158)⟩,
  ⟨(some 160), none, .load none (.t 159)⟩,
  ⟨(some 161), none, .build [(.int .i64 0), (.int .i64 0), (.str []), (.int .i64 0)] [(0, 1, (.c (.int .i64 5))), (2, 1, (.t 160))]⟩,
  ⟨(some 162), none, .mov (.t 13)⟩,
  ⟨(some 163), none, .mov (.t 14)⟩,
  ⟨(some 164), none, .iaddr 1 (.t 162) (.t 163)⟩,
  ⟨(some 165), none, .loadX true none (.t 164) [(.t 2)] []⟩,
  ⟨(some 166), none, .len 0 (.t 165)⟩,
  ⟨none, none, .storeX true 4 (.t 2) (.t 161) [] []⟩,
  ⟨(some 3), none, .mov (.t 166)⟩])
 .ret)
 .skip)))
 (.reg [⟨(some 140), none, .mov (.t 14)⟩,
  ⟨(some 141), none, .bin .add (.t 140) (.c (.int .i64 1))⟩,
  ⟨(some 14), none, .mov (.t 141)⟩]))))))
 (.seq (.reg [⟨(some 15), none, .mov (.c (.str [40, 41, 123, 125, 44, 59, 61, 92, 124]))⟩])
 (.seq (.seq (.reg [⟨(some 16), none, .mov (.c (.int .i64 0))⟩])
 (.block 9 (.loop [4, 15, 16] [2] (.seq (.seq (.reg [⟨(some 167), none, .mov (.t 16)⟩,
  ⟨(some 168), none, .mov (.t 15)⟩,
  ⟨(some 169), none, .len 0 (.t 168)⟩,
  ⟨(some 170), none, .bin .lss (.t 167) (.t 169)⟩])
 (.cond (.t 170) .skip
 (.exit 9)))
 (.seq (.block 10 (.seq (.reg [⟨(some 173), none, .mov (.t 4)⟩,
  ⟨(some 174), none, .mov (.t 15)⟩,
  ⟨(some 175), none, .mov (.t 16)⟩,
  ⟨(some 176), none, .sindex (.t 174) (.t 175)⟩,
  ⟨(some 177), none, .bin .eql (.t 173) (.t 176)⟩])
 (.cond (.t 177) (.seq (.reg [⟨(some 178), none, .mov (.t 4)⟩,
  ⟨(some 179), none, .conv .rune (.t 178)⟩,
  ⟨(some 180), none, .build [(.int .i64 0), (.int .i64 0), (.str []), (.int .i64 0)] [(0, 1, (.c (.int .i64 6))), (2, 1, (.t 179))]⟩,
  ⟨none, none, .store 4 (.t 2) (.t 180)⟩,
  ⟨(some 3), none, .mov (.c (.int .i64 1))⟩])
 .ret)
 .skip)))
 (.reg [⟨(some 171), none, .mov (.t 16)⟩,
  ⟨(some 172), none, .bin .add (.t 171) (.c (.int .i64 1))⟩,
  ⟨(some 16), none, .mov (.t 172)⟩]))))))
 (.seq (.reg [⟨(some 181), none, .build [(.int .i64 0), (.int .i64 0), (.str []), (.int .i64 0)] []⟩,
  ⟨none, none, .store 4 (.t 2) (.t 181)⟩,
  ⟨(some 3), none, .mov (.c (.int .i64 0))⟩])
 .ret)))))))))))),
  [.cell 2 (some 4), .t 3], false, true, 182⟩
theorem co32 : compF Tryd.prog ⟨[], [(16, [0, 5], [2]), (22, [0, 5, 8, 9], [2]), (4, [0, 4, 5], [2]), (38, [4, 12, 13, 14], [2]), (44, [4, 15, 16], [2])], [], [], [], [], 32, [], [], []⟩ false true Tryd.f32 = some ac32 := by kernel_rfl

/-- paideia/paideiaref.SameToken -/
def ac33 : AF := ⟨(.seq (.reg [⟨(some 2), none, .box (.t 0) 4 false⟩,
  ⟨(some 3), none, .box (.t 1) 4 false⟩,
  ⟨(some 4), none, .mov (.c (.bool false))⟩])
 (.seq (.reg [⟨(some 5), none, .faddr 0 (.t 2)⟩,
  ⟨(some 6), none, .load none (.t 5)⟩,
  ⟨(some 7), none, .faddr 0 (.t 3)⟩,
  ⟨(some 8), none, .load none (.t 7)⟩,
  ⟨(some 9), none, .bin .eql (.t 6) (.t 8)⟩,
  ⟨(some 10), none, .mov (.t 9)⟩,
  ⟨(some 11), (some (10, true)), .faddr 1 (.t 2)⟩,
  ⟨(some 12), (some (10, true)), .load none (.t 11)⟩,
  ⟨(some 13), (some (10, true)), .faddr 1 (.t 3)⟩,
  ⟨(some 14), (some (10, true)), .load none (.t 13)⟩,
  ⟨(some 15), (some (10, true)), .bin .eql (.t 12) (.t 14)⟩,
  ⟨(some 16), none, .pick (.t 10) (.t 15) (.c (.bool false))⟩,
  ⟨(some 17), none, .mov (.t 16)⟩,
  ⟨(some 18), (some (17, true)), .faddr 2 (.t 2)⟩,
  ⟨(some 19), (some (17, true)), .load none (.t 18)⟩,
  ⟨(some 20), (some (17, true)), .faddr 2 (.t 3)⟩,
  ⟨(some 21), (some (17, true)), .load none (.t 20)⟩,
  ⟨(some 22), (some (17, true)), .bin .eql (.t 19) (.t 21)⟩,
  ⟨(some 23), none, .pick (.t 17) (.t 22) (.c (.bool false))⟩,
  ⟨(some 24), none, .mov (.t 23)⟩,
  ⟨(some 25), (some (24, true)), .faddr 3 (.t 2)⟩,
  ⟨(some 26), (some (24, true)), .load none (.t 25)⟩,
  ⟨(some 27), (some (24, true)), .faddr 3 (.t 3)⟩,
  ⟨(some 28), (some (24, true)), .load none (.t 27)⟩,
  ⟨(some 29), (some (24, true)), .bin .eql (.t 26) (.t 28)⟩,
  ⟨(some 30), none, .pick (.t 24) (.t 29) (.c (.bool false))⟩,
  ⟨(some 4), none, .mov (.t 30)⟩])
 .ret)),
  [.t 4], false, true, 31⟩
theorem co33 : compF Tryd.prog ⟨[], [], [], [], [], [], 33, [], [], []⟩ false true Tryd.f33 = some ac33 := by kernel_rfl

/-- paideia/lexer.All$1 -/
def ac34 : AF := ⟨(.seq (.seq (.reg [⟨(some 7), none, .load none (.t 1)⟩,
  ⟨(some 8), none, .len 1 (.t 7)⟩,
  ⟨(some 9), none, .bin .gtr (.t 8) (.c (.int .i64 20000))⟩])
 (.cond (.t 9) (.seq (.reg [⟨(some 10), none, .mov (.t 0)⟩,
  ⟨(some 11), none, .build [(.int .i64 0), (.int .i64 0), (.str []), (.int .i64 0)] []⟩,
  ⟨(some 12), none, .gload 0⟩,
  ⟨(some 13), none, .build [(.int .i64 0), .nili] [(0, 1, (.c (.int .i64 20000))), (1, 1, (.t 12))]⟩,
  ⟨(some 14), none, .box (.t 13) 2 true⟩,
  ⟨(some 15), none, .mkif 59 (.t 14)⟩,
  ⟨(some 16), none, .call 0 [] (.t 10) [(.t 11), (.t 15)]⟩])
 .ret)
 .skip))
 (.seq (.reg [⟨(some 3), none, .mov (.c (.int .i64 0))⟩])
 (.block 0 (.loop [0, 1, 3] [] (.seq (.seq (.reg [⟨(some 17), none, .mov (.t 3)⟩,
  ⟨(some 18), none, .load none (.t 1)⟩,
  ⟨(some 19), none, .len 1 (.t 18)⟩,
  ⟨(some 20), none, .bin .lss (.t 17) (.t 19)⟩])
 (.cond (.t 20) .skip
 (.exit 0)))
 (.block 1 (.seq (.seq (.reg [⟨(some 21), none, .load none (.t 1)⟩,
  ⟨(some 22), none, .mov (.t 3)⟩,
  ⟨(some 23), none, .slice 1 (.t 21) (some (.t 22)) none none⟩,
  ⟨(some 24), none, .call 0 [] (.c (.fn 35 [])) [(.t 23)]⟩,
  ⟨(some 4), none, .mov (.t 24)⟩])
 (.seq (.reg [⟨(some 25), none, .mov (.t 4)⟩,
  ⟨(some 26), none, .bin .gtr (.t 25) (.c (.int .i64 0))⟩])
 (.cond (.t 26) (.seq (.reg [⟨(some 27), none, .mov (.t 3)⟩,
  ⟨(some 28), none, .mov (.t 4)⟩,
  ⟨(some 29), none, .bin .add (.t 27) (.t 28)⟩,
  ⟨(some 3), none, .mov (.t 29)⟩])
 (.exit 1))
 .skip)))
 (.seq (.reg [⟨(some 31), none, .load none (.t 1)⟩,
  ⟨(some 32), none, .mov (.t 3)⟩,
  ⟨(some 33), none, .slice 1 (.t 31) (some (.t 32)) none none⟩,
  ⟨(some 34), none, .call 0 [] (.c (.fn 36 [])) [(.t 33)]⟩,
  ⟨(some 30), none, .mov (.t 34)⟩,
  ⟨(some 35), none, .extract (.t 30) 0⟩,
  ⟨(some 36), none, .extract (.t 30) 1⟩,
  ⟨(some 5), none, .alloc [(.int .i64 0), (.int .i64 0), (.str []), (.int .i64 0)] false⟩,
  ⟨none, none, .store 4 (.t 5) (.t 35)⟩,
  ⟨(some 6), none, .mov (.t 36)⟩])
 (.seq (.seq (.reg [⟨(some 37), none, .mov (.t 6)⟩,
  ⟨(some 38), none, .not (.t 37)⟩])
 (.cond (.t 38) (.seq (.reg [⟨(some 39), none, .mov (.t 0)⟩,
  ⟨(some 40), none, .build [(.int .i64 0), (.int .i64 0), (.str []), (.int .i64 0)] []⟩,
  ⟨(some 41), none, .mov (.t 3)⟩,
  ⟨(some 42), none, .gload 1⟩,
  ⟨(some 43), none, .build [(.int .i64 0), .nili] [(0, 1, (.t 41)), (1, 1, (.t 42))]⟩,
  ⟨(some 44), none, .box (.t 43) 2 true⟩,
  ⟨(some 45), none, .mkif 59 (.t 44)⟩,
  ⟨(some 46), none, .call 0 [] (.t 39) [(.t 40), (.t 45)]⟩])
 .ret)
 .skip))
 (.seq (.reg [⟨(some 47), none, .mov (.t 3)⟩,
  ⟨(some 48), none, .faddr 1 (.t 5)⟩,
  ⟨none, none, .store 1 (.t 48) (.t 47)⟩])
 (.seq (.seq (.reg [⟨(some 49), none, .mov (.t 0)⟩,
  ⟨(some 50), none, .load (some 4) (.t 5)⟩,
  ⟨(some 51), none, .call 0 [] (.t 49) [(.t 50), (.c .nili)]⟩,
  ⟨(some 52), none, .not (.t 51)⟩])
 (.cond (.t 52) .ret
 .skip))
 (.reg [⟨(some 53), none, .mov (.t 3)⟩,
  ⟨(some 54), none, .faddr 2 (.t 5)⟩,
  ⟨(some 55), none, .load none (.t 54)⟩,
  ⟨(some 56), none, .len 0 (.t 55)⟩,
  ⟨(some 57), none, .bin .add (.t 53) (.t 56)⟩,
  ⟨(some 3), none, .mov (.t 57)⟩])))))))))))),
  [], false, false, 58⟩
theorem co34 : compF Tryd.prog ⟨[14, 44], [(3, [0, 1, 3], [])], [], [0, 1], [], [], 34, [], [], []⟩ false false Tryd.f34 = some ac34 := by kernel_rfl

/-- paideia/lexer.blank -/
def ac35 : AF := ⟨(.seq (.reg [⟨(some 2), none, .mov (.c (.int .i64 0))⟩])
 (.seq (.block 0 (.seq (.reg [⟨(some 4), none, .mov (.t 0)⟩,
  ⟨(some 5), none, .iaddr 1 (.t 4) (.c (.int .i64 0))⟩,
  ⟨(some 6), none, .load none (.t 5)⟩,
  ⟨(some 7), none, .bin .eql (.t 6) (.c (.int .u8 32))⟩,
  ⟨(some 8), none, .mov (.t 7)⟩,
  ⟨(some 9), (some (8, false)), .mov (.t 0)⟩,
  ⟨(some 10), (some (8, false)), .iaddr 1 (.t 9) (.c (.int .i64 0))⟩,
  ⟨(some 11), (some (8, false)), .load none (.t 10)⟩,
  ⟨(some 12), (some (8, false)), .bin .eql (.t 11) (.c (.int .u8 9))⟩,
  ⟨(some 13), none, .pick (.t 8) (.c (.bool true)) (.t 12)⟩,
  ⟨(some 14), none, .mov (.t 13)⟩,
  ⟨(some 15), (some (14, false)), .mov (.t 0)⟩,
  ⟨(some 16), (some (14, false)), .iaddr 1 (.t 15) (.c (.int .i64 0))⟩,
  ⟨(some 17), (some (14, false)), .load none (.t 16)⟩,
  ⟨(some 18), (some (14, false)), .bin .eql (.t 17) (.c (.int .u8 10))⟩,
  ⟨(some 19), none, .pick (.t 14) (.c (.bool true)) (.t 18)⟩,
  ⟨(some 20), none, .mov (.t 19)⟩,
  ⟨(some 21), (some (20, false)), .mov (.t 0)⟩,
  ⟨(some 22), (some (20, false)), .iaddr 1 (.t 21) (.c (.int .i64 0))⟩,
  ⟨(some 23), (some (20, false)), .load none (.t 22)⟩,
  ⟨(some 24), (some (20, false)), .bin .eql (.t 23) (.c (.int .u8 13))⟩,
  ⟨(some 25), none, .pick (.t 20) (.c (.bool true)) (.t 24)⟩,
  ⟨(some 3), none, .mov (.t 25)⟩])
 (.cond (.t 3) (.seq (.reg [⟨(some 2), none, .mov (.c (.int .i64 1))⟩])
 .ret)
 (.seq (.reg [⟨(some 27), none, .mov (.t 0)⟩,
  ⟨(some 28), none, .len 1 (.t 27)⟩,
  ⟨(some 29), none, .bin .gtr (.t 28) (.c (.int .i64 1))⟩,
  ⟨(some 30), none, .mov (.t 29)⟩,
  ⟨(some 31), (some (30, true)), .mov (.t 0)⟩,
  ⟨(some 32), (some (30, true)), .iaddr 1 (.t 31) (.c (.int .i64 0))⟩,
  ⟨(some 33), (some (30, true)), .load none (.t 32)⟩,
  ⟨(some 34), (some (30, true)), .bin .eql (.t 33) (.c (.int .u8 45))⟩,
  ⟨(some 35), none, .pick (.t 30) (.t 34) (.c (.bool false))⟩,
  ⟨(some 36), none, .mov (.t 35)⟩,
  ⟨(some 37), (some (36, true)), .mov (.t 0)⟩,
  ⟨(some 38), (some (36, true)), .iaddr 1 (.t 37) (.c (.int .i64 1))⟩,
  ⟨(some 39), (some (36, true)), .load none (.t 38)⟩,
  ⟨(some 40), (some (36, true)), .bin .eql (.t 39) (.c (.int .u8 45))⟩,
  ⟨(some 41), none, .pick (.t 36) (.t 40) (.c (.bool false))⟩,
  ⟨(some 26), none, .mov (.t 41)⟩])
 (.cond (.t 26) (.seq (.reg [⟨(some 42), none, .mov (.t 0)⟩,
  ⟨(some 43), none, .call 0 [] (.c (.fn 51 [])) [(.t 42), (.c (.fn 52 []))]⟩,
  ⟨(some 2), none, .mov (.t 43)⟩])
 .ret)
 .skip)))))
 (.seq (.reg [⟨(some 2), none, .mov (.c (.int .i64 0))⟩])
 .ret))),
  [.t 2], false, true, 44⟩
theorem co35 : compF Tryd.prog ⟨[], [], [], [], [], [], 35, [], [], []⟩ false true Tryd.f35 = some ac35 := by kernel_rfl

/-- paideia/lexer.word -/
def ac36 : AF := ⟨(.seq (.reg [⟨(some 2), none, .alloc [(.int .i64 0), (.int .i64 0), (.str []), (.int .i64 0)] false⟩,
  ⟨(some 3), none, .mov (.c (.bool false))⟩])
 (.seq (.seq (.reg [⟨(some 5), none, .mov (.t 0)⟩,
  ⟨(some 6), none, .iaddr 1 (.t 5) (.c (.int .i64 0))⟩,
  ⟨(some 7), none, .load none (.t 6)⟩,
  ⟨(some 4), none, .mov (.t 7)⟩])
 (.block 0 (.seq (.reg [⟨(some 9), none, .mov (.t 4)⟩,
  ⟨(some 10), none, .call 0 [] (.c (.fn 29 [])) [(.t 9)]⟩,
  ⟨(some 11), none, .mov (.t 10)⟩,
  ⟨(some 12), (some (11, false)), .mov (.t 4)⟩,
  ⟨(some 13), (some (11, false)), .call 0 [] (.c (.fn 30 [])) [(.t 12)]⟩,
  ⟨(some 14), none, .pick (.t 11) (.c (.bool true)) (.t 13)⟩,
  ⟨(some 8), none, .mov (.t 14)⟩])
 (.cond (.t 8) (.seq (.reg [⟨(some 15), none, .mov (.t 0)⟩,
  ⟨(some 16), none, .call 0 [] (.c (.fn 53 [])) [(.t 15)]⟩,
  ⟨(some 17), none, .extract (.t 16) 0⟩,
  ⟨(some 18), none, .extract (.t 16) 1⟩,
  ⟨none, none, .store 4 (.t 2) (.t 17)⟩,
  ⟨(some 3), none, .mov (.t 18)⟩])
 .ret)
 (.seq (.reg [⟨(some 20), none, .mov (.t 4)⟩,
  ⟨(some 21), none, .call 0 [] (.c (.fn 54 [])) [(.t 20)]⟩,
  ⟨(some 19), none, .mov (.t 21)⟩])
 (.cond (.t 19) (.seq (.reg [⟨(some 22), none, .mov (.t 0)⟩,
  ⟨(some 23), none, .call 0 [] (.c (.fn 55 [])) [(.t 22)]⟩,
  ⟨(some 24), none, .extract (.t 23) 0⟩,
  ⟨(some 25), none, .extract (.t 23) 1⟩,
  ⟨none, none, .store 4 (.t 2) (.t 24)⟩,
  ⟨(some 3), none, .mov (.t 25)⟩])
 .ret)
 (.seq (.reg [⟨(some 27), none, .mov (.t 4)⟩,
  ⟨(some 28), none, .bin .eql (.t 27) (.c (.int .u8 39))⟩,
  ⟨(some 26), none, .mov (.t 28)⟩])
 (.cond (.t 26) (.seq (.reg [⟨(some 29), none, .mov (.t 0)⟩,
  ⟨(some 30), none, .call 0 [] (.c (.fn 56 [])) [(.t 29)]⟩,
  ⟨(some 31), none, .extract (.t 30) 0⟩,
  ⟨(some 32), none, .extract (.t 30) 1⟩,
  ⟨none, none, .store 4 (.t 2) (.t 31)⟩,
  ⟨(some 3), none, .mov (.t 32)⟩])
 .ret)
 .skip))))))))
 (.seq (.reg [⟨(some 33), none, .mov (.t 0)⟩,
  ⟨(some 34), none, .call 0 [] (.c (.fn 57 [])) [(.t 33)]⟩,
  ⟨(some 35), none, .extract (.t 34) 0⟩,
  ⟨(some 36), none, .extract (.t 34) 1⟩,
  ⟨none, none, .store 4 (.t 2) (.t 35)⟩,
  ⟨(some 3), none, .mov (.t 36)⟩])
 .ret))),
  [.cell 2 (some 4), .t 3], false, true, 37⟩
theorem co36 : compF Tryd.prog ⟨[], [], [], [], [], [], 36, [], [], []⟩ false true Tryd.f36 = some ac36 := by kernel_rfl

/-- paideia/paideiaref.Bare -/
def ac37 : AF := ⟨(.seq (.reg [⟨(some 2), none, .alloc [(.int .i64 0), (.bool false), (.int .i64 0)] false⟩])
 (.seq (.reg [⟨(some 3), none, .mov (.t 0)⟩,
  ⟨(some 4), none, .build [(.int .i64 0), (.bool false), (.int .i64 0)] [(0, 1, (.t 3))]⟩,
  ⟨none, none, .store 3 (.t 2) (.t 4)⟩])
 .ret)),
  [.cell 2 (some 3)], false, true, 5⟩
theorem co37 : compF Tryd.prog ⟨[], [], [], [], [], [], 37, [], [], []⟩ false true Tryd.f37 = some ac37 := by kernel_rfl

/-- paideia/paideiasee.sentinel -/
def ac38 : AF := ⟨(.seq (.reg [⟨(some 2), none, .mov (.c (.int .i64 0))⟩])
 (.seq (.reg [⟨(some 5), none, .call 0 [] (.c (.fn 58 [])) []⟩,
  ⟨(some 3), none, .mov (.t 5)⟩])
 (.seq (.seq (.reg [⟨(some 4), none, .mov (.c (.int .i64 0))⟩])
 (.block 0 (.loop [0, 3, 4] [] (.seq (.seq (.reg [⟨(some 6), none, .mov (.t 4)⟩,
  ⟨(some 7), none, .mov (.t 3)⟩,
  ⟨(some 8), none, .len 1 (.t 7)⟩,
  ⟨(some 9), none, .bin .lss (.t 6) (.t 8)⟩])
 (.cond (.t 9) .skip
 (.exit 0)))
 (.seq (.block 1 (.seq (.reg [⟨(some 12), none, .mov (.t 0)⟩,
  ⟨(some 13), none, .mov (.t 3)⟩,
  ⟨(some 14), none, .mov (.t 4)⟩,
  ⟨(some 15), none, .iaddr 1 (.t 13) (.t 14)⟩,
  ⟨(some 16), none, .load none (.t 15)⟩,
  ⟨(some 17), none, .call 0 [] (.c (.fn 59 [])) [(.t 12), (.t 16)]⟩])
 (.cond (.t 17) (.seq (.reg [⟨(some 18), none, .mov (.t 4)⟩,
  ⟨(some 19), none, .bin .add (.c (.int .i64 101)) (.t 18)⟩,
  ⟨(some 2), none, .mov (.t 19)⟩])
 .ret)
 .skip)))
 (.reg [⟨(some 10), none, .mov (.t 4)⟩,
  ⟨(some 11), none, .bin .add (.t 10) (.c (.int .i64 1))⟩,
  ⟨(some 4), none, .mov (.t 11)⟩]))))))
 (.seq (.reg [⟨(some 2), none, .mov (.c (.int .i64 (-1)))⟩])
 .ret)))),
  [.t 2], false, true, 20⟩
theorem co38 : compF Tryd.prog ⟨[], [(3, [0, 3, 4], [])], [], [], [], [], 38, [], [], []⟩ false true Tryd.f38 = some ac38 := by kernel_rfl

/-- paideia/paideiaref1.name -/
def ac39 : AF := ⟨(.seq (.reg [⟨(some 4), none, .mov (.c (.bool false))⟩])
 (.seq (.seq (.reg [⟨(some 6), none, .mov (.t 0)⟩,
  ⟨(some 7), none, .len 0 (.t 6)⟩,
  ⟨(some 8), none, .bin .lss (.t 7) (.c (.int .i64 1))⟩,
  ⟨(some 9), none, .mov (.t 8)⟩,
  ⟨(some 10), (some (9, false)), .mov (.t 0)⟩,
  ⟨(some 11), (some (9, false)), .len 0 (.t 10)⟩,
  ⟨(some 12), (some (9, false)), .bin .gtr (.t 11) (.c (.int .i64 40))⟩,
  ⟨(some 13), none, .pick (.t 9) (.c (.bool true)) (.t 12)⟩,
  ⟨(some 14), none, .mov (.t 13)⟩,
  ⟨(some 15), (some (14, false)), .mov (.t 1)⟩,
  ⟨(some 16), (some (14, false)), .not (.t 15)⟩,
  ⟨(some 17), none, .pick (.t 14) (.c (.bool true)) (.t 16)⟩])
 (.cond (.t 17) (.seq (.reg [⟨(some 4), none, .mov (.c (.bool false))⟩])
 .ret)
 .skip))
 (.seq (.seq (.reg [⟨(some 5), none, .mov (.c (.int .i64 0))⟩])
 (.block 0 (.loop [0, 5] [] (.seq (.seq (.reg [⟨(some 18), none, .mov (.t 5)⟩,
  ⟨(some 19), none, .mov (.t 0)⟩,
  ⟨(some 20), none, .len 0 (.t 19)⟩,
  ⟨(some 21), none, .bin .lss (.t 18) (.t 20)⟩])
 (.cond (.t 21) .skip
 (.exit 0)))
 (.seq (.block 1 (.seq (.reg [⟨(some 24), none, .mov (.t 0)⟩,
  ⟨(some 25), none, .mov (.t 5)⟩,
  ⟨(some 26), none, .sindex (.t 24) (.t 25)⟩,
  ⟨(some 27), none, .call 0 [] (.c (.fn 48 [])) [(.t 26)]⟩,
  ⟨(some 28), none, .not (.t 27)⟩])
 (.cond (.t 28) (.seq (.reg [⟨(some 4), none, .mov (.c (.bool false))⟩])
 .ret)
 .skip)))
 (.reg [⟨(some 22), none, .mov (.t 5)⟩,
  ⟨(some 23), none, .bin .add (.t 22) (.c (.int .i64 1))⟩,
  ⟨(some 5), none, .mov (.t 23)⟩]))))))
 (.seq (.reg [⟨(some 4), none, .mov (.c (.bool true))⟩])
 .ret)))),
  [.t 4], false, true, 29⟩
theorem co39 : compF Tryd.prog ⟨[], [(4, [0, 5], [])], [], [], [], [], 39, [], [], []⟩ false true Tryd.f39 = some ac39 := by kernel_rfl

/-- paideia/paideiaref1.small -/
def ac40 : AF := ⟨(.seq (.reg [⟨(some 2), none, .mov (.c (.bool false))⟩])
 (.seq (.reg [⟨(some 3), none, .mov (.t 0)⟩,
  ⟨(some 4), none, .bin .geq (.t 3) (.c (.int .u8 97))⟩,
  ⟨(some 5), none, .mov (.t 4)⟩,
  ⟨(some 6), (some (5, true)), .mov (.t 0)⟩,
  ⟨(some 7), (some (5, true)), .bin .leq (.t 6) (.c (.int .u8 122))⟩,
  ⟨(some 8), none, .pick (.t 5) (.t 7) (.c (.bool false))⟩,
  ⟨(some 9), none, .mov (.t 8)⟩,
  ⟨(some 10), (some (9, false)), .mov (.t 0)⟩,
  ⟨(some 11), (some (9, false)), .bin .eql (.t 10) (.c (.int .u8 95))⟩,
  ⟨(some 12), none, .pick (.t 9) (.c (.bool true)) (.t 11)⟩,
  ⟨(some 2), none, .mov (.t 12)⟩])
 .ret)),
  [.t 2], false, true, 13⟩
theorem co40 : compF Tryd.prog ⟨[], [], [], [], [], [], 40, [], [], []⟩ false true Tryd.f40 = some ac40 := by kernel_rfl

/-- paideia/paideiaref1.great -/
def ac41 : AF := ⟨(.seq (.reg [⟨(some 2), none, .mov (.c (.bool false))⟩])
 (.seq (.reg [⟨(some 3), none, .mov (.t 0)⟩,
  ⟨(some 4), none, .bin .geq (.t 3) (.c (.int .u8 65))⟩,
  ⟨(some 5), none, .mov (.t 4)⟩,
  ⟨(some 6), (some (5, true)), .mov (.t 0)⟩,
  ⟨(some 7), (some (5, true)), .bin .leq (.t 6) (.c (.int .u8 90))⟩,
  ⟨(some 8), none, .pick (.t 5) (.t 7) (.c (.bool false))⟩,
  ⟨(some 2), none, .mov (.t 8)⟩])
 .ret)),
  [.t 2], false, true, 9⟩
theorem co41 : compF Tryd.prog ⟨[], [], [], [], [], [], 41, [], [], []⟩ false true Tryd.f41 = some ac41 := by kernel_rfl

/-- paideia/paideiaref.Has -/
def ac43 : AF := ⟨(.seq (.reg [⟨(some 4), none, .mov (.c (.bool false))⟩])
 (.seq (.reg [⟨(some 5), none, .mov (.t 0)⟩,
  ⟨(some 6), none, .mov (.t 1)⟩,
  ⟨(some 7), none, .call 0 [] (.c (.fn 62 [])) [(.t 5), (.t 6)]⟩,
  ⟨(some 8), none, .bin .geq (.t 7) (.c (.int .i64 0))⟩,
  ⟨(some 4), none, .mov (.t 8)⟩])
 .ret)),
  [.t 4], false, true, 9⟩
theorem co43 : compF Tryd.prog ⟨[], [], [], [], [], [], 43, [], [], []⟩ false true Tryd.f43 = some ac43 := by kernel_rfl

/-- paideia/paideiaref1.operators -/
def ac44 : AF := ⟨(.seq (.reg [⟨(some 0), none, .mov (.c (.sl .clip []))⟩])
 (.seq (.reg [⟨(some 1), none, .bslice [(.str [])] 9 [(0, (.c (.str [61, 61]))), (1, (.c (.str [47, 61]))), (2, (.c (.str [60, 61]))), (3, (.c (.str [62, 61]))), (4, (.c (.str [60]))), (5, (.c (.str [62]))), (6, (.c (.str [43]))), (7, (.c (.str [45]))), (8, (.c (.str [42])))]⟩,
  ⟨(some 0), none, .mov (.t 1)⟩])
 .ret)),
  [.t 0], false, true, 2⟩
theorem co44 : compF Tryd.prog ⟨[], [], [], [], [], [], 44, [], [], []⟩ false true Tryd.f44 = some ac44 := by kernel_rfl

/-- paideia/paideiaref1.reserved -/
def ac45 : AF := ⟨(.seq (.reg [⟨(some 0), none, .mov (.c (.sl .clip []))⟩])
 (.seq (.reg [⟨(some 1), none, .bslice [(.str [])] 12 [(0, (.c (.str [100, 97, 116, 97]))), (1, (.c (.str [99, 108, 97, 115, 115]))), (2, (.c (.str [105, 110, 115, 116, 97, 110, 99, 101]))), (3, (.c (.str [119, 104, 101, 114, 101]))), (4, (.c (.str [108, 101, 116]))), (5, (.c (.str [105, 110]))), (6, (.c (.str [99, 97, 115, 101]))), (7, (.c (.str [111, 102]))), (8, (.c (.str [105, 102]))), (9, (.c (.str [116, 104, 101, 110]))), (10, (.c (.str [101, 108, 115, 101]))), (11, (.c (.str [100, 101, 114, 105, 118, 105, 110, 103])))]⟩,
  ⟨(some 0), none, .mov (.t 1)⟩])
 .ret)),
  [.t 0], false, true, 2⟩
theorem co45 : compF Tryd.prog ⟨[], [], [], [], [], [], 45, [], [], []⟩ false true Tryd.f45 = some ac45 := by kernel_rfl

/-- paideia/lexer.goesOn -/
def ac46 : AF := ⟨(.seq (.reg [⟨(some 2), none, .mov (.c (.bool false))⟩])
 (.seq (.reg [⟨(some 3), none, .mov (.t 0)⟩,
  ⟨(some 4), none, .call 0 [] (.c (.fn 29 [])) [(.t 3)]⟩,
  ⟨(some 5), none, .mov (.t 4)⟩,
  ⟨(some 6), (some (5, false)), .mov (.t 0)⟩,
  ⟨(some 7), (some (5, false)), .call 0 [] (.c (.fn 30 [])) [(.t 6)]⟩,
  ⟨(some 8), none, .pick (.t 5) (.c (.bool true)) (.t 7)⟩,
  ⟨(some 9), none, .mov (.t 8)⟩,
  ⟨(some 10), (some (9, false)), .mov (.t 0)⟩,
  ⟨(some 11), (some (9, false)), .call 0 [] (.c (.fn 54 [])) [(.t 10)]⟩,
  ⟨(some 12), none, .pick (.t 9) (.c (.bool true)) (.t 11)⟩,
  ⟨(some 13), none, .mov (.t 12)⟩,
  ⟨(some 14), (some (13, false)), .mov (.t 0)⟩,
  ⟨(some 15), (some (13, false)), .bin .eql (.t 14) (.c (.int .u8 39))⟩,
  ⟨(some 16), none, .pick (.t 13) (.c (.bool true)) (.t 15)⟩,
  ⟨(some 2), none, .mov (.t 16)⟩])
 .ret)),
  [.t 2], false, true, 17⟩
theorem co46 : compF Tryd.prog ⟨[], [], [], [], [], [], 46, [], [], []⟩ false true Tryd.f46 = some ac46 := by kernel_rfl

/-- paideia/paideiaref1.inner -/
def ac48 : AF := ⟨(.seq (.reg [⟨(some 2), none, .mov (.c (.bool false))⟩])
 (.seq (.reg [⟨(some 3), none, .mov (.t 0)⟩,
  ⟨(some 4), none, .call 0 [] (.c (.fn 40 [])) [(.t 3)]⟩,
  ⟨(some 5), none, .mov (.t 4)⟩,
  ⟨(some 6), (some (5, false)), .mov (.t 0)⟩,
  ⟨(some 7), (some (5, false)), .call 0 [] (.c (.fn 41 [])) [(.t 6)]⟩,
  ⟨(some 8), none, .pick (.t 5) (.c (.bool true)) (.t 7)⟩,
  ⟨(some 9), none, .mov (.t 8)⟩,
  ⟨(some 10), (some (9, false)), .mov (.t 0)⟩,
  ⟨(some 11), (some (9, false)), .call 0 [] (.c (.fn 49 [])) [(.t 10)]⟩,
  ⟨(some 12), none, .pick (.t 9) (.c (.bool true)) (.t 11)⟩,
  ⟨(some 13), none, .mov (.t 12)⟩,
  ⟨(some 14), (some (13, false)), .mov (.t 0)⟩,
  ⟨(some 15), (some (13, false)), .bin .eql (.t 14) (.c (.int .u8 39))⟩,
  ⟨(some 16), none, .pick (.t 13) (.c (.bool true)) (.t 15)⟩,
  ⟨(some 2), none, .mov (.t 16)⟩])
 .ret)),
  [.t 2], false, true, 17⟩
theorem co48 : compF Tryd.prog ⟨[], [], [], [], [], [], 48, [], [], []⟩ false true Tryd.f48 = some ac48 := by kernel_rfl

/-- paideia/paideiaref1.digit -/
def ac49 : AF := ⟨(.seq (.reg [⟨(some 2), none, .mov (.c (.bool false))⟩])
 (.seq (.reg [⟨(some 3), none, .mov (.t 0)⟩,
  ⟨(some 4), none, .bin .geq (.t 3) (.c (.int .u8 48))⟩,
  ⟨(some 5), none, .mov (.t 4)⟩,
  ⟨(some 6), (some (5, true)), .mov (.t 0)⟩,
  ⟨(some 7), (some (5, true)), .bin .leq (.t 6) (.c (.int .u8 57))⟩,
  ⟨(some 8), none, .pick (.t 5) (.t 7) (.c (.bool false))⟩,
  ⟨(some 2), none, .mov (.t 8)⟩])
 .ret)),
  [.t 2], false, true, 9⟩
theorem co49 : compF Tryd.prog ⟨[], [], [], [], [], [], 49, [], [], []⟩ false true Tryd.f49 = some ac49 := by kernel_rfl

/-- paideia/paideiaref1.letter -/
def ac50 : AF := ⟨(.seq (.reg [⟨(some 2), none, .mov (.c (.int .i64 0))⟩,
  ⟨(some 3), none, .mov (.c (.int .i64 0))⟩])
 (.seq (.seq (.reg [⟨(some 4), none, .mov (.t 0)⟩,
  ⟨(some 5), none, .len 1 (.t 4)⟩,
  ⟨(some 6), none, .bin .geq (.t 5) (.c (.int .i64 4))⟩,
  ⟨(some 7), none, .mov (.t 6)⟩,
  ⟨(some 8), (some (7, true)), .mov (.t 0)⟩,
  ⟨(some 9), (some (7, true)), .iaddr 1 (.t 8) (.c (.int .i64 1))⟩,
  ⟨(some 10), (some (7, true)), .load none (.t 9)⟩,
  ⟨(some 11), (some (7, true)), .bin .eql (.t 10) (.c (.int .u8 92))⟩,
  ⟨(some 12), none, .pick (.t 7) (.t 11) (.c (.bool false))⟩,
  ⟨(some 13), none, .mov (.t 12)⟩,
  ⟨(some 14), (some (13, true)), .mov (.t 0)⟩,
  ⟨(some 15), (some (13, true)), .iaddr 1 (.t 14) (.c (.int .i64 3))⟩,
  ⟨(some 16), (some (13, true)), .load none (.t 15)⟩,
  ⟨(some 17), (some (13, true)), .bin .eql (.t 16) (.c (.int .u8 39))⟩,
  ⟨(some 18), none, .pick (.t 13) (.t 17) (.c (.bool false))⟩])
 (.cond (.t 18) (.seq (.seq (.reg [⟨(some 19), none, .mov (.t 0)⟩,
  ⟨(some 20), none, .iaddr 1 (.t 19) (.c (.int .i64 2))⟩,
  ⟨(some 21), none, .load none (.t 20)⟩])
 (.block 0 (.seq (.reg [⟨(some 23), none, .bin .eql (.t 21) (.c (.int .u8 110))⟩,
  ⟨(some 22), none, .mov (.t 23)⟩])
 (.cond (.t 22) (.seq (.reg [⟨(some 2), none, .mov (.c (.int .i64 4))⟩,
  ⟨(some 3), none, .mov (.c (.int .i64 10))⟩])
 .ret)
 (.seq (.seq (.reg [⟨(some 25), none, .bin .eql (.t 21) (.c (.int .u8 39))⟩,
  ⟨(some 24), none, .mov (.t 25)⟩])
 (.cond (.t 24) .skip
 (.reg [⟨(some 26), none, .bin .eql (.t 21) (.c (.int .u8 92))⟩,
  ⟨(some 24), none, .mov (.t 26)⟩])))
 (.cond (.t 24) (.seq (.reg [⟨(some 27), none, .mov (.t 0)⟩,
  ⟨(some 28), none, .iaddr 1 (.t 27) (.c (.int .i64 2))⟩,
  ⟨(some 29), none, .load none (.t 28)⟩,
  ⟨(some 30), none, .conv (.int .i64) (.t 29)⟩,
  ⟨(some 2), none, .mov (.c (.int .i64 4))⟩,
  ⟨(some 3), none, .mov (.t 30)⟩])
 .ret)
 .skip))))))
 (.seq (.reg [⟨(some 2), none, .mov (.c (.int .i64 0))⟩,
  ⟨(some 3), none, .mov (.c (.int .i64 0))⟩])
 .ret))
 .skip))
 (.seq (.seq (.reg [⟨(some 31), none, .mov (.t 0)⟩,
  ⟨(some 32), none, .len 1 (.t 31)⟩,
  ⟨(some 33), none, .bin .geq (.t 32) (.c (.int .i64 3))⟩,
  ⟨(some 34), none, .mov (.t 33)⟩,
  ⟨(some 35), (some (34, true)), .mov (.t 0)⟩,
  ⟨(some 36), (some (34, true)), .iaddr 1 (.t 35) (.c (.int .i64 1))⟩,
  ⟨(some 37), (some (34, true)), .load none (.t 36)⟩,
  ⟨(some 38), (some (34, true)), .bin .geq (.t 37) (.c (.int .u8 32))⟩,
  ⟨(some 39), none, .pick (.t 34) (.t 38) (.c (.bool false))⟩,
  ⟨(some 40), none, .mov (.t 39)⟩,
  ⟨(some 41), (some (40, true)), .mov (.t 0)⟩,
  ⟨(some 42), (some (40, true)), .iaddr 1 (.t 41) (.c (.int .i64 1))⟩,
  ⟨(some 43), (some (40, true)), .load none (.t 42)⟩,
  ⟨(some 44), (some (40, true)), .bin .leq (.t 43) (.c (.int .u8 126))⟩,
  ⟨(some 45), none, .pick (.t 40) (.t 44) (.c (.bool false))⟩,
  ⟨(some 46), none, .mov (.t 45)⟩,
  ⟨(some 47), (some (46, true)), .mov (.t 0)⟩,
  ⟨(some 48), (some (46, true)), .iaddr 1 (.t 47) (.c (.int .i64 1))⟩,
  ⟨(some 49), (some (46, true)), .load none (.t 48)⟩,
  ⟨(some 50), (some (46, true)), .bin .neq (.t 49) (.c (.int .u8 39))⟩,
  ⟨(some 51), none, .pick (.t 46) (.t 50) (.c (.bool false))⟩,
  ⟨(some 52), none, .mov (.t 51)⟩,
  ⟨(some 53), (some (52, true)), .mov (.t 0)⟩,
  ⟨(some 54), (some (52, true)), .iaddr 1 (.t 53) (.c (.int .i64 1))⟩,
  ⟨(some 55), (some (52, true)), .load none (.t 54)⟩,
  ⟨(some 56), (some (52, true)), .bin .neq (.t 55) (.c (.int .u8 92))⟩,
  ⟨(some 57), none, .pick (.t 52) (.t 56) (.c (.bool false))⟩,
  ⟨(some 58), none, .mov (.t 57)⟩,
  ⟨(some 59), (some (58, true)), .mov (.t 0)⟩,
  ⟨(some 60), (some (58, true)), .iaddr 1 (.t 59) (.c (.int .i64 2))⟩,
  ⟨(some 61), (some (58, true)), .load none (.t 60)⟩,
  ⟨(some 62), (some (58, true)), .bin .eql (.t 61) (.c (.int .u8 39))⟩,
  ⟨(some 63), none, .pick (.t 58) (.t 62) (.c (.bool false))⟩])
 (.cond (.t 63) (.seq (.reg [⟨(some 64), none, .mov (.t 0)⟩,
  ⟨(some 65), none, .iaddr 1 (.t 64) (.c (.int .i64 1))⟩,
  ⟨(some 66), none, .load none (.t 65)⟩,
  ⟨(some 67), none, .conv (.int .i64) (.t 66)⟩,
  ⟨(some 2), none, .mov (.c (.int .i64 3))⟩,
  ⟨(some 3), none, .mov (.t 67)⟩])
 .ret)
 .skip))
 (.seq (.reg [⟨(some 2), none, .mov (.c (.int .i64 0))⟩,
  ⟨(some 3), none, .mov (.c (.int .i64 0))⟩])
 .ret)))),
  [.t 2, .t 3], false, true, 68⟩
theorem co50 : compF Tryd.prog ⟨[], [], [], [], [], [], 50, [], [], []⟩ false true Tryd.f50 = some ac50 := by kernel_rfl

/-- paideia/lexer.while -/
def ac51 : AF := ⟨(.seq (.reg [⟨(some 4), none, .mov (.c (.int .i64 0))⟩])
 (.seq (.reg [⟨(some 5), none, .mov (.c (.int .i64 0))⟩])
 (.seq (.block 0 (.loop [0, 1, 5] [] (.seq (.seq (.reg [⟨(some 6), none, .mov (.t 5)⟩,
  ⟨(some 7), none, .mov (.t 0)⟩,
  ⟨(some 8), none, .len 1 (.t 7)⟩,
  ⟨(some 9), none, .bin .lss (.t 6) (.t 8)⟩,
  ⟨(some 10), none, .mov (.t 9)⟩,
  ⟨(some 11), (some (10, true)), .mov (.t 1)⟩,
  ⟨(some 12), (some (10, true)), .mov (.t 0)⟩,
  ⟨(some 13), (some (10, true)), .mov (.t 5)⟩,
  ⟨(some 14), (some (10, true)), .iaddr 1 (.t 12) (.t 13)⟩,
  ⟨(some 15), (some (10, true)), .load none (.t 14)⟩,
  ⟨(some 16), (some (10, true)), .call 0 [] (.t 11) [(.t 15)]⟩,
  ⟨(some 17), none, .pick (.t 10) (.t 16) (.c (.bool false))⟩])
 (.cond (.t 17) .skip
 (.exit 0)))
 (.block 1 (.reg [⟨(some 18), none, .mov (.t 5)⟩,
  ⟨(some 19), none, .bin .add (.t 18) (.c (.int .i64 1))⟩,
  ⟨(some 5), none, .mov (.t 19)⟩])))))
 (.seq (.reg [⟨(some 20), none, .mov (.t 5)⟩,
  ⟨(some 4), none, .mov (.t 20)⟩])
 .ret)))),
  [.t 4], false, true, 21⟩
theorem co51 : compF Tryd.prog ⟨[], [(2, [0, 1, 5], [])], [], [], [], [], 51, [], [], []⟩ false true Tryd.f51 = some ac51 := by kernel_rfl

/-- paideia/lexer.blank$1 -/
def ac52 : AF := ⟨(.seq (.reg [⟨(some 2), none, .mov (.c (.bool false))⟩])
 (.seq (.reg [⟨(some 3), none, .mov (.t 0)⟩,
  ⟨(some 4), none, .bin .neq (.t 3) (.c (.int .u8 10))⟩,
  ⟨(some 2), none, .mov (.t 4)⟩])
 .ret)),
  [.t 2], false, true, 5⟩
theorem co52 : compF Tryd.prog ⟨[], [], [], [], [], [], 52, [], [], []⟩ false true Tryd.f52 = some ac52 := by kernel_rfl

/-- paideia/lexer.name -/
def ac53 : AF := ⟨(.seq (.reg [⟨(some 2), none, .alloc [(.int .i64 0), (.int .i64 0), (.str []), (.int .i64 0)] false⟩,
  ⟨(some 3), none, .mov (.c (.bool false))⟩])
 (.seq (.reg [⟨(some 5), none, .mov (.t 0)⟩,
  ⟨(some 6), none, .mov (.t 0)⟩,
  ⟨(some 7), none, .call 0 [] (.c (.fn 51 [])) [(.t 6), (.c (.fn 46 []))]⟩,
  ⟨(some 8), none, .slice 1 (.t 5) none (some (.t 7)) none⟩,
  ⟨(some 9), none, .conv .text (.t 8)⟩,
  ⟨(some 4), none, .mov (.t 9)⟩])
 (.seq (.block 0 (.seq (.reg [⟨(some 11), none, .mov (.t 4)⟩,
  ⟨(some 12), none, .bin .eql (.t 11) (.c (.str [95]))⟩,
  ⟨(some 13), none, .mov (.t 12)⟩,
  ⟨(some 14), (some (13, false)), .mov (.t 4)⟩,
  ⟨(some 15), (some (13, false)), .call 0 [] (.c (.fn 16 [])) [(.t 14)]⟩,
  ⟨(some 16), none, .pick (.t 13) (.c (.bool true)) (.t 15)⟩,
  ⟨(some 10), none, .mov (.t 16)⟩])
 (.cond (.t 10) (.seq (.reg [⟨(some 17), none, .mov (.t 4)⟩,
  ⟨(some 18), none, .build [(.int .i64 0), (.int .i64 0), (.str []), (.int .i64 0)] [(0, 1, (.c (.int .i64 6))), (2, 1, (.t 17))]⟩,
  ⟨none, none, .store 4 (.t 2) (.t 18)⟩,
  ⟨(some 3), none, .mov (.c (.bool true))⟩])
 .ret)
 (.seq (.reg [⟨(some 20), none, .mov (.t 4)⟩,
  ⟨(some 21), none, .call 0 [] (.c (.fn 14 [])) [(.t 20)]⟩,
  ⟨(some 19), none, .mov (.t 21)⟩])
 (.cond (.t 19) (.seq (.reg [⟨(some 22), none, .mov (.t 4)⟩,
  ⟨(some 23), none, .build [(.int .i64 0), (.int .i64 0), (.str []), (.int .i64 0)] [(0, 1, (.c (.int .i64 1))), (2, 1, (.t 22))]⟩,
  ⟨none, none, .store 4 (.t 2) (.t 23)⟩,
  ⟨(some 3), none, .mov (.c (.bool true))⟩])
 .ret)
 (.seq (.reg [⟨(some 25), none, .mov (.t 4)⟩,
  ⟨(some 26), none, .call 0 [] (.c (.fn 15 [])) [(.t 25)]⟩,
  ⟨(some 24), none, .mov (.t 26)⟩])
 (.cond (.t 24) (.seq (.reg [⟨(some 27), none, .mov (.t 4)⟩,
  ⟨(some 28), none, .build [(.int .i64 0), (.int .i64 0), (.str []), (.int .i64 0)] [(0, 1, (.c (.int .i64 2))), (2, 1, (.t 27))]⟩,
  ⟨none, none, .store 4 (.t 2) (.t 28)⟩,
  ⟨(some 3), none, .mov (.c (.bool true))⟩])
 .ret)
 .skip)))))))
 (.seq (.reg [⟨(some 29), none, .build [(.int .i64 0), (.int .i64 0), (.str []), (.int .i64 0)] []⟩,
  ⟨none, none, .store 4 (.t 2) (.t 29)⟩,
  ⟨(some 3), none, .mov (.c (.bool false))⟩])
 .ret)))),
  [.cell 2 (some 4), .t 3], false, true, 30⟩
theorem co53 : compF Tryd.prog ⟨[], [], [], [], [], [], 53, [], [], []⟩ false true Tryd.f53 = some ac53 := by kernel_rfl

/-- paideia/lexer.isDigit -/
def ac54 : AF := ⟨(.seq (.reg [⟨(some 2), none, .mov (.c (.bool false))⟩])
 (.seq (.reg [⟨(some 3), none, .mov (.t 0)⟩,
  ⟨(some 4), none, .bin .geq (.t 3) (.c (.int .u8 48))⟩,
  ⟨(some 5), none, .mov (.t 4)⟩,
  ⟨(some 6), (some (5, true)), .mov (.t 0)⟩,
  ⟨(some 7), (some (5, true)), .bin .leq (.t 6) (.c (.int .u8 57))⟩,
  ⟨(some 8), none, .pick (.t 5) (.t 7) (.c (.bool false))⟩,
  ⟨(some 2), none, .mov (.t 8)⟩])
 .ret)),
  [.t 2], false, true, 9⟩
theorem co54 : compF Tryd.prog ⟨[], [], [], [], [], [], 54, [], [], []⟩ false true Tryd.f54 = some ac54 := by kernel_rfl

/-- paideia/lexer.number -/
def ac55 : AF := ⟨(.seq (.reg [⟨(some 2), none, .alloc [(.int .i64 0), (.int .i64 0), (.str []), (.int .i64 0)] false⟩,
  ⟨(some 3), none, .mov (.c (.bool false))⟩])
 (.seq (.reg [⟨(some 7), none, .mov (.t 0)⟩,
  ⟨(some 8), none, .mov (.t 0)⟩,
  ⟨(some 9), none, .call 0 [] (.c (.fn 51 [])) [(.t 8), (.c (.fn 54 []))]⟩,
  ⟨(some 10), none, .slice 1 (.t 7) none (some (.t 9)) none⟩,
  ⟨(some 11), none, .conv .text (.t 10)⟩,
  ⟨(some 4), none, .mov (.t 11)⟩])
 (.seq (.seq (.reg [⟨(some 12), none, .mov (.t 4)⟩,
  ⟨(some 13), none, .len 0 (.t 12)⟩,
  ⟨(some 14), none, .bin .gtr (.t 13) (.c (.int .i64 15))⟩])
 (.cond (.t 14) (.seq (.reg [⟨(some 15), none, .build [(.int .i64 0), (.int .i64 0), (.str []), (.int .i64 0)] []⟩,
  ⟨none, none, .store 4 (.t 2) (.t 15)⟩,
  ⟨(some 3), none, .mov (.c (.bool false))⟩])
 .ret)
 .skip))
 (.seq (.reg [⟨(some 17), none, .mov (.t 4)⟩,
  ⟨(some 18), none, .call 0 [] (.c (.fn 64 [])) [(.t 17), (.c (.int .i64 10)), (.c (.int .i64 64))]⟩,
  ⟨(some 16), none, .mov (.t 18)⟩,
  ⟨(some 19), none, .extract (.t 16) 0⟩,
  ⟨(some 20), none, .extract (.t 16) 1⟩,
  ⟨(some 5), none, .mov (.t 19)⟩,
  ⟨(some 6), none, .mov (.t 20)⟩])
 (.seq (.reg [⟨(some 21), none, .mov (.t 4)⟩,
  ⟨(some 22), none, .mov (.t 5)⟩,
  ⟨(some 23), none, .build [(.int .i64 0), (.int .i64 0), (.str []), (.int .i64 0)] [(0, 1, (.c (.int .i64 3))), (2, 1, (.t 21)), (3, 1, (.t 22))]⟩,
  ⟨(some 24), none, .mov (.t 6)⟩,
  ⟨(some 25), none, .eqnil .iface false (.t 24)⟩,
  ⟨none, none, .store 4 (.t 2) (.t 23)⟩,
  ⟨(some 3), none, .mov (.t 25)⟩])
 .ret))))),
  [.cell 2 (some 4), .t 3], false, true, 26⟩
theorem co55 : compF Tryd.prog ⟨[], [], [], [], [], [], 55, [], [], []⟩ false true Tryd.f55 = some ac55 := by kernel_rfl

/-- paideia/lexer.letter -/
def ac56 : AF := ⟨(.seq (.reg [⟨(some 2), none, .alloc [(.int .i64 0), (.int .i64 0), (.str []), (.int .i64 0)] false⟩,
  ⟨(some 3), none, .mov (.c (.bool false))⟩])
 (.seq (.seq (.reg [⟨(some 5), none, .mov (.t 0)⟩,
  ⟨(some 6), none, .len 1 (.t 5)⟩,
  ⟨(some 7), none, .bin .geq (.t 6) (.c (.int .i64 3))⟩,
  ⟨(some 8), none, .mov (.t 7)⟩,
  ⟨(some 9), (some (8, true)), .mov (.t 0)⟩,
  ⟨(some 10), (some (8, true)), .iaddr 1 (.t 9) (.c (.int .i64 1))⟩,
  ⟨(some 11), (some (8, true)), .load none (.t 10)⟩,
  ⟨(some 12), (some (8, true)), .call 0 [] (.c (.fn 65 [])) [(.t 11)]⟩,
  ⟨(some 13), none, .pick (.t 8) (.t 12) (.c (.bool false))⟩,
  ⟨(some 14), none, .mov (.t 13)⟩,
  ⟨(some 15), (some (14, true)), .mov (.t 0)⟩,
  ⟨(some 16), (some (14, true)), .iaddr 1 (.t 15) (.c (.int .i64 2))⟩,
  ⟨(some 17), (some (14, true)), .load none (.t 16)⟩,
  ⟨(some 18), (some (14, true)), .bin .eql (.t 17) (.c (.int .u8 39))⟩,
  ⟨(some 19), none, .pick (.t 14) (.t 18) (.c (.bool false))⟩])
 (.cond (.t 19) (.seq (.reg [⟨(some 20), none, .mov (.t 0)⟩,
  ⟨(some 21), none, .slice 1 (.t 20) none (some (.c (.int .i64 3))) none⟩,
  ⟨(some 22), none, .conv .text (.t 21)⟩,
  ⟨(some 23), none, .mov (.t 0)⟩,
  ⟨(some 24), none, .iaddr 1 (.t 23) (.c (.int .i64 1))⟩,
  ⟨(some 25), none, .load none (.t 24)⟩,
  ⟨(some 26), none, .conv (.int .i64) (.t 25)⟩,
  ⟨(some 27), none, .build [(.int .i64 0), (.int .i64 0), (.str []), (.int .i64 0)] [(0, 1, (.c (.int .i64 4))), (2, 1, (.t 22)), (3, 1, (.t 26))]⟩,
  ⟨none, none, .store 4 (.t 2) (.t 27)⟩,
  ⟨(some 3), none, .mov (.c (.bool true))⟩])
 .ret)
 .skip))
 (.seq (.seq (.reg [⟨(some 28), none, .mov (.t 0)⟩,
  ⟨(some 29), none, .len 1 (.t 28)⟩,
  ⟨(some 30), none, .bin .lss (.t 29) (.c (.int .i64 4))⟩,
  ⟨(some 31), none, .mov (.t 30)⟩,
  ⟨(some 32), (some (31, false)), .mov (.t 0)⟩,
  ⟨(some 33), (some (31, false)), .iaddr 1 (.t 32) (.c (.int .i64 1))⟩,
  ⟨(some 34), (some (31, false)), .load none (.t 33)⟩,
  ⟨(some 35), (some (31, false)), .bin .neq (.t 34) (.c (.int .u8 92))⟩,
  ⟨(some 36), none, .pick (.t 31) (.c (.bool true)) (.t 35)⟩,
  ⟨(some 37), none, .mov (.t 36)⟩,
  ⟨(some 38), (some (37, false)), .mov (.t 0)⟩,
  ⟨(some 39), (some (37, false)), .iaddr 1 (.t 38) (.c (.int .i64 3))⟩,
  ⟨(some 40), (some (37, false)), .load none (.t 39)⟩,
  ⟨(some 41), (some (37, false)), .bin .neq (.t 40) (.c (.int .u8 39))⟩,
  ⟨(some 42), none, .pick (.t 37) (.c (.bool true)) (.t 41)⟩])
 (.cond (.t 42) (.seq (.reg [⟨(some 43), none, .build [(.int .i64 0), (.int .i64 0), (.str []), (.int .i64 0)] []⟩,
  ⟨none, none, .store 4 (.t 2) (.t 43)⟩,
  ⟨(some 3), none, .mov (.c (.bool false))⟩])
 .ret)
 .skip))
 (.seq (.reg [⟨(some 44), none, .mov (.t 0)⟩,
  ⟨(some 45), none, .iaddr 1 (.t 44) (.c (.int .i64 2))⟩,
  ⟨(some 46), none, .load none (.t 45)⟩,
  ⟨(some 4), none, .mov (.t 46)⟩])
 (.seq (.seq (.reg [⟨(some 47), none, .mov (.t 4)⟩])
 (.block 0 (.seq (.reg [⟨(some 50), none, .bin .eql (.t 47) (.c (.int .u8 110))⟩,
  ⟨(some 49), none, .mov (.t 50)⟩])
 (.cond (.t 49) (.reg [⟨(some 4), none, .mov (.c (.int .u8 10))⟩])
 (.seq (.seq (.reg [⟨(some 52), none, .bin .eql (.t 47) (.c (.int .u8 39))⟩,
  ⟨(some 51), none, .mov (.t 52)⟩])
 (.cond (.t 51) .skip
 (.reg [⟨(some 53), none, .bin .eql (.t 47) (.c (.int .u8 92))⟩,
  ⟨(some 51), none, .mov (.t 53)⟩])))
 (.cond (.t 51) .skip
 (.seq (.reg [⟨(some 48), none, .build [(.int .i64 0), (.int .i64 0), (.str []), (.int .i64 0)] []⟩,
  ⟨none, none, .store 4 (.t 2) (.t 48)⟩,
  ⟨(some 3), none, .mov (.c (.bool false))⟩])
 .ret)))))))
 (.seq (.reg [⟨(some 54), none, .mov (.t 0)⟩,
  ⟨(some 55), none, .slice 1 (.t 54) none (some (.c (.int .i64 4))) none⟩,
  ⟨(some 56), none, .conv .text (.t 55)⟩,
  ⟨(some 57), none, .mov (.t 4)⟩,
  ⟨(some 58), none, .conv (.int .i64) (.t 57)⟩,
  ⟨(some 59), none, .build [(.int .i64 0), (.int .i64 0), (.str []), (.int .i64 0)] [(0, 1, (.c (.int .i64 4))), (2, 1, (.t 56)), (3, 1, (.t 58))]⟩,
  ⟨none, none, .store 4 (.t 2) (.t 59)⟩,
  ⟨(some 3), none, .mov (.c (.bool true))⟩])
 .ret)))))),
  [.cell 2 (some 4), .t 3], false, true, 60⟩
theorem co56 : compF Tryd.prog ⟨[], [], [], [], [], [], 56, [], [], []⟩ false true Tryd.f56 = some ac56 := by kernel_rfl

/-- paideia/lexer.sign -/
def ac57 : AF := ⟨(.seq (.reg [⟨(some 2), none, .alloc [(.int .i64 0), (.int .i64 0), (.str []), (.int .i64 0)] false⟩,
  ⟨(some 3), none, .mov (.c (.bool false))⟩])
 (.seq (.reg [⟨(some 4), none, .alloc [(.int .i64 0), (.int .i64 0), (.str []), (.int .i64 0)] false⟩])
 (.seq (.seq (.reg [⟨(some 9), none, .mkmap⟩,
  ⟨none, none, .mapset .int (.t 9) (.c (.int .i64 5)) (.c (.str [61, 61, 32, 47, 61, 32, 60, 61, 32, 62, 61, 32, 60, 32, 62, 32, 43, 32, 45, 32, 42]))⟩,
  ⟨none, none, .mapset .int (.t 9) (.c (.int .i64 6)) (.c (.str [45, 62, 32, 61, 62, 32, 58, 58, 32, 40, 32, 41, 32, 123, 32, 125, 32, 44, 32, 59, 32, 61, 32, 92, 32, 124]))⟩,
  ⟨(some 10), none, .mov (.t 9)⟩,
  ⟨(some 11), none, .range (.t 10)⟩])
 (.block 0 (.loop [0, 11] [2, 4] (.seq (.reg [⟨(some 12), none, .next (.t 11)⟩,
  ⟨(some 13), none, .extract (.t 12) 0⟩])
 (.seq (.cond (.t 13) .skip
 (.exit 0))
 (.block 1 (.seq (.reg [⟨(some 14), none, .entry (.t 11)⟩,
  ⟨(some 15), none, .extract (.t 14) 0⟩,
  ⟨(some 16), none, .extract (.t 14) 1⟩,
  ⟨(some 5), none, .mov (.t 15)⟩,
  ⟨(some 6), none, .mov (.t 16)⟩])
 (.seq (.reg [⟨(some 17), none, .mov (.t 6)⟩,
  ⟨(some 18), none, .call 0 [] (.c (.fn 42 [])) [(.t 17)]⟩,
  ⟨(some 19), none, .len 1 (.t 18)⟩,
  ⟨(some 20), none, .mov (.c (.int .i64 0))⟩])
 (.block 2 (.loop [0, 5, 11, 18, 19, 20] [2, 4] (.seq (.reg [⟨(some 21), none, .bin .lss (.t 20) (.t 19)⟩])
 (.seq (.cond (.t 21) .skip
 (.exit 2))
 (.seq (.block 3 (.seq (.reg [⟨(some 22), none, .iaddr 1 (.t 18) (.t 20)⟩,
  ⟨(some 23), none, .load none (.t 22)⟩,
  ⟨(some 8), none, .mov (.t 23)⟩])
 (.seq (.reg [⟨(some 24), none, .mov (.t 8)⟩,
  ⟨(some 25), none, .len 0 (.t 24)⟩,
  ⟨(some 26), none, .faddr 2 (.t 4)⟩,
  ⟨(some 27), none, .load none (.t 26)⟩,
  ⟨(some 28), none, .len 0 (.t 27)⟩,
  ⟨(some 29), none, .bin .gtr (.t 25) (.t 28)⟩,
  ⟨(some 30), none, .mov (.t 29)⟩,
  ⟨(some 31), (some (30, true)), .mov (.t 0)⟩,
  ⟨(some 32), (some (30, true)), .mov (.t 0)⟩,
  ⟨(some 33), (some (30, true)), .len 1 (.t 32)⟩,
  ⟨(some 34), (some (30, true)), .bmin (.t 33) (.c (.int .i64 2))⟩,
  ⟨(some 35), (some (30, true)), .slice 1 (.t 31) none (some (.t 34)) none⟩,
  ⟨(some 36), (some (30, true)), .conv .text (.t 35)⟩,
  ⟨(some 37), (some (30, true)), .mov (.t 8)⟩,
  ⟨(some 38), (some (30, true)), .call 0 [] (.c (.fn 66 [])) [(.t 36), (.t 37)]⟩,
  ⟨(some 39), none, .pick (.t 30) (.t 38) (.c (.bool false))⟩])
 (.cond (.t 39) (.reg [⟨(some 40), none, .mov (.t 5)⟩,
  ⟨(some 41), none, .mov (.t 8)⟩,
  ⟨(some 42), none, .build [(.int .i64 0), (.int .i64 0), (.str []), (.int .i64 0)] [(0, 1, (.t 40)), (2, 1, (.t 41))]⟩,
  ⟨none, none, .store 4 (.t 4) (.t 42)⟩])
 .skip))))
 (.reg [⟨(some 43), none, .bin .add (.t 20) (.c (.int .i64 1))⟩,
  ⟨(some 20), none, .mov (.t 43)⟩]))))))))))))))
 (.seq (.reg [⟨(some 44), none, .load (some 4) (.t 4)⟩,
  ⟨(some 45), none, .faddr 2 (.t 4)⟩,
  ⟨(some 46), none, .loadX true none (.t 45) [(.t 2)] [(.t 4)]⟩,
  ⟨(some 47), none, .bin .neq (.t 46) (.c (.str []))⟩,
  ⟨none, none, .storeX true 4 (.t 2) (.t 44) [(.t 4)] []⟩,
  ⟨(some 3), none, .mov (.t 47)⟩])
 .ret)))),
  [.cell 2 (some 4), .t 3], false, true, 48⟩
theorem co57 : compF Tryd.prog ⟨[], [(3, [0, 11], [2, 4]), (6, [0, 5, 11, 18, 19, 20], [2, 4])], [], [], [], [], 57, [], [], []⟩ false true Tryd.f57 = some ac57 := by kernel_rfl

/-- paideia/paideiasee.sentinels -/
def ac58 : AF := ⟨(.seq (.reg [⟨(some 0), none, .mov (.c (.sl .clip []))⟩])
 (.seq (.reg [⟨(some 1), none, .gload 1⟩,
  ⟨(some 2), none, .gload 3⟩,
  ⟨(some 3), none, .gload 4⟩,
  ⟨(some 4), none, .gload 5⟩,
  ⟨(some 5), none, .gload 6⟩,
  ⟨(some 6), none, .gload 7⟩,
  ⟨(some 7), none, .gload 8⟩,
  ⟨(some 8), none, .gload 9⟩,
  ⟨(some 9), none, .gload 10⟩,
  ⟨(some 10), none, .gload 11⟩,
  ⟨(some 11), none, .gload 0⟩,
  ⟨(some 12), none, .gload 12⟩,
  ⟨(some 13), none, .gload 13⟩,
  ⟨(some 14), none, .gload 14⟩,
  ⟨(some 15), none, .gload 15⟩,
  ⟨(some 16), none, .bslice [.nili] 15 [(0, (.t 1)), (1, (.t 2)), (2, (.t 3)), (3, (.t 4)), (4, (.t 5)), (5, (.t 6)), (6, (.t 7)), (7, (.t 8)), (8, (.t 9)), (9, (.t 10)), (10, (.t 11)), (11, (.t 12)), (12, (.t 13)), (13, (.t 14)), (14, (.t 15))]⟩,
  ⟨(some 0), none, .mov (.t 16)⟩])
 .ret)),
  [.t 0], false, true, 17⟩
theorem co58 : compF Tryd.prog ⟨[], [], [], [1, 3, 4, 5, 6, 7, 8, 9, 10, 11, 0, 12, 13, 14, 15], [], [], 58, [], [], []⟩ false true Tryd.f58 = some ac58 := by kernel_rfl

/-- paideia/paideiasee.Alike -/
def ac59 : AF := ⟨(.seq (.reg [⟨(some 4), none, .mov (.c (.bool false))⟩])
 (.seq (.seq (.reg [⟨(some 5), none, .mov (.t 0)⟩,
  ⟨(some 6), none, .eqnil .iface false (.t 5)⟩,
  ⟨(some 7), none, .mov (.t 6)⟩,
  ⟨(some 8), (some (7, false)), .mov (.t 1)⟩,
  ⟨(some 9), (some (7, false)), .eqnil .iface false (.t 8)⟩,
  ⟨(some 10), none, .pick (.t 7) (.c (.bool true)) (.t 9)⟩])
 (.cond (.t 10) (.seq (.reg [⟨(some 11), none, .mov (.t 0)⟩,
  ⟨(some 12), none, .eqnil .iface false (.t 11)⟩,
  ⟨(some 13), none, .mov (.t 12)⟩,
  ⟨(some 14), (some (13, true)), .mov (.t 1)⟩,
  ⟨(some 15), (some (13, true)), .eqnil .iface false (.t 14)⟩,
  ⟨(some 16), none, .pick (.t 13) (.t 15) (.c (.bool false))⟩,
  ⟨(some 4), none, .mov (.t 16)⟩])
 .ret)
 .skip))
 (.seq (.reg [⟨(some 17), none, .mov (.t 0)⟩,
  ⟨(some 18), none, .mov (.t 1)⟩,
  ⟨(some 19), none, .eqi [0, 1, 3, 4, 5, 6, 7, 8, 9, 10, 11, 12, 13, 14, 15] false (.t 17) (.t 18)⟩,
  ⟨(some 4), none, .mov (.t 19)⟩])
 .ret))),
  [.t 4], false, true, 20⟩
theorem co59 : compF Tryd.prog ⟨[], [], [], [0, 1, 3, 4, 5, 6, 7, 8, 9, 10, 11, 12, 13, 14, 15, 1000125, 3000002, 4000017], [], [], 59, [], [], []⟩ false true Tryd.f59 = some ac59 := by kernel_rfl

/-- paideia/paideiaref.Place -/
def ac62 : AF := ⟨(.seq (.reg [⟨(some 4), none, .mov (.c (.int .i64 0))⟩])
 (.seq (.seq (.reg [⟨(some 5), none, .mov (.c (.int .i64 0))⟩])
 (.block 0 (.loop [0, 1, 5] [] (.seq (.seq (.reg [⟨(some 6), none, .mov (.t 5)⟩,
  ⟨(some 7), none, .mov (.t 0)⟩,
  ⟨(some 8), none, .len 1 (.t 7)⟩,
  ⟨(some 9), none, .bin .lss (.t 6) (.t 8)⟩])
 (.cond (.t 9) .skip
 (.exit 0)))
 (.seq (.block 1 (.seq (.reg [⟨(some 12), none, .mov (.t 0)⟩,
  ⟨(some 13), none, .mov (.t 5)⟩,
  ⟨(some 14), none, .iaddr 1 (.t 12) (.t 13)⟩,
  ⟨(some 15), none, .load none (.t 14)⟩,
  ⟨(some 16), none, .mov (.t 1)⟩,
  ⟨(some 17), none, .bin .eql (.t 15) (.t 16)⟩])
 (.cond (.t 17) (.seq (.reg [⟨(some 18), none, .mov (.t 5)⟩,
  ⟨(some 4), none, .mov (.t 18)⟩])
 .ret)
 .skip)))
 (.reg [⟨(some 10), none, .mov (.t 5)⟩,
  ⟨(some 11), none, .bin .add (.t 10) (.c (.int .i64 1))⟩,
  ⟨(some 5), none, .mov (.t 11)⟩]))))))
 (.seq (.reg [⟨(some 4), none, .mov (.c (.int .i64 (-1)))⟩])
 .ret))),
  [.t 4], false, true, 19⟩
theorem co62 : compF Tryd.prog ⟨[], [(2, [0, 1, 5], [])], [], [], [], [], 62, [], [], []⟩ false true Tryd.f62 = some ac62 := by kernel_rfl

/-- paideia/lexer.Plain -/
def ac65 : AF := ⟨(.seq (.reg [⟨(some 2), none, .mov (.c (.bool false))⟩])
 (.seq (.reg [⟨(some 3), none, .mov (.t 0)⟩,
  ⟨(some 4), none, .bin .geq (.t 3) (.c (.int .u8 32))⟩,
  ⟨(some 5), none, .mov (.t 4)⟩,
  ⟨(some 6), (some (5, true)), .mov (.t 0)⟩,
  ⟨(some 7), (some (5, true)), .bin .leq (.t 6) (.c (.int .u8 126))⟩,
  ⟨(some 8), none, .pick (.t 5) (.t 7) (.c (.bool false))⟩,
  ⟨(some 9), none, .mov (.t 8)⟩,
  ⟨(some 10), (some (9, true)), .mov (.t 0)⟩,
  ⟨(some 11), (some (9, true)), .bin .neq (.t 10) (.c (.int .u8 39))⟩,
  ⟨(some 12), none, .pick (.t 9) (.t 11) (.c (.bool false))⟩,
  ⟨(some 13), none, .mov (.t 12)⟩,
  ⟨(some 14), (some (13, true)), .mov (.t 0)⟩,
  ⟨(some 15), (some (13, true)), .bin .neq (.t 14) (.c (.int .u8 92))⟩,
  ⟨(some 16), none, .pick (.t 13) (.t 15) (.c (.bool false))⟩,
  ⟨(some 2), none, .mov (.t 16)⟩])
 .ret)),
  [.t 2], false, true, 17⟩
theorem co65 : compF Tryd.prog ⟨[], [], [], [], [], [], 65, [], [], []⟩ false true Tryd.f65 = some ac65 := by kernel_rfl

/-- strings.HasPrefix -/
def ac66 : AF := ⟨(.seq (.reg [⟨(some 4), none, .mov (.c (.bool false))⟩])
 (.seq (.reg [⟨(some 5), none, .mov (.t 0)⟩,
  ⟨(some 6), none, .mov (.t 1)⟩,
  ⟨(some 7), none, .call 0 [] (.c (.fn 74 [])) [(.t 5), (.t 6)]⟩,
  ⟨(some 4), none, .mov (.t 7)⟩])
 .ret)),
  [.t 4], false, true, 8⟩
theorem co66 : compF Tryd.prog ⟨[], [], [], [], [], [], 66, [], [], []⟩ false true Tryd.f66 = some ac66 := by kernel_rfl

/-- internal/stringslite.HasPrefix -/
def ac74 : AF := ⟨(.seq (.reg [⟨(some 4), none, .mov (.c (.bool false))⟩])
 (.seq (.reg [⟨(some 5), none, .mov (.t 0)⟩,
  ⟨(some 6), none, .len 0 (.t 5)⟩,
  ⟨(some 7), none, .mov (.t 1)⟩,
  ⟨(some 8), none, .len 0 (.t 7)⟩,
  ⟨(some 9), none, .bin .geq (.t 6) (.t 8)⟩,
  ⟨(some 10), none, .mov (.t 9)⟩,
  ⟨(some 11), (some (10, true)), .mov (.t 0)⟩,
  ⟨(some 12), (some (10, true)), .mov (.t 1)⟩,
  ⟨(some 13), (some (10, true)), .len 0 (.t 12)⟩,
  ⟨(some 14), (some (10, true)), .slice 0 (.t 11) none (some (.t 13)) none⟩,
  ⟨(some 15), (some (10, true)), .mov (.t 1)⟩,
  ⟨(some 16), (some (10, true)), .bin .eql (.t 14) (.t 15)⟩,
  ⟨(some 17), none, .pick (.t 10) (.t 16) (.c (.bool false))⟩,
  ⟨(some 4), none, .mov (.t 17)⟩])
 .ret)),
  [.t 4], false, true, 18⟩
theorem co74 : compF Tryd.prog ⟨[], [], [], [], [], [], 74, [], [], []⟩ false true Tryd.f74 = some ac74 := by kernel_rfl


theorem prim42 : PrimOkG Tryd.prog [0,1,3,4,5,6,7,8,9,10,11,12,13,14,15,1000125,3000002,4000017] 42 fieldsP := fieldsP_ok (g := 2) (t := 9) Tryd.func42 (by kernel_rfl) (by kernel_rfl) (by kernel_rfl) (by simp) Tryd.strings_Fields
theorem prim31 : PrimOkG Tryd.prog [0,1,3,4,5,6,7,8,9,10,11,12,13,14,15,1000125,3000002,4000017] 31 contP := contP_ok (g := 17) Tryd.func31 (by kernel_rfl) (by kernel_rfl) (by simp) (fun s sub m w h1 h2 => Tryd.strings_Contains s sub m w h1 h2)
theorem prim64 : PrimOkG Tryd.prog [0,1,3,4,5,6,7,8,9,10,11,12,13,14,15,1000125,3000002,4000017] 64 parseP := parseP_ok (t := 5) Tryd.func64 (by kernel_rfl) (by kernel_rfl) (fun s h1 v h2 w => Tryd.strconv_ParseInt_10_at64_ok s h1 v h2 w)

def ap2 : AP := fun f vr => match f, vr with
  | 65, 0 => some (.code ac65)
  | 66, 0 => some (.code ac66)
  | 74, 0 => some (.code ac74)
  | 512, 77 => some (.body ab8_0)
  | 640, 77 => some (.body ab10_0)
  | 42, 0 => some (.prim fieldsP)
  | 31, 0 => some (.prim contP)
  | 64, 0 => some (.prim parseP)
  | _, _ => none

theorem table2 : TableOk Tryd.prog ap2 [0,1,3,4,5,6,7,8,9,10,11,12,13,14,15,1000125,3000002,4000017] := by
  intro f vr fd h
  unfold ap2 at h
  split at h
  · cases h; exact ⟨_, _, Tryd.func65, co65, by decide, rfl⟩
  · cases h; exact ⟨_, _, Tryd.func66, co66, by decide, rfl⟩
  · cases h; exact ⟨_, _, Tryd.func74, co74, by decide, rfl⟩
  · cases h; exact tab_body (key := 512) Tryd.func8 cb8_0 (by decide)
  · cases h; exact tab_body (key := 640) Tryd.func10 cb10_0 (by decide)
  · cases h; exact prim42
  · cases h; exact prim31
  · cases h; exact prim64
  · cases h

def ap1 : AP := fun f vr => match f, vr with
  | 34, 0 => some (.code ac34)
  | 35, 0 => some (.code ac35)
  | 36, 0 => some (.code ac36)
  | 37, 0 => some (.code ac37)
  | 38, 0 => some (.code ac38)
  | 39, 0 => some (.code ac39)
  | 40, 0 => some (.code ac40)
  | 41, 0 => some (.code ac41)
  | 43, 0 => some (.code ac43)
  | 44, 0 => some (.code ac44)
  | 45, 0 => some (.code ac45)
  | 46, 0 => some (.code ac46)
  | 48, 0 => some (.code ac48)
  | 49, 0 => some (.code ac49)
  | 50, 0 => some (.code ac50)
  | 51, 0 => some (.code ac51)
  | 52, 0 => some (.code ac52)
  | 53, 0 => some (.code ac53)
  | 54, 0 => some (.code ac54)
  | 55, 0 => some (.code ac55)
  | 56, 0 => some (.code ac56)
  | 57, 0 => some (.code ac57)
  | 58, 0 => some (.code ac58)
  | 59, 0 => some (.code ac59)
  | 62, 0 => some (.code ac62)
  | f, vr => ap2 f vr

theorem table1 : TableOk Tryd.prog ap1 [0,1,3,4,5,6,7,8,9,10,11,12,13,14,15,1000125,3000002,4000017] := by
  intro f vr fd h
  unfold ap1 at h
  split at h
  · cases h; exact ⟨_, _, Tryd.func34, co34, by decide, rfl⟩
  · cases h; exact ⟨_, _, Tryd.func35, co35, by decide, rfl⟩
  · cases h; exact ⟨_, _, Tryd.func36, co36, by decide, rfl⟩
  · cases h; exact ⟨_, _, Tryd.func37, co37, by decide, rfl⟩
  · cases h; exact ⟨_, _, Tryd.func38, co38, by decide, rfl⟩
  · cases h; exact ⟨_, _, Tryd.func39, co39, by decide, rfl⟩
  · cases h; exact ⟨_, _, Tryd.func40, co40, by decide, rfl⟩
  · cases h; exact ⟨_, _, Tryd.func41, co41, by decide, rfl⟩
  · cases h; exact ⟨_, _, Tryd.func43, co43, by decide, rfl⟩
  · cases h; exact ⟨_, _, Tryd.func44, co44, by decide, rfl⟩
  · cases h; exact ⟨_, _, Tryd.func45, co45, by decide, rfl⟩
  · cases h; exact ⟨_, _, Tryd.func46, co46, by decide, rfl⟩
  · cases h; exact ⟨_, _, Tryd.func48, co48, by decide, rfl⟩
  · cases h; exact ⟨_, _, Tryd.func49, co49, by decide, rfl⟩
  · cases h; exact ⟨_, _, Tryd.func50, co50, by decide, rfl⟩
  · cases h; exact ⟨_, _, Tryd.func51, co51, by decide, rfl⟩
  · cases h; exact ⟨_, _, Tryd.func52, co52, by decide, rfl⟩
  · cases h; exact ⟨_, _, Tryd.func53, co53, by decide, rfl⟩
  · cases h; exact ⟨_, _, Tryd.func54, co54, by decide, rfl⟩
  · cases h; exact ⟨_, _, Tryd.func55, co55, by decide, rfl⟩
  · cases h; exact ⟨_, _, Tryd.func56, co56, by decide, rfl⟩
  · cases h; exact ⟨_, _, Tryd.func57, co57, by decide, rfl⟩
  · cases h; exact ⟨_, _, Tryd.func58, co58, by decide, rfl⟩
  · cases h; exact ⟨_, _, Tryd.func59, co59, by decide, rfl⟩
  · cases h; exact ⟨_, _, Tryd.func62, co62, by decide, rfl⟩
  · exact table2 _ _ _ h

def ap0 : AP := fun f vr => match f, vr with
  | 8, 0 => some (.code ac8)
  | 9, 0 => some (.code ac9)
  | 10, 0 => some (.code ac10)
  | 11, 0 => some (.code ac11)
  | 12, 0 => some (.code ac12)
  | 13, 0 => some (.code ac13)
  | 14, 0 => some (.code ac14)
  | 15, 0 => some (.code ac15)
  | 16, 0 => some (.code ac16)
  | 17, 0 => some (.code ac17)
  | 18, 0 => some (.code ac18)
  | 19, 0 => some (.code ac19)
  | 20, 0 => some (.code ac20)
  | 21, 0 => some (.code ac21)
  | 22, 0 => some (.code ac22)
  | 23, 0 => some (.code ac23)
  | 24, 0 => some (.code ac24)
  | 25, 0 => some (.code ac25)
  | 26, 0 => some (.code ac26)
  | 27, 0 => some (.code ac27)
  | 28, 0 => some (.code ac28)
  | 29, 0 => some (.code ac29)
  | 30, 0 => some (.code ac30)
  | 32, 0 => some (.code ac32)
  | 33, 0 => some (.code ac33)
  | f, vr => ap1 f vr

theorem table0 : TableOk Tryd.prog ap0 [0,1,3,4,5,6,7,8,9,10,11,12,13,14,15,1000125,3000002,4000017] := by
  intro f vr fd h
  unfold ap0 at h
  split at h
  · cases h; exact ⟨_, _, Tryd.func8, co8, by decide, rfl⟩
  · cases h; exact ⟨_, _, Tryd.func9, co9, by decide, rfl⟩
  · cases h; exact ⟨_, _, Tryd.func10, co10, by decide, rfl⟩
  · cases h; exact ⟨_, _, Tryd.func11, co11, by decide, rfl⟩
  · cases h; exact ⟨_, _, Tryd.func12, co12, by decide, rfl⟩
  · cases h; exact ⟨_, _, Tryd.func13, co13, by decide, rfl⟩
  · cases h; exact ⟨_, _, Tryd.func14, co14, by decide, rfl⟩
  · cases h; exact ⟨_, _, Tryd.func15, co15, by decide, rfl⟩
  · cases h; exact ⟨_, _, Tryd.func16, co16, by decide, rfl⟩
  · cases h; exact ⟨_, _, Tryd.func17, co17, by decide, rfl⟩
  · cases h; exact ⟨_, _, Tryd.func18, co18, by decide, rfl⟩
  · cases h; exact ⟨_, _, Tryd.func19, co19, by decide, rfl⟩
  · cases h; exact ⟨_, _, Tryd.func20, co20, by decide, rfl⟩
  · cases h; exact ⟨_, _, Tryd.func21, co21, by decide, rfl⟩
  · cases h; exact ⟨_, _, Tryd.func22, co22, by decide, rfl⟩
  · cases h; exact ⟨_, _, Tryd.func23, co23, by decide, rfl⟩
  · cases h; exact ⟨_, _, Tryd.func24, co24, by decide, rfl⟩
  · cases h; exact ⟨_, _, Tryd.func25, co25, by decide, rfl⟩
  · cases h; exact ⟨_, _, Tryd.func26, co26, by decide, rfl⟩
  · cases h; exact ⟨_, _, Tryd.func27, co27, by decide, rfl⟩
  · cases h; exact ⟨_, _, Tryd.func28, co28, by decide, rfl⟩
  · cases h; exact ⟨_, _, Tryd.func29, co29, by decide, rfl⟩
  · cases h; exact ⟨_, _, Tryd.func30, co30, by decide, rfl⟩
  · cases h; exact ⟨_, _, Tryd.func32, co32, by decide, rfl⟩
  · cases h; exact ⟨_, _, Tryd.func33, co33, by decide, rfl⟩
  · exact table1 _ _ _ h

def ap : AP := ap0
theorem tableOk : TableOk Tryd.prog ap [0,1,3,4,5,6,7,8,9,10,11,12,13,14,15,1000125,3000002,4000017] := table0

end Go.Mt
