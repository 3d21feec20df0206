/- The program's functions, for the ideal machine. MADE BY gen.py. -/
import Derived.Test.YtebjndbigoddnaaDoorChecked
import Derived.Test.YtebjndbigoddnaaDoorEngL
import Derived.Test.YtebjndbigoddnaaDoorTz
namespace Go.Proofs.YtebjndbigoddnaaDoor
set_option maxRecDepth 100000

/-- winnower/winnowerlaw10.ColumnDict -/
def lp6_1 : XC := .seq (.seq (.reg [⟨some 38, .mov (.t 9), none, false⟩, ⟨some 39, .mov (.t 0), none, false⟩, ⟨some 40, .len 4 (.t 39), none, false⟩, ⟨some 41, .bin .lss (.t 38) (.t 40), none, false⟩] [0, 5, 7, 8, 9, 41]) (.cond (.t 41) .skip (.exit 2))) (.seq (.block 3 (.reg [⟨some 44, .mov (.t 8), none, false⟩, ⟨some 45, .mov (.t 44), none, false⟩, ⟨some 46, .mov (.t 0), some (45, false), false⟩, ⟨some 47, .mov (.t 9), some (45, false), false⟩, ⟨some 48, .iaddr 4 (.t 46) (.t 47), some (45, false), false⟩, ⟨some 49, .load true 4 (.t 48), some (45, false), false⟩, ⟨some 50, .faddr 1 (.t 5), some (45, false), false⟩, ⟨some 51, .load false 1 (.t 50), some (45, false), false⟩, ⟨some 52, .mov (.t 7), some (45, false), false⟩, ⟨some 53, .iaddr 4 (.t 51) (.t 52), some (45, false), false⟩, ⟨some 54, .load true 4 (.t 53), some (45, false), false⟩, ⟨some 55, .eqa [1, 1, 2, 0] false (.t 49) (.t 54), some (45, false), false⟩, ⟨some 56, .pick (.t 45) (.c (.bool true)) (.t 55), none, false⟩, ⟨some 8, .mov (.t 56), none, false⟩] [0, 5, 7, 8, 9])) (.reg [⟨some 42, .mov (.t 9), none, false⟩, ⟨some 43, .bin .add (.t 42) (.c (.int .i64 1)), none, false⟩, ⟨some 9, .mov (.t 43), none, false⟩] [0, 5, 7, 8, 9]))
def lp6_0 : XC := .seq (.seq (.reg [⟨some 31, .mov (.t 7), none, false⟩, ⟨some 32, .faddr 1 (.t 5), none, false⟩, ⟨some 33, .load false 1 (.t 32), none, false⟩, ⟨some 34, .len 4 (.t 33), none, false⟩, ⟨some 35, .bin .lss (.t 31) (.t 34), none, false⟩] [0, 5, 7, 35]) (.cond (.t 35) .skip (.exit 0))) (.seq (.block 1 (.seq (.reg [⟨some 8, .mov (.c (.bool false)), none, false⟩] [0, 5, 7, 8]) (.seq (.seq (.reg [⟨some 9, .mov (.c (.int .i64 0)), none, false⟩] [0, 5, 7, 8, 9]) (.block 2 (.loop lp6_1))) (.seq (.reg [⟨some 57, .mov (.t 8), none, false⟩, ⟨some 58, .un .not (.t 57), none, false⟩, ⟨some 59, .mov (.t 58), none, false⟩, ⟨some 60, .mov (.t 7), some (59, false), false⟩, ⟨some 61, .bin .gtr (.t 60) (.c (.int .i64 0)), some (59, false), false⟩, ⟨some 62, .mov (.t 61), some (59, false), false⟩, ⟨some 63, .faddr 1 (.t 5), some (62, true), false⟩, ⟨some 64, .load false 1 (.t 63), some (62, true), false⟩, ⟨some 65, .mov (.t 7), some (62, true), false⟩, ⟨some 66, .bin .sub (.t 65) (.c (.int .i64 1)), some (62, true), false⟩, ⟨some 67, .iaddr 4 (.t 64) (.t 66), some (62, true), false⟩, ⟨some 68, .load true 4 (.t 67), some (62, true), false⟩, ⟨some 69, .faddr 1 (.t 5), some (62, true), false⟩, ⟨some 70, .load false 1 (.t 69), some (62, true), false⟩, ⟨some 71, .mov (.t 7), some (62, true), false⟩, ⟨some 72, .iaddr 4 (.t 70) (.t 71), some (62, true), false⟩, ⟨some 73, .load true 4 (.t 72), some (62, true), false⟩, ⟨some 74, .call (.c (.func 26 [] [])) [.t 68, .t 73], some (62, true), false⟩, ⟨some 75, .bin .geq (.t 74) (.c (.int .i64 0)), some (62, true), false⟩, ⟨some 76, .pick (.t 62) (.t 75) (.c (.bool false)), some (59, false), false⟩, ⟨some 77, .pick (.t 59) (.c (.bool true)) (.t 76), none, false⟩] [0, 5, 7, 77]) (.cond (.t 77) (.seq (.reg [⟨some 2, .mov (.c (.bool false)), none, false⟩] [2]) .ret) .skip))))) (.reg [⟨some 36, .mov (.t 7), none, false⟩, ⟨some 37, .bin .add (.t 36) (.c (.int .i64 1)), none, false⟩, ⟨some 7, .mov (.t 37), none, false⟩] [0, 5, 7]))
def lp6_2 : XC := .seq (.seq (.reg [⟨some 84, .mov (.t 13), none, false⟩, ⟨some 85, .mov (.t 0), none, false⟩, ⟨some 86, .len 4 (.t 85), none, false⟩, ⟨some 87, .bin .lss (.t 84) (.t 86), none, false⟩] [0, 5, 10, 11, 12, 13, 87]) (.cond (.t 87) .skip (.exit 4))) (.seq (.block 5 (.seq (.reg [⟨some 90, .mov (.t 0), none, false⟩, ⟨some 91, .mov (.t 13), none, false⟩, ⟨some 92, .iaddr 4 (.t 90) (.t 91), none, false⟩, ⟨some 93, .faddr 0 (.t 92), none, false⟩, ⟨some 94, .load false 1 (.t 93), none, false⟩, ⟨some 95, .bin .neq (.t 94) (.c (.int .i64 0)), none, false⟩, ⟨some 96, .mov (.t 95), none, false⟩, ⟨some 97, .mov (.t 12), some (96, true), false⟩, ⟨some 98, .un .not (.t 97), some (96, true), false⟩, ⟨some 99, .mov (.t 98), some (96, true), false⟩, ⟨some 100, .mov (.t 0), some (99, false), false⟩, ⟨some 101, .mov (.t 13), some (99, false), false⟩, ⟨some 102, .iaddr 4 (.t 100) (.t 101), some (99, false), false⟩, ⟨some 103, .load true 4 (.t 102), some (99, false), false⟩, ⟨some 104, .load true 4 (.t 10), some (99, false), false⟩, ⟨some 105, .call (.c (.func 26 [] [])) [.t 103, .t 104], some (99, false), false⟩, ⟨some 106, .bin .lss (.t 105) (.c (.int .i64 0)), some (99, false), false⟩, ⟨some 107, .pick (.t 99) (.c (.bool true)) (.t 106), some (96, true), false⟩, ⟨some 108, .mov (.t 107), some (96, true), false⟩, ⟨some 109, .mov (.t 0), some (108, false), false⟩, ⟨some 110, .mov (.t 13), some (108, false), false⟩, ⟨some 111, .iaddr 4 (.t 109) (.t 110), some (108, false), false⟩, ⟨some 112, .load true 4 (.t 111), some (108, false), false⟩, ⟨some 113, .load true 4 (.t 11), some (108, false), false⟩, ⟨some 114, .call (.c (.func 26 [] [])) [.t 112, .t 113], some (108, false), false⟩, ⟨some 115, .bin .gtr (.t 114) (.c (.int .i64 0)), some (108, false), false⟩, ⟨some 116, .pick (.t 108) (.c (.bool true)) (.t 115), some (96, true), false⟩, ⟨some 117, .pick (.t 96) (.t 116) (.c (.bool false)), none, false⟩] [0, 5, 10, 11, 12, 13, 117]) (.cond (.t 117) (.seq (.reg [⟨some 2, .mov (.c (.bool false)), none, false⟩] [2]) .ret) .skip))) (.reg [⟨some 88, .mov (.t 13), none, false⟩, ⟨some 89, .bin .add (.t 88) (.c (.int .i64 1)), none, false⟩, ⟨some 13, .mov (.t 89), none, false⟩] [0, 5, 10, 11, 12, 13]))
def b6 : XC := .seq (.reg [⟨some 2, .mov (.c (.bool false)), none, false⟩] [0]) (.seq (.reg [⟨some 14, .call (.c (.func 21 [] [])) [], none, false⟩, ⟨some 3, .mov (.t 14), none, false⟩] [0, 3]) (.seq (.reg [⟨some 15, .mov (.t 0), none, false⟩, ⟨some 16, .call (.c (.func 22 [] [])) [.t 15], none, false⟩, ⟨some 4, .mov (.t 16), none, false⟩] [0, 3, 4]) (.seq (.seq (.reg [⟨some 17, .mov (.t 3), none, false⟩, ⟨some 18, .un .not (.t 17), none, false⟩, ⟨some 19, .mov (.t 18), none, false⟩, ⟨some 20, .mov (.t 4), some (19, false), false⟩, ⟨some 21, .un .not (.t 20), some (19, false), false⟩, ⟨some 22, .pick (.t 19) (.c (.bool true)) (.t 21), none, false⟩] [0, 3, 22]) (.cond (.t 22) (.seq (.reg [⟨some 23, .mov (.t 3), none, false⟩, ⟨some 2, .mov (.t 23), none, false⟩] [2]) .ret) .skip)) (.seq (.reg [⟨some 25, .mov (.t 0), none, false⟩, ⟨some 26, .call (.c (.func 23 [] [])) [.t 25], none, false⟩, ⟨some 24, .mov (.t 26), none, false⟩, ⟨some 27, .ext (.t 24) 0, none, false⟩, ⟨some 28, .ext (.t 24) 1, none, false⟩, ⟨some 5, .alloc 53 [.int .i64 0, .nils, .nils], none, false⟩, ⟨none, .store 3 (.t 5) (.t 27), none, false⟩, ⟨some 6, .mov (.t 28), none, false⟩] [0, 5, 6]) (.seq (.seq (.reg [⟨some 29, .mov (.t 6), none, false⟩, ⟨some 30, .bin .neq (.t 29) (.c (.int .i64 0)), none, false⟩] [0, 5, 30]) (.cond (.t 30) (.seq (.reg [⟨some 2, .mov (.c (.bool true)), none, false⟩] [2]) .ret) .skip)) (.seq (.seq (.reg [⟨some 7, .mov (.c (.int .i64 0)), none, false⟩] [0, 5, 7]) (.block 0 (.loop lp6_0))) (.seq (.reg [⟨some 79, .load true 3 (.t 5), none, false⟩, ⟨some 80, .call (.c (.func 27 [] [])) [.t 79], none, false⟩, ⟨some 78, .mov (.t 80), none, false⟩, ⟨some 81, .ext (.t 78) 0, none, false⟩, ⟨some 82, .ext (.t 78) 1, none, false⟩, ⟨some 83, .ext (.t 78) 2, none, false⟩, ⟨some 10, .alloc 23 [.int .i64 0, .int .i64 0, .str ⟨#[]⟩, .bool false], none, false⟩, ⟨some 11, .alloc 23 [.int .i64 0, .int .i64 0, .str ⟨#[]⟩, .bool false], none, false⟩, ⟨none, .store 4 (.t 10) (.t 81), none, false⟩, ⟨none, .store 4 (.t 11) (.t 82), none, false⟩, ⟨some 12, .mov (.t 83), none, false⟩] [0, 5, 10, 11, 12]) (.seq (.seq (.reg [⟨some 13, .mov (.c (.int .i64 0)), none, false⟩] [0, 5, 10, 11, 12, 13]) (.block 4 (.loop lp6_2))) (.seq (.reg [⟨some 118, .faddr 1 (.t 5), none, false⟩, ⟨some 119, .load false 1 (.t 118), none, false⟩, ⟨some 120, .len 4 (.t 119), none, false⟩, ⟨some 121, .mov (.t 0), none, false⟩, ⟨some 122, .len 4 (.t 121), none, false⟩, ⟨some 123, .bin .leq (.t 120) (.t 122), none, false⟩, ⟨some 2, .mov (.t 123), none, false⟩] [2]) .ret)))))))))
def x6 : XF := ⟨1, b6, [.t 2]⟩
def h6 : Yv := fun id => match id with
  | 0 => [0]
  | 1 => [0, 3]
  | 2 => [0, 3, 4]
  | 3 => [0, 3, 22]
  | 4 => [2]
  | 5 => [0, 5, 6]
  | 6 => [0, 5, 30]
  | 7 => [2]
  | 8 => [0, 5, 7]
  | 9 => [0, 5, 7, 35]
  | 10 => [0, 5, 7]
  | 11 => [0, 5, 7, 8]
  | 12 => [0, 5, 7, 8, 9]
  | 13 => [0, 5, 7, 8, 9, 41]
  | 14 => [0, 5, 7, 8, 9]
  | 15 => [0, 5, 7, 8, 9]
  | 16 => [0, 5, 7, 77]
  | 17 => [2]
  | 18 => [0, 5, 10, 11, 12]
  | 19 => [0, 5, 10, 11, 12, 13]
  | 20 => [0, 5, 10, 11, 12, 13, 87]
  | 21 => [0, 5, 10, 11, 12, 13]
  | 22 => [0, 5, 10, 11, 12, 13, 117]
  | 23 => [2]
  | 24 => [2]
  | _ => []
theorem cv6 : cvF Tryd.prog h6 Tryd.f6 = some x6 := by kernel_rfl

/-- winnower/bitset.Of -/
def lp11_0 : XC := .seq (.reg [⟨some 9, .bin .lss (.t 8) (.t 7), none, false⟩] [2, 3, 6, 7, 8, 9]) (.seq (.cond (.t 9) .skip (.exit 0)) (.seq (.block 1 (.seq (.reg [⟨some 10, .iaddr 1 (.t 6) (.t 8), none, false⟩, ⟨some 11, .load false 1 (.t 10), none, false⟩, ⟨some 5, .mov (.t 11), none, false⟩] [2, 3, 5, 6, 7, 8]) (.seq (.reg [⟨some 12, .mov (.t 5), none, false⟩, ⟨some 13, .call (.c (.func 43 [] [])) [.t 12], none, false⟩] [2, 3, 5, 6, 7, 8, 13]) (.cond (.t 13) (.reg [⟨some 14, .mov (.t 3), none, false⟩, ⟨some 15, .mov (.t 5), none, false⟩, ⟨some 16, .call (.c (.func 44 [] [])) [.t 14, .t 15], none, false⟩, ⟨some 3, .mov (.t 16), none, false⟩] [2, 3, 6, 7, 8]) .skip)))) (.reg [⟨some 17, .bin .add (.t 8) (.c (.int .i64 1)), none, false⟩, ⟨some 8, .mov (.t 17), none, false⟩] [2, 3, 6, 7, 8])))
def b11 : XC := .seq (.reg [⟨some 2, .alloc 30 [.nils], none, false⟩] [0, 2]) (.seq (.reg [⟨some 3, .mov (.c .nils), none, false⟩] [0, 2, 3]) (.seq (.seq (.reg [⟨some 6, .mov (.t 0), none, false⟩, ⟨some 7, .len 1 (.t 6), none, false⟩, ⟨some 8, .mov (.c (.int .i64 0)), none, false⟩] [2, 3, 6, 7, 8]) (.block 0 (.loop lp11_0))) (.seq (.reg [⟨some 18, .mov (.t 3), none, false⟩, ⟨some 19, .build [.nils] [(0, (1, .t 18))], none, false⟩, ⟨none, .store 1 (.t 2) (.t 19), none, false⟩] [2]) .ret)))
def x11 : XF := ⟨1, b11, [.cell 2 true 1]⟩
def h11 : Yv := fun id => match id with
  | 0 => [0, 2]
  | 1 => [0, 2, 3]
  | 2 => [2, 3, 6, 7, 8]
  | 3 => [2, 3, 6, 7, 8, 9]
  | 4 => [2, 3, 5, 6, 7, 8]
  | 5 => [2, 3, 5, 6, 7, 8, 13]
  | 6 => [2, 3, 6, 7, 8]
  | 7 => [2, 3, 6, 7, 8]
  | 8 => [2]
  | _ => []
theorem cv11 : cvF Tryd.prog h11 Tryd.f11 = some x11 := by kernel_rfl

/-- winnower/winnowerref01.Ints -/
def lp17_0 : XC := .seq (.seq (.reg [⟨some 11, .mov (.t 5), none, false⟩, ⟨some 12, .mov (.t 0), none, false⟩, ⟨some 13, .len 1 (.t 12), none, false⟩, ⟨some 14, .bin .lss (.t 11) (.t 13), none, false⟩] [0, 1, 5, 14]) (.cond (.t 14) .skip (.exit 0))) (.seq (.block 1 (.seq (.reg [⟨some 17, .mov (.t 0), none, false⟩, ⟨some 18, .mov (.t 5), none, false⟩, ⟨some 19, .iaddr 1 (.t 17) (.t 18), none, false⟩, ⟨some 20, .load false 1 (.t 19), none, false⟩, ⟨some 21, .mov (.t 1), none, false⟩, ⟨some 22, .mov (.t 5), none, false⟩, ⟨some 23, .iaddr 1 (.t 21) (.t 22), none, false⟩, ⟨some 24, .load false 1 (.t 23), none, false⟩, ⟨some 25, .bin .neq (.t 20) (.t 24), none, false⟩] [0, 1, 5, 25]) (.cond (.t 25) (.seq (.reg [⟨some 4, .mov (.c (.bool false)), none, false⟩] [4]) .ret) .skip))) (.reg [⟨some 15, .mov (.t 5), none, false⟩, ⟨some 16, .bin .add (.t 15) (.c (.int .i64 1)), none, false⟩, ⟨some 5, .mov (.t 16), none, false⟩] [0, 1, 5]))
def b17 : XC := .seq (.reg [⟨some 4, .mov (.c (.bool false)), none, false⟩] [0, 1]) (.seq (.seq (.reg [⟨some 6, .mov (.t 0), none, false⟩, ⟨some 7, .len 1 (.t 6), none, false⟩, ⟨some 8, .mov (.t 1), none, false⟩, ⟨some 9, .len 1 (.t 8), none, false⟩, ⟨some 10, .bin .neq (.t 7) (.t 9), none, false⟩] [0, 1, 10]) (.cond (.t 10) (.seq (.reg [⟨some 4, .mov (.c (.bool false)), none, false⟩] [4]) .ret) .skip)) (.seq (.seq (.reg [⟨some 5, .mov (.c (.int .i64 0)), none, false⟩] [0, 1, 5]) (.block 0 (.loop lp17_0))) (.seq (.reg [⟨some 4, .mov (.c (.bool true)), none, false⟩] [4]) .ret)))
def x17 : XF := ⟨2, b17, [.t 4]⟩
def h17 : Yv := fun id => match id with
  | 0 => [0, 1]
  | 1 => [0, 1, 10]
  | 2 => [4]
  | 3 => [0, 1, 5]
  | 4 => [0, 1, 5, 14]
  | 5 => [0, 1, 5]
  | 6 => [0, 1, 5, 25]
  | 7 => [4]
  | 8 => [4]
  | _ => []
theorem cv17 : cvF Tryd.prog h17 Tryd.f17 = some x17 := by kernel_rfl

/-- winnower/winnowerlaw10.awake -/
def b21 : XC := .seq (.reg [⟨some 0, .mov (.c (.bool false)), none, false⟩] []) (.seq (.reg [⟨some 7, .call (.c (.func 57 [] [])) [.c (.int .i64 7)], none, false⟩, ⟨some 8, .call (.c (.func 57 [] [])) [.c (.int .i64 3)], none, false⟩, ⟨some 9, .call (.c (.func 57 [] [])) [.c (.int .i64 7)], none, false⟩, ⟨some 10, .mkslice true 23 4 [.t 7, .t 8, .t 9], none, false⟩, ⟨some 11, .call (.c (.func 23 [] [])) [.t 10], none, false⟩, ⟨some 6, .mov (.t 11), none, false⟩, ⟨some 12, .ext (.t 6) 0, none, false⟩, ⟨some 13, .ext (.t 6) 1, none, false⟩, ⟨some 1, .alloc 53 [.int .i64 0, .nils, .nils], none, false⟩, ⟨none, .store 3 (.t 1) (.t 12), none, false⟩, ⟨some 2, .mov (.t 13), none, false⟩] [1, 2]) (.seq (.reg [⟨some 14, .faddr 1 (.t 1), none, false⟩, ⟨some 15, .load false 1 (.t 14), none, false⟩, ⟨some 16, .call (.c (.func 57 [] [])) [.c (.int .i64 3)], none, true⟩, ⟨some 17, .call (.c (.func 57 [] [])) [.c (.int .i64 7)], none, true⟩, ⟨some 18, .mkslice true 23 4 [.t 16, .t 17], none, true⟩, ⟨some 19, .call (.c (.func 33 [] [])) [.t 15, .t 18], none, false⟩, ⟨some 3, .mov (.t 19), none, false⟩] [1, 2, 3]) (.seq (.reg [⟨some 20, .faddr 2 (.t 1), none, false⟩, ⟨some 21, .load false 1 (.t 20), none, false⟩, ⟨some 22, .mkslice true 5 1 [.c (.int .u8 5)], none, false⟩, ⟨some 23, .call (.c (.func 38 [] [])) [.t 21, .t 22], none, false⟩, ⟨some 4, .mov (.t 23), none, false⟩] [1, 2, 3, 4]) (.seq (.reg [⟨some 24, .load true 3 (.t 1), none, false⟩, ⟨some 25, .call (.c (.func 28 [] [])) [.t 24, .c (.int .i64 1), .c (.int .i64 2)], none, false⟩, ⟨some 26, .call (.c (.func 18 [] [])) [.t 25, .c (.int .i64 (-1))], none, false⟩, ⟨some 27, .mkslice true 3 1 [.c (.int .i64 0), .c (.int .i64 2)], none, false⟩, ⟨some 28, .call (.c (.func 17 [] [])) [.t 26, .t 27], none, false⟩, ⟨some 5, .mov (.t 28), none, false⟩] [1, 2, 3, 4, 5]) (.seq (.reg [⟨some 29, .mov (.t 2), none, false⟩, ⟨some 30, .bin .eql (.t 29) (.c (.int .i64 0)), none, false⟩, ⟨some 31, .mov (.t 30), none, false⟩, ⟨some 32, .mov (.t 3), some (31, true), false⟩, ⟨some 33, .pick (.t 31) (.t 32) (.c (.bool false)), none, false⟩, ⟨some 34, .mov (.t 33), none, false⟩, ⟨some 35, .mov (.t 4), some (34, true), false⟩, ⟨some 36, .pick (.t 34) (.t 35) (.c (.bool false)), none, false⟩, ⟨some 37, .mov (.t 36), none, false⟩, ⟨some 38, .mov (.t 5), some (37, true), false⟩, ⟨some 39, .pick (.t 37) (.t 38) (.c (.bool false)), none, false⟩, ⟨some 40, .mov (.t 39), none, false⟩, ⟨some 41, .faddr 0 (.t 1), some (40, true), false⟩, ⟨some 42, .load false 1 (.t 41), some (40, true), false⟩, ⟨some 43, .bin .eql (.t 42) (.c (.int .i64 3)), some (40, true), false⟩, ⟨some 44, .pick (.t 40) (.t 43) (.c (.bool false)), none, false⟩, ⟨some 45, .mov (.t 44), none, false⟩, ⟨some 46, .load true 3 (.t 1), some (45, true), false⟩, ⟨some 47, .call (.c (.func 39 [] [])) [.t 46], some (45, true), false⟩, ⟨some 48, .pick (.t 45) (.t 47) (.c (.bool false)), none, false⟩, ⟨some 0, .mov (.t 48), none, false⟩] [0]) .ret)))))
def x21 : XF := ⟨0, b21, [.t 0]⟩
def h21 : Yv := fun id => match id with
  | 1 => [1, 2]
  | 2 => [1, 2, 3]
  | 3 => [1, 2, 3, 4]
  | 4 => [1, 2, 3, 4, 5]
  | 5 => [0]
  | _ => []
theorem cv21 : cvF Tryd.prog h21 Tryd.f21 = some x21 := by kernel_rfl

/-- winnower/winnowerlaw10.few -/
def lp22_0 : XC := .seq (.seq (.reg [⟨some 7, .mov (.t 3), none, false⟩, ⟨some 8, .mov (.t 0), none, false⟩, ⟨some 9, .len 4 (.t 8), none, false⟩, ⟨some 10, .bin .lss (.t 7) (.t 9), none, false⟩] [0, 3, 10]) (.cond (.t 10) .skip (.exit 0))) (.seq (.block 1 (.seq (.reg [⟨some 13, .mov (.t 0), none, false⟩, ⟨some 14, .mov (.t 3), none, false⟩, ⟨some 15, .iaddr 4 (.t 13) (.t 14), none, false⟩, ⟨some 16, .faddr 2 (.t 15), none, false⟩, ⟨some 17, .load false 1 (.t 16), none, false⟩, ⟨some 18, .lens (.t 17), none, false⟩, ⟨some 19, .bin .gtr (.t 18) (.c (.int .i64 300)), none, false⟩] [0, 3, 19]) (.cond (.t 19) (.seq (.reg [⟨some 2, .mov (.c (.bool false)), none, false⟩] [2]) .ret) .skip))) (.reg [⟨some 11, .mov (.t 3), none, false⟩, ⟨some 12, .bin .add (.t 11) (.c (.int .i64 1)), none, false⟩, ⟨some 3, .mov (.t 12), none, false⟩] [0, 3]))
def b22 : XC := .seq (.reg [⟨some 2, .mov (.c (.bool false)), none, false⟩] [0]) (.seq (.seq (.reg [⟨some 4, .mov (.t 0), none, false⟩, ⟨some 5, .len 4 (.t 4), none, false⟩, ⟨some 6, .bin .gtr (.t 5) (.c (.int .i64 200)), none, false⟩] [0, 6]) (.cond (.t 6) (.seq (.reg [⟨some 2, .mov (.c (.bool false)), none, false⟩] [2]) .ret) .skip)) (.seq (.seq (.reg [⟨some 3, .mov (.c (.int .i64 0)), none, false⟩] [0, 3]) (.block 0 (.loop lp22_0))) (.seq (.reg [⟨some 2, .mov (.c (.bool true)), none, false⟩] [2]) .ret)))
def x22 : XF := ⟨1, b22, [.t 2]⟩
def h22 : Yv := fun id => match id with
  | 0 => [0]
  | 1 => [0, 6]
  | 2 => [2]
  | 3 => [0, 3]
  | 4 => [0, 3, 10]
  | 5 => [0, 3]
  | 6 => [0, 3, 19]
  | 7 => [2]
  | 8 => [2]
  | _ => []
theorem cv22 : cvF Tryd.prog h22 Tryd.f22 = some x22 := by kernel_rfl

/-- winnower/column.Build -/
def lp23_0 : XC := .seq (.reg [⟨some 27, .bin .lss (.t 26) (.t 25), none, false⟩] [0, 2, 4, 5, 24, 25, 26, 27]) (.seq (.cond (.t 27) .skip (.exit 0)) (.seq (.block 1 (.seq (.reg [⟨some 28, .mov (.t 26), none, false⟩, ⟨some 29, .iaddr 4 (.t 24) (.t 26), none, false⟩, ⟨some 30, .load true 4 (.t 29), none, false⟩, ⟨some 7, .alloc 23 [.int .i64 0, .int .i64 0, .str ⟨#[]⟩, .bool false], none, false⟩, ⟨some 6, .mov (.t 28), none, false⟩, ⟨none, .store 4 (.t 7) (.t 30), none, false⟩] [0, 2, 4, 5, 6, 7, 24, 25, 26]) (.seq (.reg [⟨some 32, .mov (.t 4), none, false⟩, ⟨some 33, .load true 4 (.t 7), none, false⟩, ⟨some 34, .call (.c (.func 59 [] [])) [.t 32, .t 33], none, false⟩, ⟨some 31, .mov (.t 34), none, false⟩, ⟨some 35, .ext (.t 31) 0, none, false⟩, ⟨some 36, .ext (.t 31) 1, none, false⟩, ⟨some 8, .mov (.t 35), none, false⟩, ⟨some 9, .mov (.t 36), none, false⟩] [0, 2, 4, 5, 6, 8, 9, 24, 25, 26]) (.seq (.seq (.reg [⟨some 37, .mov (.t 9), none, false⟩, ⟨some 38, .bin .neq (.t 37) (.c (.int .i64 0)), none, false⟩] [0, 2, 4, 5, 6, 8, 9, 24, 25, 26, 38]) (.cond (.t 38) (.seq (.reg [⟨some 39, .build [.int .i64 0, .nils, .nils] [], none, false⟩, ⟨some 40, .mov (.t 9), none, false⟩, ⟨none, .store 3 (.t 2) (.t 39), none, false⟩, ⟨some 3, .mov (.t 40), none, false⟩] [2, 3]) .ret) .skip)) (.reg [⟨some 41, .mov (.t 5), none, false⟩, ⟨some 42, .mov (.t 6), none, false⟩, ⟨some 43, .mov (.t 8), none, false⟩, ⟨some 44, .iaddr 1 (.t 41) (.t 42), none, false⟩, ⟨none, .store 1 (.t 44) (.t 43), none, false⟩] [0, 2, 4, 5, 24, 25, 26]))))) (.reg [⟨some 45, .bin .add (.t 26) (.c (.int .i64 1)), none, false⟩, ⟨some 26, .mov (.t 45), none, false⟩] [0, 2, 4, 5, 24, 25, 26])))
def lp23_1 : XC := .seq (.reg [⟨some 54, .bin .lss (.t 53) (.t 52), none, false⟩] [0, 2, 5, 10, 11, 51, 52, 53, 54]) (.seq (.cond (.t 54) .skip (.exit 2)) (.seq (.block 3 (.seq (.reg [⟨some 55, .mov (.t 53), none, false⟩, ⟨some 56, .iaddr 1 (.t 51) (.t 53), none, false⟩, ⟨some 57, .load false 1 (.t 56), none, false⟩, ⟨some 12, .mov (.t 55), none, false⟩, ⟨some 13, .mov (.t 57), none, false⟩] [0, 2, 5, 10, 11, 12, 13, 51, 52, 53]) (.reg [⟨some 58, .mov (.t 5), none, false⟩, ⟨some 59, .mov (.t 12), none, false⟩, ⟨some 60, .mov (.t 11), none, false⟩, ⟨some 61, .mov (.t 13), none, false⟩, ⟨some 62, .iaddr 1 (.t 60) (.t 61), none, false⟩, ⟨some 63, .load false 1 (.t 62), none, false⟩, ⟨some 64, .iaddr 1 (.t 58) (.t 59), none, false⟩, ⟨none, .store 1 (.t 64) (.t 63), none, false⟩] [0, 2, 5, 10, 11, 51, 52, 53]))) (.reg [⟨some 65, .bin .add (.t 53) (.c (.int .i64 1)), none, false⟩, ⟨some 53, .mov (.t 65), none, false⟩] [0, 2, 5, 10, 11, 51, 52, 53])))
def b23 : XC := .seq (.reg [⟨some 2, .alloc 53 [.int .i64 0, .nils, .nils], none, false⟩, ⟨some 3, .mov (.c (.int .i64 0)), none, false⟩] [0, 2]) (.seq (.seq (.reg [⟨some 16, .mov (.t 0), none, false⟩, ⟨some 17, .len 4 (.t 16), none, false⟩, ⟨some 18, .bin .gtr (.t 17) (.c (.int .i64 4096)), none, false⟩] [0, 2, 18]) (.cond (.t 18) (.seq (.reg [⟨some 19, .build [.int .i64 0, .nils, .nils] [], none, false⟩, ⟨none, .store 3 (.t 2) (.t 19), none, false⟩, ⟨some 3, .mov (.c (.int .i64 2)), none, false⟩] [2, 3]) .ret) .skip)) (.seq (.reg [⟨some 20, .call (.c (.func 58 [] [])) [.c (.int .i64 4096)], none, false⟩, ⟨some 4, .mov (.t 20), none, false⟩] [0, 2, 4]) (.seq (.reg [⟨some 21, .mov (.t 0), none, false⟩, ⟨some 22, .len 4 (.t 21), none, false⟩, ⟨some 23, .make 3 1 8 (.int .i64 0) (.t 22) (.t 22), none, false⟩, ⟨some 5, .mov (.t 23), none, false⟩] [0, 2, 4, 5]) (.seq (.seq (.reg [⟨some 24, .mov (.t 0), none, false⟩, ⟨some 25, .len 4 (.t 24), none, false⟩, ⟨some 26, .mov (.c (.int .i64 0)), none, false⟩] [0, 2, 4, 5, 24, 25, 26]) (.block 0 (.loop lp23_0))) (.seq (.reg [⟨some 47, .mov (.t 4), none, false⟩, ⟨some 48, .call (.c (.func 60 [] [])) [.t 47], none, false⟩, ⟨some 46, .mov (.t 48), none, false⟩, ⟨some 49, .ext (.t 46) 0, none, false⟩, ⟨some 50, .ext (.t 46) 1, none, false⟩, ⟨some 10, .mov (.t 49), none, false⟩, ⟨some 11, .mov (.t 50), none, false⟩] [0, 2, 5, 10, 11]) (.seq (.seq (.reg [⟨some 51, .mov (.t 5), none, false⟩, ⟨some 52, .len 1 (.t 51), none, false⟩, ⟨some 53, .mov (.c (.int .i64 0)), none, false⟩] [0, 2, 5, 10, 11, 51, 52, 53]) (.block 2 (.loop lp23_1))) (.seq (.reg [⟨some 67, .mov (.t 5), none, false⟩, ⟨some 68, .mov (.t 10), none, false⟩, ⟨some 69, .len 4 (.t 68), none, false⟩, ⟨some 70, .call (.c (.func 62 [] [])) [.t 69], none, false⟩, ⟨some 71, .call (.c (.func 61 [] [])) [.t 67, .t 70], none, false⟩, ⟨some 66, .mov (.t 71), none, false⟩, ⟨some 72, .ext (.t 66) 0, none, false⟩, ⟨some 73, .ext (.t 66) 1, none, false⟩, ⟨some 14, .mov (.t 72), none, false⟩, ⟨some 15, .mov (.t 73), none, false⟩] [0, 2, 10, 14, 15]) (.seq (.reg [⟨some 74, .mov (.t 0), none, false⟩, ⟨some 75, .len 4 (.t 74), none, false⟩, ⟨some 76, .mov (.t 10), none, false⟩, ⟨some 77, .mov (.t 14), none, false⟩, ⟨some 78, .build [.int .i64 0, .nils, .nils] [(0, (1, .t 75)), (1, (1, .t 76)), (2, (1, .t 77))], none, false⟩, ⟨some 79, .mov (.t 15), none, false⟩, ⟨none, .store 3 (.t 2) (.t 78), none, false⟩, ⟨some 3, .mov (.t 79), none, false⟩] [2, 3]) .ret))))))))
def x23 : XF := ⟨1, b23, [.cell 2 true 3, .t 3]⟩
def h23 : Yv := fun id => match id with
  | 0 => [0, 2]
  | 1 => [0, 2, 18]
  | 2 => [2, 3]
  | 3 => [0, 2, 4]
  | 4 => [0, 2, 4, 5]
  | 5 => [0, 2, 4, 5, 24, 25, 26]
  | 6 => [0, 2, 4, 5, 24, 25, 26, 27]
  | 7 => [0, 2, 4, 5, 6, 7, 24, 25, 26]
  | 8 => [0, 2, 4, 5, 6, 8, 9, 24, 25, 26]
  | 9 => [0, 2, 4, 5, 6, 8, 9, 24, 25, 26, 38]
  | 10 => [2, 3]
  | 11 => [0, 2, 4, 5, 24, 25, 26]
  | 12 => [0, 2, 4, 5, 24, 25, 26]
  | 13 => [0, 2, 5, 10, 11]
  | 14 => [0, 2, 5, 10, 11, 51, 52, 53]
  | 15 => [0, 2, 5, 10, 11, 51, 52, 53, 54]
  | 16 => [0, 2, 5, 10, 11, 12, 13, 51, 52, 53]
  | 17 => [0, 2, 5, 10, 11, 51, 52, 53]
  | 18 => [0, 2, 5, 10, 11, 51, 52, 53]
  | 19 => [0, 2, 10, 14, 15]
  | 20 => [2, 3]
  | _ => []
theorem cv23 : cvF Tryd.prog h23 Tryd.f23 = some x23 := by kernel_rfl

/-- winnower/winnowerref06.Order -/
def b26 : XC := .seq (.reg [⟨some 2, .box 23 (.t 0), none, false⟩, ⟨some 3, .box 23 (.t 1), none, false⟩, ⟨some 4, .mov (.c (.int .i64 0)), none, false⟩] [2, 3]) (.seq (.seq (.reg [⟨some 5, .faddr 0 (.t 2), none, false⟩, ⟨some 6, .load false 1 (.t 5), none, false⟩, ⟨some 7, .faddr 0 (.t 3), none, false⟩, ⟨some 8, .load false 1 (.t 7), none, false⟩, ⟨some 9, .bin .lss (.t 6) (.t 8), none, false⟩] [2, 3, 9]) (.cond (.t 9) (.seq (.reg [⟨some 4, .mov (.c (.int .i64 (-1))), none, false⟩] [4]) .ret) .skip)) (.seq (.seq (.reg [⟨some 10, .faddr 0 (.t 2), none, false⟩, ⟨some 11, .load false 1 (.t 10), none, false⟩, ⟨some 12, .faddr 0 (.t 3), none, false⟩, ⟨some 13, .load false 1 (.t 12), none, false⟩, ⟨some 14, .bin .gtr (.t 11) (.t 13), none, false⟩] [2, 3, 14]) (.cond (.t 14) (.seq (.reg [⟨some 4, .mov (.c (.int .i64 1)), none, false⟩] [4]) .ret) .skip)) (.seq (.seq (.reg [⟨some 15, .faddr 0 (.t 2), none, false⟩, ⟨some 16, .load false 1 (.t 15), none, false⟩] [2, 3, 16]) (.block 0 (.seq (.reg [⟨some 18, .bin .eql (.t 16) (.c (.int .i64 1)), none, false⟩, ⟨some 17, .mov (.t 18), none, false⟩] [2, 3, 16, 17]) (.cond (.t 17) (.seq (.seq (.reg [⟨some 19, .faddr 1 (.t 2), none, false⟩, ⟨some 20, .load false 1 (.t 19), none, false⟩, ⟨some 21, .faddr 1 (.t 3), none, false⟩, ⟨some 22, .load false 1 (.t 21), none, false⟩, ⟨some 23, .bin .lss (.t 20) (.t 22), none, false⟩] [2, 3, 23]) (.cond (.t 23) (.seq (.reg [⟨some 4, .mov (.c (.int .i64 (-1))), none, false⟩] [4]) .ret) .skip)) (.seq (.reg [⟨some 24, .faddr 1 (.t 2), none, false⟩, ⟨some 25, .load false 1 (.t 24), none, false⟩, ⟨some 26, .faddr 1 (.t 3), none, false⟩, ⟨some 27, .load false 1 (.t 26), none, false⟩, ⟨some 28, .bin .gtr (.t 25) (.t 27), none, false⟩] [28]) (.cond (.t 28) (.seq (.reg [⟨some 4, .mov (.c (.int .i64 1)), none, false⟩] [4]) .ret) .skip))) (.seq (.reg [⟨some 30, .bin .eql (.t 16) (.c (.int .i64 2)), none, false⟩, ⟨some 29, .mov (.t 30), none, false⟩] [2, 3, 16, 29]) (.cond (.t 29) (.seq (.reg [⟨some 31, .faddr 2 (.t 2), none, false⟩, ⟨some 32, .load false 1 (.t 31), none, false⟩, ⟨some 33, .faddr 2 (.t 3), none, false⟩, ⟨some 34, .load false 1 (.t 33), none, false⟩, ⟨some 35, .call (.c (.func 68 [] [])) [.t 32, .t 34], none, false⟩, ⟨some 4, .mov (.t 35), none, false⟩] [4]) .ret) (.seq (.reg [⟨some 37, .bin .eql (.t 16) (.c (.int .i64 3)), none, false⟩, ⟨some 36, .mov (.t 37), none, false⟩] [2, 3, 36]) (.cond (.t 36) (.seq (.seq (.reg [⟨some 38, .faddr 3 (.t 2), none, false⟩, ⟨some 39, .load false 1 (.t 38), none, false⟩, ⟨some 40, .un .not (.t 39), none, false⟩, ⟨some 41, .mov (.t 40), none, false⟩, ⟨some 42, .faddr 3 (.t 3), some (41, true), false⟩, ⟨some 43, .load false 1 (.t 42), some (41, true), false⟩, ⟨some 44, .pick (.t 41) (.t 43) (.c (.bool false)), none, false⟩] [2, 3, 44]) (.cond (.t 44) (.seq (.reg [⟨some 4, .mov (.c (.int .i64 (-1))), none, false⟩] [4]) .ret) .skip)) (.seq (.reg [⟨some 45, .faddr 3 (.t 2), none, false⟩, ⟨some 46, .load false 1 (.t 45), none, false⟩, ⟨some 47, .mov (.t 46), none, false⟩, ⟨some 48, .faddr 3 (.t 3), some (47, true), false⟩, ⟨some 49, .load false 1 (.t 48), some (47, true), false⟩, ⟨some 50, .un .not (.t 49), some (47, true), false⟩, ⟨some 51, .pick (.t 47) (.t 50) (.c (.bool false)), none, false⟩] [51]) (.cond (.t 51) (.seq (.reg [⟨some 4, .mov (.c (.int .i64 1)), none, false⟩] [4]) .ret) .skip))) .skip)))))))) (.seq (.reg [⟨some 4, .mov (.c (.int .i64 0)), none, false⟩] [4]) .ret))))
def x26 : XF := ⟨2, b26, [.t 4]⟩
def h26 : Yv := fun id => match id with
  | 0 => [2, 3]
  | 1 => [2, 3, 9]
  | 2 => [4]
  | 3 => [2, 3, 14]
  | 4 => [4]
  | 5 => [2, 3, 16]
  | 6 => [2, 3, 16, 17]
  | 7 => [2, 3, 23]
  | 8 => [4]
  | 9 => [28]
  | 10 => [4]
  | 11 => [2, 3, 16, 29]
  | 12 => [4]
  | 13 => [2, 3, 36]
  | 14 => [2, 3, 44]
  | 15 => [4]
  | 16 => [51]
  | 17 => [4]
  | 18 => [4]
  | _ => []
theorem cv26 : cvF Tryd.prog h26 Tryd.f26 = some x26 := by kernel_rfl

/-- winnower/column.Ends -/
def b27 : XC := .seq (.reg [⟨some 1, .box 53 (.t 0), none, false⟩, ⟨some 2, .alloc 23 [.int .i64 0, .int .i64 0, .str ⟨#[]⟩, .bool false], none, false⟩, ⟨some 3, .alloc 23 [.int .i64 0, .int .i64 0, .str ⟨#[]⟩, .bool false], none, false⟩, ⟨some 4, .mov (.c (.bool false)), none, false⟩] [1, 2, 3]) (.seq (.seq (.reg [⟨some 6, .load true 3 (.t 1), none, false⟩, ⟨some 7, .call (.c (.func 39 [] [])) [.t 6], none, false⟩, ⟨some 8, .un .not (.t 7), none, false⟩] [1, 2, 3, 8]) (.cond (.t 8) (.seq (.reg [⟨some 9, .build [.int .i64 0, .int .i64 0, .str ⟨#[]⟩, .bool false] [], none, false⟩, ⟨some 10, .build [.int .i64 0, .int .i64 0, .str ⟨#[]⟩, .bool false] [], none, false⟩, ⟨none, .store 4 (.t 2) (.t 9), none, false⟩, ⟨none, .store 4 (.t 3) (.t 10), none, false⟩, ⟨some 4, .mov (.c (.bool false)), none, false⟩] [2, 3, 4]) .ret) .skip)) (.seq (.reg [⟨some 11, .faddr 1 (.t 1), none, false⟩, ⟨some 12, .load false 1 (.t 11), none, false⟩, ⟨some 5, .mov (.t 12), none, false⟩] [2, 3, 5]) (.seq (.seq (.reg [⟨some 13, .mov (.t 5), none, false⟩, ⟨some 14, .len 4 (.t 13), none, false⟩, ⟨some 15, .bin .gtr (.t 14) (.c (.int .i64 0)), none, false⟩, ⟨some 16, .mov (.t 15), none, false⟩, ⟨some 17, .mov (.t 5), some (16, true), false⟩, ⟨some 18, .iaddr 4 (.t 17) (.c (.int .i64 0)), some (16, true), false⟩, ⟨some 19, .faddr 0 (.t 18), some (16, true), false⟩, ⟨some 20, .load false 1 (.t 19), some (16, true), false⟩, ⟨some 21, .bin .eql (.t 20) (.c (.int .i64 0)), some (16, true), false⟩, ⟨some 22, .pick (.t 16) (.t 21) (.c (.bool false)), none, false⟩] [2, 3, 5, 22]) (.cond (.t 22) (.reg [⟨some 23, .mov (.t 5), none, false⟩, ⟨some 24, .slc 4 (.t 23) (some (.c (.int .i64 1))) none none, none, false⟩, ⟨some 5, .mov (.t 24), none, false⟩] [2, 3, 5]) .skip)) (.seq (.seq (.reg [⟨some 25, .mov (.t 5), none, false⟩, ⟨some 26, .len 4 (.t 25), none, false⟩, ⟨some 27, .bin .eql (.t 26) (.c (.int .i64 0)), none, false⟩] [2, 3, 5, 27]) (.cond (.t 27) (.seq (.reg [⟨some 28, .build [.int .i64 0, .int .i64 0, .str ⟨#[]⟩, .bool false] [], none, false⟩, ⟨some 29, .build [.int .i64 0, .int .i64 0, .str ⟨#[]⟩, .bool false] [], none, false⟩, ⟨none, .store 4 (.t 2) (.t 28), none, false⟩, ⟨none, .store 4 (.t 3) (.t 29), none, false⟩, ⟨some 4, .mov (.c (.bool false)), none, false⟩] [2, 3, 4]) .ret) .skip)) (.seq (.reg [⟨some 30, .mov (.t 5), none, false⟩, ⟨some 31, .iaddr 4 (.t 30) (.c (.int .i64 0)), none, false⟩, ⟨some 32, .load true 4 (.t 31), none, false⟩, ⟨some 33, .mov (.t 5), none, false⟩, ⟨some 34, .mov (.t 5), none, false⟩, ⟨some 35, .len 4 (.t 34), none, true⟩, ⟨some 36, .bin .sub (.t 35) (.c (.int .i64 1)), none, false⟩, ⟨some 37, .iaddr 4 (.t 33) (.t 36), none, true⟩, ⟨some 38, .load true 4 (.t 37), none, true⟩, ⟨none, .store 4 (.t 2) (.t 32), none, false⟩, ⟨none, .store 4 (.t 3) (.t 38), none, false⟩, ⟨some 4, .mov (.c (.bool true)), none, false⟩] [2, 3, 4]) .ret)))))
def x27 : XF := ⟨1, b27, [.cell 2 true 4, .cell 3 true 4, .t 4]⟩
def h27 : Yv := fun id => match id with
  | 0 => [1, 2, 3]
  | 1 => [1, 2, 3, 8]
  | 2 => [2, 3, 4]
  | 3 => [2, 3, 5]
  | 4 => [2, 3, 5, 22]
  | 5 => [2, 3, 5]
  | 6 => [2, 3, 5, 27]
  | 7 => [2, 3, 4]
  | 8 => [2, 3, 4]
  | _ => []
theorem cv27 : cvF Tryd.prog h27 Tryd.f27 = some x27 := by kernel_rfl

/-- winnower/column.Range -/
def b28 : XC := .seq (.reg [⟨some 3, .box 53 (.t 0), none, false⟩, ⟨some 4, .box 3 (.t 1), none, false⟩, ⟨some 5, .box 3 (.t 2), none, false⟩, ⟨some 6, .alloc 30 [.nils], none, false⟩] [3, 4, 5, 6]) (.seq (.reg [⟨some 7, .load true 3 (.t 3), none, false⟩, ⟨some 8, .mkfn 70 [] [.t 4, .t 5], none, false⟩, ⟨some 9, .call (.c (.func 69 [] [])) [.t 7, .t 8], none, false⟩, ⟨none, .store 1 (.t 6) (.t 9), none, false⟩] [6]) .ret)
def x28 : XF := ⟨3, b28, [.cell 6 true 1]⟩
def h28 : Yv := fun id => match id with
  | 0 => [3, 4, 5, 6]
  | 1 => [6]
  | _ => []
theorem cv28 : cvF Tryd.prog h28 Tryd.f28 = some x28 := by kernel_rfl

/-- winnower/winnowerref06.Same -/
def lp33_0 : XC := .seq (.seq (.reg [⟨some 11, .mov (.t 5), none, false⟩, ⟨some 12, .mov (.t 0), none, false⟩, ⟨some 13, .len 4 (.t 12), none, false⟩, ⟨some 14, .bin .lss (.t 11) (.t 13), none, false⟩] [0, 1, 5, 14]) (.cond (.t 14) .skip (.exit 0))) (.seq (.block 1 (.seq (.reg [⟨some 17, .mov (.t 0), none, false⟩, ⟨some 18, .mov (.t 5), none, false⟩, ⟨some 19, .iaddr 4 (.t 17) (.t 18), none, false⟩, ⟨some 20, .load true 4 (.t 19), none, false⟩, ⟨some 21, .mov (.t 1), none, false⟩, ⟨some 22, .mov (.t 5), none, false⟩, ⟨some 23, .iaddr 4 (.t 21) (.t 22), none, false⟩, ⟨some 24, .load true 4 (.t 23), none, false⟩, ⟨some 25, .eqa [1, 1, 2, 0] true (.t 20) (.t 24), none, false⟩] [0, 1, 5, 25]) (.cond (.t 25) (.seq (.reg [⟨some 4, .mov (.c (.bool false)), none, false⟩] [4]) .ret) .skip))) (.reg [⟨some 15, .mov (.t 5), none, false⟩, ⟨some 16, .bin .add (.t 15) (.c (.int .i64 1)), none, false⟩, ⟨some 5, .mov (.t 16), none, false⟩] [0, 1, 5]))
def b33 : XC := .seq (.reg [⟨some 4, .mov (.c (.bool false)), none, false⟩] [0, 1]) (.seq (.seq (.reg [⟨some 6, .mov (.t 0), none, false⟩, ⟨some 7, .len 4 (.t 6), none, false⟩, ⟨some 8, .mov (.t 1), none, false⟩, ⟨some 9, .len 4 (.t 8), none, false⟩, ⟨some 10, .bin .neq (.t 7) (.t 9), none, false⟩] [0, 1, 10]) (.cond (.t 10) (.seq (.reg [⟨some 4, .mov (.c (.bool false)), none, false⟩] [4]) .ret) .skip)) (.seq (.seq (.reg [⟨some 5, .mov (.c (.int .i64 0)), none, false⟩] [0, 1, 5]) (.block 0 (.loop lp33_0))) (.seq (.reg [⟨some 4, .mov (.c (.bool true)), none, false⟩] [4]) .ret)))
def x33 : XF := ⟨2, b33, [.t 4]⟩
def h33 : Yv := fun id => match id with
  | 0 => [0, 1]
  | 1 => [0, 1, 10]
  | 2 => [4]
  | 3 => [0, 1, 5]
  | 4 => [0, 1, 5, 14]
  | 5 => [0, 1, 5]
  | 6 => [0, 1, 5, 25]
  | 7 => [4]
  | 8 => [4]
  | _ => []
theorem cv33 : cvF Tryd.prog h33 Tryd.f33 = some x33 := by kernel_rfl

/-- winnower/winnowerref01.Same -/
def lp38_0 : XC := .seq (.seq (.reg [⟨some 11, .mov (.t 5), none, false⟩, ⟨some 12, .mov (.t 0), none, false⟩, ⟨some 13, .len 1 (.t 12), none, false⟩, ⟨some 14, .bin .lss (.t 11) (.t 13), none, false⟩] [0, 1, 5, 14]) (.cond (.t 14) .skip (.exit 0))) (.seq (.block 1 (.seq (.reg [⟨some 17, .mov (.t 0), none, false⟩, ⟨some 18, .mov (.t 5), none, false⟩, ⟨some 19, .iaddr 1 (.t 17) (.t 18), none, false⟩, ⟨some 20, .load false 1 (.t 19), none, false⟩, ⟨some 21, .mov (.t 1), none, false⟩, ⟨some 22, .mov (.t 5), none, false⟩, ⟨some 23, .iaddr 1 (.t 21) (.t 22), none, false⟩, ⟨some 24, .load false 1 (.t 23), none, false⟩, ⟨some 25, .bin .neq (.t 20) (.t 24), none, false⟩] [0, 1, 5, 25]) (.cond (.t 25) (.seq (.reg [⟨some 4, .mov (.c (.bool false)), none, false⟩] [4]) .ret) .skip))) (.reg [⟨some 15, .mov (.t 5), none, false⟩, ⟨some 16, .bin .add (.t 15) (.c (.int .i64 1)), none, false⟩, ⟨some 5, .mov (.t 16), none, false⟩] [0, 1, 5]))
def b38 : XC := .seq (.reg [⟨some 4, .mov (.c (.bool false)), none, false⟩] [0, 1]) (.seq (.seq (.reg [⟨some 6, .mov (.t 0), none, false⟩, ⟨some 7, .len 1 (.t 6), none, false⟩, ⟨some 8, .mov (.t 1), none, false⟩, ⟨some 9, .len 1 (.t 8), none, false⟩, ⟨some 10, .bin .neq (.t 7) (.t 9), none, false⟩] [0, 1, 10]) (.cond (.t 10) (.seq (.reg [⟨some 4, .mov (.c (.bool false)), none, false⟩] [4]) .ret) .skip)) (.seq (.seq (.reg [⟨some 5, .mov (.c (.int .i64 0)), none, false⟩] [0, 1, 5]) (.block 0 (.loop lp38_0))) (.seq (.reg [⟨some 4, .mov (.c (.bool true)), none, false⟩] [4]) .ret)))
def x38 : XF := ⟨2, b38, [.t 4]⟩
def h38 : Yv := fun id => match id with
  | 0 => [0, 1]
  | 1 => [0, 1, 10]
  | 2 => [4]
  | 3 => [0, 1, 5]
  | 4 => [0, 1, 5, 14]
  | 5 => [0, 1, 5]
  | 6 => [0, 1, 5, 25]
  | 7 => [4]
  | 8 => [4]
  | _ => []
theorem cv38 : cvF Tryd.prog h38 Tryd.f38 = some x38 := by kernel_rfl

/-- winnower/column.May -/
def b39 : XC := .seq (.reg [⟨some 1, .box 53 (.t 0), none, false⟩, ⟨some 2, .mov (.c (.bool false)), none, false⟩] [1]) (.seq (.reg [⟨some 6, .load true 3 (.t 1), none, false⟩, ⟨some 7, .call (.c (.func 74 [] [])) [.t 6], none, false⟩, ⟨some 5, .mov (.t 7), none, false⟩, ⟨some 8, .ext (.t 5) 0, none, false⟩, ⟨some 9, .ext (.t 5) 1, none, false⟩, ⟨some 3, .mov (.t 8), none, false⟩, ⟨some 4, .mov (.t 9), none, false⟩] [4]) (.seq (.reg [⟨some 10, .mov (.t 4), none, false⟩, ⟨some 2, .mov (.t 10), none, false⟩] [2]) .ret))
def x39 : XF := ⟨1, b39, [.t 2]⟩
def h39 : Yv := fun id => match id with
  | 0 => [1]
  | 1 => [4]
  | 2 => [2]
  | _ => []
theorem cv39 : cvF Tryd.prog h39 Tryd.f39 = some x39 := by kernel_rfl

/-- winnower/bitset.may -/
def b43 : XC := .seq (.reg [⟨some 2, .mov (.c (.bool false)), none, false⟩] [0]) (.seq (.reg [⟨some 3, .mov (.t 0), none, false⟩, ⟨some 4, .bin .geq (.t 3) (.c (.int .i64 0)), none, false⟩, ⟨some 5, .mov (.t 4), none, false⟩, ⟨some 6, .mov (.t 0), some (5, true), false⟩, ⟨some 7, .bin .lss (.t 6) (.c (.int .i64 65536)), some (5, true), false⟩, ⟨some 8, .pick (.t 5) (.t 7) (.c (.bool false)), none, false⟩, ⟨some 2, .mov (.t 8), none, false⟩] [2]) .ret)
def x43 : XF := ⟨1, b43, [.t 2]⟩
def h43 : Yv := fun id => match id with
  | 0 => [0]
  | 1 => [2]
  | _ => []
theorem cv43 : cvF Tryd.prog h43 Tryd.f43 = some x43 := by kernel_rfl

/-- winnower/bitset.put -/
def lp44_0 : XC := .seq (.seq (.reg [⟨some 5, .mov (.t 0), none, false⟩, ⟨some 6, .len 1 (.t 5), none, false⟩, ⟨some 7, .mov (.t 1), none, false⟩, ⟨some 8, .bin .quo (.t 7) (.c (.int .i64 64)), none, false⟩, ⟨some 9, .bin .leq (.t 6) (.t 8), none, false⟩] [0, 1, 9]) (.cond (.t 9) .skip (.exit 0))) (.block 1 (.reg [⟨some 10, .mov (.t 0), none, false⟩, ⟨some 11, .mkslice true 82 1 [.c (.int .u64 0)], none, false⟩, ⟨some 12, .app 82 1 8 (.t 10) (.t 11), none, false⟩, ⟨some 0, .mov (.t 12), none, false⟩] [0, 1]))
def b44 : XC := .seq (.reg [⟨some 4, .mov (.c .nils), none, false⟩] [0, 1]) (.seq (.block 0 (.loop lp44_0)) (.seq (.reg [⟨some 13, .mov (.t 0), none, false⟩, ⟨some 14, .mov (.t 1), none, false⟩, ⟨some 15, .bin .quo (.t 14) (.c (.int .i64 64)), none, false⟩, ⟨some 16, .iaddr 1 (.t 13) (.t 15), none, false⟩, ⟨some 17, .load false 1 (.t 16), none, false⟩, ⟨some 18, .mov (.t 1), none, false⟩, ⟨some 19, .bin .rem (.t 18) (.c (.int .i64 64)), none, false⟩, ⟨some 20, .bin .shl (.c (.int .u64 1)) (.t 19), none, false⟩, ⟨some 21, .bin .or (.t 17) (.t 20), none, false⟩, ⟨some 22, .iaddr 1 (.t 13) (.t 15), none, false⟩, ⟨none, .store 1 (.t 22) (.t 21), none, false⟩] [0]) (.seq (.reg [⟨some 23, .mov (.t 0), none, false⟩, ⟨some 4, .mov (.t 23), none, false⟩] [4]) .ret)))
def x44 : XF := ⟨2, b44, [.t 4]⟩
def h44 : Yv := fun id => match id with
  | 0 => [0, 1]
  | 1 => [0, 1, 9]
  | 2 => [0, 1]
  | 3 => [0]
  | 4 => [4]
  | _ => []
theorem cv44 : cvF Tryd.prog h44 Tryd.f44 = some x44 := by kernel_rfl

/-- winnower/winnowerlaw10.n -/
def b57 : XC := .seq (.reg [⟨some 2, .alloc 23 [.int .i64 0, .int .i64 0, .str ⟨#[]⟩, .bool false], none, false⟩] [0, 2]) (.seq (.reg [⟨some 3, .mov (.t 0), none, false⟩, ⟨some 4, .build [.int .i64 0, .int .i64 0, .str ⟨#[]⟩, .bool false] [(0, (1, .c (.int .i64 1))), (1, (1, .t 3))], none, false⟩, ⟨none, .store 4 (.t 2) (.t 4), none, false⟩] [2]) .ret)
def x57 : XF := ⟨1, b57, [.cell 2 true 4]⟩
def h57 : Yv := fun id => match id with
  | 0 => [0, 2]
  | 1 => [2]
  | _ => []
theorem cv57 : cvF Tryd.prog h57 Tryd.f57 = some x57 := by kernel_rfl

/-- winnower/dict.New -/
def b58 : XC := .seq (.reg [⟨some 2, .mov (.c .nilp), none, false⟩] [0]) (.seq (.reg [⟨some 3, .mov (.t 0), none, false⟩, ⟨some 4, .mmx true [.t 3, .c (.int .i64 0)], none, false⟩, ⟨some 5, .mmx false [.t 4, .c (.int .i64 4096)], none, false⟩, ⟨some 6, .mkmap none, none, false⟩, ⟨some 7, .build [.int .i64 0, .nils, .nilm] [(0, (1, .t 5)), (2, (1, .t 6))], none, false⟩, ⟨some 8, .box 127 (.t 7), none, false⟩, ⟨some 2, .mov (.t 8), none, false⟩] [2]) .ret)
def x58 : XF := ⟨1, b58, [.t 2]⟩
def h58 : Yv := fun id => match id with
  | 0 => [0]
  | 1 => [2]
  | _ => []
theorem cv58 : cvF Tryd.prog h58 Tryd.f58 = some x58 := by kernel_rfl

/-- (*winnower/dict.Dict).Add -/
def b59 : XC := .seq (.reg [⟨some 3, .box 23 (.t 1), none, false⟩, ⟨some 4, .mov (.c (.int .i64 0)), none, false⟩, ⟨some 5, .mov (.c (.int .i64 0)), none, false⟩] [0, 3]) (.seq (.seq (.reg [⟨some 8, .load true 4 (.t 3), none, false⟩, ⟨some 9, .call (.c (.func 89 [] [])) [.t 8], none, false⟩, ⟨some 10, .un .not (.t 9), none, false⟩] [0, 3, 10]) (.cond (.t 10) (.seq (.reg [⟨some 4, .mov (.c (.int .i64 0)), none, false⟩, ⟨some 5, .mov (.c (.int .i64 1)), none, false⟩] [4, 5]) .ret) .skip)) (.seq (.seq (.reg [⟨some 12, .mov (.t 0), none, false⟩, ⟨some 13, .load true 4 (.t 3), none, false⟩, ⟨some 14, .call (.c (.func 94 [] [])) [.t 12, .t 13], none, false⟩, ⟨some 11, .mov (.t 14), none, false⟩, ⟨some 15, .ext (.t 11) 0, none, false⟩, ⟨some 16, .ext (.t 11) 1, none, false⟩, ⟨some 6, .mov (.t 15), none, false⟩, ⟨some 7, .mov (.t 16), none, false⟩] [0, 3, 6, 7]) (.seq (.reg [⟨some 17, .mov (.t 7), none, false⟩] [0, 3, 6, 17]) (.cond (.t 17) (.seq (.reg [⟨some 18, .mov (.t 6), none, false⟩, ⟨some 4, .mov (.t 18), none, false⟩, ⟨some 5, .mov (.c (.int .i64 0)), none, false⟩] [4, 5]) .ret) .skip))) (.seq (.seq (.reg [⟨some 19, .mov (.t 0), none, false⟩, ⟨some 20, .Yl 1 false (.t 19) (.c .nilp), none, false⟩, ⟨some 21, .mov (.t 20), none, false⟩, ⟨some 22, .mov (.t 0), some (21, false), false⟩, ⟨some 23, .nilck (.t 22), some (21, false), false⟩, ⟨some 24, .faddr 1 (.t 23), some (21, false), false⟩, ⟨some 25, .load false 1 (.t 24), some (21, false), false⟩, ⟨some 26, .len 4 (.t 25), some (21, false), false⟩, ⟨some 27, .mov (.t 0), some (21, false), false⟩, ⟨some 28, .nilck (.t 27), some (21, false), false⟩, ⟨some 29, .faddr 0 (.t 28), some (21, false), false⟩, ⟨some 30, .load false 1 (.t 29), some (21, false), false⟩, ⟨some 31, .bin .geq (.t 26) (.t 30), some (21, false), false⟩, ⟨some 32, .pick (.t 21) (.c (.bool true)) (.t 31), none, false⟩] [0, 3, 32]) (.cond (.t 32) (.seq (.reg [⟨some 4, .mov (.c (.int .i64 0)), none, false⟩, ⟨some 5, .mov (.c (.int .i64 4)), none, false⟩] [4, 5]) .ret) .skip)) (.seq (.reg [⟨some 33, .mov (.t 0), none, false⟩, ⟨some 34, .nilck (.t 33), none, false⟩, ⟨some 35, .faddr 2 (.t 34), none, false⟩, ⟨some 36, .load false 1 (.t 35), none, false⟩, ⟨some 37, .load true 4 (.t 3), none, false⟩, ⟨some 38, .mov (.t 0), none, false⟩, ⟨some 39, .nilck (.t 38), none, false⟩, ⟨some 40, .faddr 1 (.t 39), none, false⟩, ⟨some 41, .load false 1 (.t 40), none, false⟩, ⟨some 42, .len 4 (.t 41), none, false⟩, ⟨none, .mset true [1, 1, 2, 0] (.t 36) (.t 37) (.t 42), none, false⟩] [0, 3]) (.seq (.reg [⟨some 43, .mov (.t 0), none, false⟩, ⟨some 44, .mov (.t 0), none, false⟩, ⟨some 45, .nilck (.t 44), none, false⟩, ⟨some 46, .faddr 1 (.t 45), none, false⟩, ⟨some 47, .load false 1 (.t 46), none, false⟩, ⟨some 48, .load true 4 (.t 3), none, false⟩, ⟨some 49, .mkslice true 23 4 [.t 48], none, true⟩, ⟨some 50, .app 23 4 40 (.t 47) (.t 49), none, false⟩, ⟨some 51, .nilck (.t 43), none, false⟩, ⟨some 52, .faddr 1 (.t 51), none, false⟩, ⟨none, .store 1 (.t 52) (.t 50), none, false⟩] [0]) (.seq (.reg [⟨some 53, .mov (.t 0), none, false⟩, ⟨some 54, .nilck (.t 53), none, false⟩, ⟨some 55, .faddr 1 (.t 54), none, false⟩, ⟨some 56, .load false 1 (.t 55), none, false⟩, ⟨some 57, .len 4 (.t 56), none, false⟩, ⟨some 58, .bin .sub (.t 57) (.c (.int .i64 1)), none, false⟩, ⟨some 4, .mov (.t 58), none, false⟩, ⟨some 5, .mov (.c (.int .i64 0)), none, false⟩] [4, 5]) .ret))))))
def x59 : XF := ⟨2, b59, [.t 4, .t 5]⟩
def h59 : Yv := fun id => match id with
  | 0 => [0, 3]
  | 1 => [0, 3, 10]
  | 2 => [4, 5]
  | 3 => [0, 3, 6, 7]
  | 4 => [0, 3, 6, 17]
  | 5 => [4, 5]
  | 6 => [0, 3, 32]
  | 7 => [4, 5]
  | 8 => [0, 3]
  | 9 => [0]
  | 10 => [4, 5]
  | _ => []
theorem cv59 : cvF Tryd.prog h59 Tryd.f59 = some x59 := by kernel_rfl

/-- (*winnower/dict.Dict).Sorted -/
def lp60_0 : XC := .seq (.reg [⟨some 26, .bin .lss (.t 25) (.t 24), none, false⟩] [4, 5, 23, 24, 25, 26]) (.seq (.cond (.t 26) .skip (.exit 0)) (.seq (.block 1 (.seq (.reg [⟨some 27, .iaddr 4 (.t 23) (.t 25), none, false⟩, ⟨some 28, .load true 4 (.t 27), none, false⟩, ⟨some 7, .alloc 23 [.int .i64 0, .int .i64 0, .str ⟨#[]⟩, .bool false], none, false⟩, ⟨none, .store 4 (.t 7) (.t 28), none, false⟩] [4, 5, 7, 23, 24, 25]) (.seq (.reg [⟨some 30, .mov (.t 4), none, false⟩, ⟨some 31, .load true 4 (.t 7), none, false⟩, ⟨some 32, .call (.c (.func 99 [] [])) [.t 30, .t 31], none, false⟩, ⟨some 29, .mov (.t 32), none, false⟩, ⟨some 33, .ext (.t 29) 0, none, false⟩, ⟨some 34, .ext (.t 29) 1, none, false⟩, ⟨some 8, .mov (.t 33), none, false⟩, ⟨some 9, .mov (.t 34), none, false⟩] [4, 5, 8, 23, 24, 25]) (.reg [⟨some 35, .mov (.t 5), none, false⟩, ⟨some 36, .mov (.t 8), none, false⟩, ⟨some 37, .mkslice true 3 1 [.t 36], none, false⟩, ⟨some 38, .app 3 1 8 (.t 35) (.t 37), none, false⟩, ⟨some 5, .mov (.t 38), none, false⟩] [4, 5, 23, 24, 25])))) (.reg [⟨some 39, .bin .add (.t 25) (.c (.int .i64 1)), none, false⟩, ⟨some 25, .mov (.t 39), none, false⟩] [4, 5, 23, 24, 25])))
def b60 : XC := .seq (.reg [⟨some 2, .mov (.c .nils), none, false⟩, ⟨some 3, .mov (.c .nils), none, false⟩] [0]) (.seq (.seq (.reg [⟨some 10, .mov (.t 0), none, false⟩, ⟨some 11, .call (.c (.func 95 [] [])) [.t 10], none, false⟩, ⟨some 12, .bin .eql (.t 11) (.c (.int .i64 0)), none, false⟩] [0, 12]) (.cond (.t 12) (.seq (.reg [⟨some 2, .mov (.c .nils), none, false⟩, ⟨some 3, .mov (.c .nils), none, false⟩] [2, 3]) .ret) .skip)) (.seq (.reg [⟨some 13, .mov (.t 0), none, false⟩, ⟨some 14, .nilck (.t 13), none, false⟩, ⟨some 15, .faddr 1 (.t 14), none, false⟩, ⟨some 16, .load false 1 (.t 15), none, false⟩, ⟨some 17, .call (.c (.func 96 [] [])) [.t 16], none, false⟩, ⟨some 4, .mov (.t 17), none, false⟩] [0, 4]) (.seq (.reg [⟨some 18, .mov (.t 4), none, false⟩, ⟨some 19, .call (.c (.func 97 [] [])) [.t 18, .c (.func 98 [] [])], none, false⟩] [0, 4]) (.seq (.reg [⟨some 5, .mov (.c .nils), none, false⟩] [0, 4, 5]) (.seq (.seq (.reg [⟨some 20, .mov (.t 0), none, false⟩, ⟨some 21, .nilck (.t 20), none, false⟩, ⟨some 22, .faddr 1 (.t 21), none, false⟩, ⟨some 23, .load false 1 (.t 22), none, false⟩, ⟨some 24, .len 4 (.t 23), none, false⟩, ⟨some 25, .mov (.c (.int .i64 0)), none, false⟩] [4, 5, 23, 24, 25]) (.block 0 (.loop lp60_0))) (.seq (.reg [⟨some 40, .mov (.t 4), none, false⟩, ⟨some 41, .mov (.t 5), none, false⟩, ⟨some 2, .mov (.t 40), none, false⟩, ⟨some 3, .mov (.t 41), none, false⟩] [2, 3]) .ret))))))
def x60 : XF := ⟨1, b60, [.t 2, .t 3]⟩
def h60 : Yv := fun id => match id with
  | 0 => [0]
  | 1 => [0, 12]
  | 2 => [2, 3]
  | 3 => [0, 4]
  | 4 => [0, 4]
  | 5 => [0, 4, 5]
  | 6 => [4, 5, 23, 24, 25]
  | 7 => [4, 5, 23, 24, 25, 26]
  | 8 => [4, 5, 7, 23, 24, 25]
  | 9 => [4, 5, 8, 23, 24, 25]
  | 10 => [4, 5, 23, 24, 25]
  | 11 => [4, 5, 23, 24, 25]
  | 12 => [2, 3]
  | _ => []
theorem cv60 : cvF Tryd.prog h60 Tryd.f60 = some x60 := by kernel_rfl

/-- winnower/bits.Pack -/
def lp61_0 : XC := .seq (.reg [⟨some 25, .bin .lss (.t 24) (.t 23), none, false⟩] [1, 6, 22, 23, 24, 25]) (.seq (.cond (.t 25) .skip (.exit 1)) (.seq (.block 2 (.seq (.reg [⟨some 26, .mov (.t 24), none, false⟩, ⟨some 27, .iaddr 1 (.t 22) (.t 24), none, false⟩, ⟨some 28, .load false 1 (.t 27), none, false⟩, ⟨some 8, .alloc 3 [.int .i64 0], none, false⟩, ⟨some 7, .mov (.t 26), none, false⟩, ⟨none, .store 1 (.t 8) (.t 28), none, false⟩] [1, 6, 7, 8, 22, 23, 24]) (.seq (.seq (.reg [⟨some 29, .load false 1 (.t 8), none, false⟩, ⟨some 30, .bin .lss (.t 29) (.c (.int .i64 0)), none, false⟩, ⟨some 31, .mov (.t 30), none, false⟩, ⟨some 32, .load false 1 (.t 8), some (31, false), false⟩, ⟨some 33, .call (.c (.func 102 [] [])) [.t 32], some (31, false), false⟩, ⟨some 34, .mov (.t 1), some (31, false), false⟩, ⟨some 35, .bin .gtr (.t 33) (.t 34), some (31, false), false⟩, ⟨some 36, .pick (.t 31) (.c (.bool true)) (.t 35), none, false⟩] [1, 6, 7, 8, 22, 23, 24, 36]) (.cond (.t 36) (.seq (.reg [⟨some 4, .mov (.c .nils), none, false⟩, ⟨some 5, .mov (.c (.int .i64 1)), none, false⟩] [4, 5]) .ret) .skip)) (.reg [⟨some 37, .mov (.t 7), none, false⟩, ⟨some 38, .mov (.t 1), none, false⟩, ⟨some 39, .mkfn 104 [] [.t 6, .t 8], none, false⟩, ⟨some 40, .call (.c (.func 103 [] [])) [.t 37, .t 38, .t 39], none, false⟩] [1, 6, 22, 23, 24])))) (.reg [⟨some 41, .bin .add (.t 24) (.c (.int .i64 1)), none, false⟩, ⟨some 24, .mov (.t 41), none, false⟩] [1, 6, 22, 23, 24])))
def b61 : XC := .seq (.reg [⟨some 4, .mov (.c .nils), none, false⟩, ⟨some 5, .mov (.c (.int .i64 0)), none, false⟩] [0, 1]) (.seq (.block 0 (.seq (.reg [⟨some 10, .mov (.t 1), none, false⟩, ⟨some 11, .call (.c (.func 100 [] [])) [.t 10], none, false⟩, ⟨some 12, .un .not (.t 11), none, false⟩, ⟨some 9, .mov (.t 12), none, false⟩] [0, 1, 9]) (.cond (.t 9) (.seq (.reg [⟨some 4, .mov (.c .nils), none, false⟩, ⟨some 5, .mov (.c (.int .i64 1)), none, false⟩] [4, 5]) .ret) (.seq (.reg [⟨some 14, .mov (.t 0), none, false⟩, ⟨some 15, .len 1 (.t 14), none, false⟩, ⟨some 16, .bin .gtr (.t 15) (.c (.int .i64 4096)), none, false⟩, ⟨some 13, .mov (.t 16), none, false⟩] [0, 1, 13]) (.cond (.t 13) (.seq (.reg [⟨some 4, .mov (.c .nils), none, false⟩, ⟨some 5, .mov (.c (.int .i64 2)), none, false⟩] [4, 5]) .ret) .skip))))) (.seq (.reg [⟨some 17, .mov (.t 0), none, false⟩, ⟨some 18, .len 1 (.t 17), none, false⟩, ⟨some 19, .mov (.t 1), none, false⟩, ⟨some 20, .call (.c (.func 101 [] [])) [.t 18, .t 19], none, false⟩, ⟨some 21, .make 5 1 1 (.int .u8 0) (.t 20) (.t 20), none, false⟩, ⟨some 6, .alloc 51 [.nils], none, false⟩, ⟨none, .store 1 (.t 6) (.t 21), none, false⟩] [0, 1, 6]) (.seq (.seq (.reg [⟨some 22, .mov (.t 0), none, false⟩, ⟨some 23, .len 1 (.t 22), none, false⟩, ⟨some 24, .mov (.c (.int .i64 0)), none, false⟩] [1, 6, 22, 23, 24]) (.block 1 (.loop lp61_0))) (.seq (.reg [⟨some 42, .load false 1 (.t 6), none, false⟩, ⟨some 4, .mov (.t 42), none, false⟩, ⟨some 5, .mov (.c (.int .i64 0)), none, false⟩] [4, 5]) .ret))))
def x61 : XF := ⟨2, b61, [.t 4, .t 5]⟩
def h61 : Yv := fun id => match id with
  | 0 => [0, 1]
  | 1 => [0, 1, 9]
  | 2 => [4, 5]
  | 3 => [0, 1, 13]
  | 4 => [4, 5]
  | 5 => [0, 1, 6]
  | 6 => [1, 6, 22, 23, 24]
  | 7 => [1, 6, 22, 23, 24, 25]
  | 8 => [1, 6, 7, 8, 22, 23, 24]
  | 9 => [1, 6, 7, 8, 22, 23, 24, 36]
  | 10 => [4, 5]
  | 11 => [1, 6, 22, 23, 24]
  | 12 => [1, 6, 22, 23, 24]
  | 13 => [4, 5]
  | _ => []
theorem cv61 : cvF Tryd.prog h61 Tryd.f61 = some x61 := by kernel_rfl

/-- winnower/column.width -/
def b62 : XC := .seq (.reg [⟨some 2, .mov (.c (.int .i64 0)), none, false⟩] [0]) (.seq (.reg [⟨some 3, .mov (.t 0), none, false⟩, ⟨some 4, .bin .sub (.t 3) (.c (.int .i64 1)), none, false⟩, ⟨some 5, .call (.c (.func 102 [] [])) [.t 4], none, false⟩, ⟨some 2, .mov (.t 5), none, false⟩] [2]) .ret)
def x62 : XF := ⟨1, b62, [.t 2]⟩
def h62 : Yv := fun id => match id with
  | 0 => [0]
  | 1 => [2]
  | _ => []
theorem cv62 : cvF Tryd.prog h62 Tryd.f62 = some x62 := by kernel_rfl

/-- winnower/winnowerref06.text -/
def lp68_0 : XC := .seq (.seq (.reg [⟨some 6, .mov (.t 5), none, false⟩, ⟨some 7, .mov (.t 0), none, false⟩, ⟨some 8, .lens (.t 7), none, false⟩, ⟨some 9, .bin .lss (.t 6) (.t 8), none, false⟩, ⟨some 10, .mov (.t 9), none, false⟩, ⟨some 11, .mov (.t 5), some (10, true), false⟩, ⟨some 12, .mov (.t 1), some (10, true), false⟩, ⟨some 13, .lens (.t 12), some (10, true), false⟩, ⟨some 14, .bin .lss (.t 11) (.t 13), some (10, true), false⟩, ⟨some 15, .pick (.t 10) (.t 14) (.c (.bool false)), none, false⟩] [0, 1, 5, 15]) (.cond (.t 15) .skip (.exit 0))) (.seq (.block 1 (.seq (.seq (.reg [⟨some 18, .mov (.t 0), none, false⟩, ⟨some 19, .mov (.t 5), none, false⟩, ⟨some 20, .idxs (.t 18) (.t 19), none, false⟩, ⟨some 21, .mov (.t 1), none, false⟩, ⟨some 22, .mov (.t 5), none, false⟩, ⟨some 23, .idxs (.t 21) (.t 22), none, false⟩, ⟨some 24, .bin .lss (.t 20) (.t 23), none, false⟩] [0, 1, 5, 24]) (.cond (.t 24) (.seq (.reg [⟨some 4, .mov (.c (.int .i64 (-1))), none, false⟩] [4]) .ret) .skip)) (.seq (.reg [⟨some 25, .mov (.t 0), none, false⟩, ⟨some 26, .mov (.t 5), none, false⟩, ⟨some 27, .idxs (.t 25) (.t 26), none, false⟩, ⟨some 28, .mov (.t 1), none, false⟩, ⟨some 29, .mov (.t 5), none, false⟩, ⟨some 30, .idxs (.t 28) (.t 29), none, false⟩, ⟨some 31, .bin .gtr (.t 27) (.t 30), none, false⟩] [0, 1, 5, 31]) (.cond (.t 31) (.seq (.reg [⟨some 4, .mov (.c (.int .i64 1)), none, false⟩] [4]) .ret) .skip)))) (.reg [⟨some 16, .mov (.t 5), none, false⟩, ⟨some 17, .bin .add (.t 16) (.c (.int .i64 1)), none, false⟩, ⟨some 5, .mov (.t 17), none, false⟩] [0, 1, 5]))
def b68 : XC := .seq (.reg [⟨some 4, .mov (.c (.int .i64 0)), none, false⟩] [0, 1]) (.seq (.seq (.reg [⟨some 5, .mov (.c (.int .i64 0)), none, false⟩] [0, 1, 5]) (.block 0 (.loop lp68_0))) (.seq (.seq (.reg [⟨some 32, .mov (.t 0), none, false⟩, ⟨some 33, .lens (.t 32), none, false⟩, ⟨some 34, .mov (.t 1), none, false⟩, ⟨some 35, .lens (.t 34), none, false⟩, ⟨some 36, .bin .lss (.t 33) (.t 35), none, false⟩] [0, 1, 36]) (.cond (.t 36) (.seq (.reg [⟨some 4, .mov (.c (.int .i64 (-1))), none, false⟩] [4]) .ret) .skip)) (.seq (.seq (.reg [⟨some 37, .mov (.t 0), none, false⟩, ⟨some 38, .lens (.t 37), none, false⟩, ⟨some 39, .mov (.t 1), none, false⟩, ⟨some 40, .lens (.t 39), none, false⟩, ⟨some 41, .bin .gtr (.t 38) (.t 40), none, false⟩] [41]) (.cond (.t 41) (.seq (.reg [⟨some 4, .mov (.c (.int .i64 1)), none, false⟩] [4]) .ret) .skip)) (.seq (.reg [⟨some 4, .mov (.c (.int .i64 0)), none, false⟩] [4]) .ret))))
def x68 : XF := ⟨2, b68, [.t 4]⟩
def h68 : Yv := fun id => match id with
  | 0 => [0, 1]
  | 1 => [0, 1, 5]
  | 2 => [0, 1, 5, 15]
  | 3 => [0, 1, 5]
  | 4 => [0, 1, 5, 24]
  | 5 => [4]
  | 6 => [0, 1, 5, 31]
  | 7 => [4]
  | 8 => [0, 1, 36]
  | 9 => [4]
  | 10 => [41]
  | 11 => [4]
  | 12 => [4]
  | _ => []
theorem cv68 : cvF Tryd.prog h68 Tryd.f68 = some x68 := by kernel_rfl

/-- winnower/column.rows -/
def lp69_0 : XC := .seq (.reg [⟨some 18, .bin .lss (.t 17) (.t 16), none, false⟩] [1, 4, 6, 7, 15, 16, 17, 18]) (.seq (.cond (.t 18) .skip (.exit 0)) (.seq (.block 1 (.seq (.reg [⟨some 19, .mov (.t 17), none, false⟩, ⟨some 20, .iaddr 1 (.t 15) (.t 17), none, false⟩, ⟨some 21, .load false 1 (.t 20), none, false⟩, ⟨some 8, .mov (.t 19), none, false⟩, ⟨some 9, .mov (.t 21), none, false⟩] [1, 4, 6, 7, 8, 9, 15, 16, 17]) (.seq (.reg [⟨some 22, .mov (.t 6), none, false⟩, ⟨some 23, .mov (.t 22), none, false⟩, ⟨some 24, .mov (.t 1), some (23, true), false⟩, ⟨some 25, .mov (.t 9), some (23, true), false⟩, ⟨some 26, .call (.t 24) [.t 25], some (23, true), false⟩, ⟨some 27, .pick (.t 23) (.t 26) (.c (.bool false)), none, false⟩] [1, 4, 6, 7, 8, 15, 16, 17, 27]) (.cond (.t 27) (.reg [⟨some 28, .mov (.t 7), none, false⟩, ⟨some 29, .mov (.t 8), none, false⟩, ⟨some 30, .mkslice true 3 1 [.t 29], none, false⟩, ⟨some 31, .app 3 1 8 (.t 28) (.t 30), none, false⟩, ⟨some 7, .mov (.t 31), none, false⟩] [1, 4, 6, 7, 15, 16, 17]) .skip)))) (.reg [⟨some 32, .bin .add (.t 17) (.c (.int .i64 1)), none, false⟩, ⟨some 17, .mov (.t 32), none, false⟩] [1, 4, 6, 7, 15, 16, 17])))
def b69 : XC := .seq (.reg [⟨some 2, .box 53 (.t 0), none, false⟩, ⟨some 4, .alloc 30 [.nils], none, false⟩] [1, 2, 4]) (.seq (.reg [⟨some 11, .load true 3 (.t 2), none, false⟩, ⟨some 12, .call (.c (.func 74 [] [])) [.t 11], none, false⟩, ⟨some 10, .mov (.t 12), none, false⟩, ⟨some 13, .ext (.t 10) 0, none, false⟩, ⟨some 14, .ext (.t 10) 1, none, false⟩, ⟨some 5, .mov (.t 13), none, false⟩, ⟨some 6, .mov (.t 14), none, false⟩] [1, 4, 5, 6]) (.seq (.reg [⟨some 7, .mov (.c .nils), none, false⟩] [1, 4, 5, 6, 7]) (.seq (.seq (.reg [⟨some 15, .mov (.t 5), none, false⟩, ⟨some 16, .len 1 (.t 15), none, false⟩, ⟨some 17, .mov (.c (.int .i64 0)), none, false⟩] [1, 4, 6, 7, 15, 16, 17]) (.block 0 (.loop lp69_0))) (.seq (.reg [⟨some 33, .mov (.t 7), none, false⟩, ⟨some 34, .call (.c (.func 11 [] [])) [.t 33], none, false⟩, ⟨none, .store 1 (.t 4) (.t 34), none, false⟩] [4]) .ret))))
def x69 : XF := ⟨2, b69, [.cell 4 true 1]⟩
def h69 : Yv := fun id => match id with
  | 0 => [1, 2, 4]
  | 1 => [1, 4, 5, 6]
  | 2 => [1, 4, 5, 6, 7]
  | 3 => [1, 4, 6, 7, 15, 16, 17]
  | 4 => [1, 4, 6, 7, 15, 16, 17, 18]
  | 5 => [1, 4, 6, 7, 8, 9, 15, 16, 17]
  | 6 => [1, 4, 6, 7, 8, 15, 16, 17, 27]
  | 7 => [1, 4, 6, 7, 15, 16, 17]
  | 8 => [1, 4, 6, 7, 15, 16, 17]
  | 9 => [4]
  | _ => []
theorem cv69 : cvF Tryd.prog h69 Tryd.f69 = some x69 := by kernel_rfl

/-- winnower/column.Range$1 -/
def b70 : XC := .seq (.reg [⟨some 4, .mov (.c (.bool false)), none, false⟩] [0, 1, 2]) (.seq (.reg [⟨some 5, .mov (.t 0), none, false⟩, ⟨some 6, .load false 1 (.t 1), none, false⟩, ⟨some 7, .bin .geq (.t 5) (.t 6), none, false⟩, ⟨some 8, .mov (.t 7), none, false⟩, ⟨some 9, .mov (.t 0), some (8, true), false⟩, ⟨some 10, .load false 1 (.t 2), some (8, true), false⟩, ⟨some 11, .bin .lss (.t 9) (.t 10), some (8, true), false⟩, ⟨some 12, .pick (.t 8) (.t 11) (.c (.bool false)), none, false⟩, ⟨some 4, .mov (.t 12), none, false⟩] [4]) .ret)
def x70 : XF := ⟨3, b70, [.t 4]⟩
def h70 : Yv := fun id => match id with
  | 0 => [0, 1, 2]
  | 1 => [4]
  | _ => []
theorem cv70 : cvF Tryd.prog h70 Tryd.f70 = some x70 := by kernel_rfl

/-- winnower/column.ids -/
def lp74_0 : XC := .seq (.reg [⟨some 39, .bin .lss (.t 38) (.t 37), none, false⟩] [1, 4, 5, 6, 36, 37, 38, 39]) (.seq (.cond (.t 39) .skip (.exit 0)) (.seq (.block 1 (.seq (.reg [⟨some 40, .iaddr 1 (.t 36) (.t 38), none, false⟩, ⟨some 41, .load false 1 (.t 40), none, false⟩, ⟨some 8, .mov (.t 41), none, false⟩] [1, 4, 5, 6, 8, 36, 37, 38]) (.seq (.seq (.reg [⟨some 42, .mov (.t 8), none, false⟩, ⟨some 43, .faddr 1 (.t 1), none, false⟩, ⟨some 44, .load false 1 (.t 43), none, false⟩, ⟨some 45, .len 4 (.t 44), none, false⟩, ⟨some 46, .bin .geq (.t 42) (.t 45), none, false⟩] [1, 4, 5, 6, 8, 36, 37, 38, 46]) (.cond (.t 46) (.seq (.reg [⟨some 2, .mov (.c .nils), none, false⟩, ⟨some 3, .mov (.c (.bool false)), none, false⟩] [2, 3]) .ret) .skip)) (.reg [⟨some 47, .mov (.t 6), none, false⟩, ⟨some 48, .mov (.t 8), none, false⟩, ⟨none, .mset false [1] (.t 47) (.t 48) (.c (.bool true)), none, false⟩] [1, 4, 5, 6, 36, 37, 38])))) (.reg [⟨some 49, .bin .add (.t 38) (.c (.int .i64 1)), none, false⟩, ⟨some 38, .mov (.t 49), none, false⟩] [1, 4, 5, 6, 36, 37, 38])))
def b74 : XC := .seq (.reg [⟨some 1, .box 53 (.t 0), none, false⟩, ⟨some 2, .mov (.c .nils), none, false⟩, ⟨some 3, .mov (.c (.bool false)), none, false⟩] [1]) (.seq (.seq (.reg [⟨some 9, .faddr 0 (.t 1), none, false⟩, ⟨some 10, .load false 1 (.t 9), none, false⟩, ⟨some 11, .bin .lss (.t 10) (.c (.int .i64 0)), none, false⟩, ⟨some 12, .mov (.t 11), none, false⟩, ⟨some 13, .faddr 0 (.t 1), some (12, false), false⟩, ⟨some 14, .load false 1 (.t 13), some (12, false), false⟩, ⟨some 15, .bin .gtr (.t 14) (.c (.int .i64 4096)), some (12, false), false⟩, ⟨some 16, .pick (.t 12) (.c (.bool true)) (.t 15), none, false⟩, ⟨some 17, .mov (.t 16), none, false⟩, ⟨some 18, .faddr 1 (.t 1), some (17, false), false⟩, ⟨some 19, .load false 1 (.t 18), some (17, false), false⟩, ⟨some 20, .call (.c (.func 111 [] [])) [.t 19], some (17, false), false⟩, ⟨some 21, .un .not (.t 20), some (17, false), false⟩, ⟨some 22, .pick (.t 17) (.c (.bool true)) (.t 21), none, false⟩] [1, 22]) (.cond (.t 22) (.seq (.reg [⟨some 2, .mov (.c .nils), none, false⟩, ⟨some 3, .mov (.c (.bool false)), none, false⟩] [2, 3]) .ret) .skip)) (.seq (.reg [⟨some 24, .faddr 2 (.t 1), none, false⟩, ⟨some 25, .load false 1 (.t 24), none, false⟩, ⟨some 26, .faddr 0 (.t 1), none, false⟩, ⟨some 27, .load false 1 (.t 26), none, false⟩, ⟨some 28, .faddr 1 (.t 1), none, false⟩, ⟨some 29, .load false 1 (.t 28), none, false⟩, ⟨some 30, .len 4 (.t 29), none, false⟩, ⟨some 31, .call (.c (.func 62 [] [])) [.t 30], none, true⟩, ⟨some 32, .call (.c (.func 112 [] [])) [.t 25, .t 27, .t 31], none, false⟩, ⟨some 23, .mov (.t 32), none, false⟩, ⟨some 33, .ext (.t 23) 0, none, false⟩, ⟨some 34, .ext (.t 23) 1, none, false⟩, ⟨some 4, .mov (.t 33), none, false⟩, ⟨some 5, .mov (.t 34), none, false⟩] [1, 4, 5]) (.seq (.reg [⟨some 35, .mkmap none, none, false⟩, ⟨some 6, .mov (.t 35), none, false⟩] [1, 4, 5, 6]) (.seq (.seq (.reg [⟨some 36, .mov (.t 4), none, false⟩, ⟨some 37, .len 1 (.t 36), none, false⟩, ⟨some 38, .mov (.c (.int .i64 0)), none, false⟩] [1, 4, 5, 6, 36, 37, 38]) (.block 0 (.loop lp74_0))) (.seq (.reg [⟨some 50, .mov (.t 4), none, false⟩, ⟨some 51, .mov (.t 5), none, false⟩, ⟨some 52, .bin .eql (.t 51) (.c (.int .i64 0)), none, false⟩, ⟨some 53, .mov (.t 52), none, false⟩, ⟨some 54, .mov (.t 6), some (53, true), false⟩, ⟨some 55, .mlen (.t 54), some (53, true), false⟩, ⟨some 56, .faddr 1 (.t 1), some (53, true), false⟩, ⟨some 57, .load false 1 (.t 56), some (53, true), false⟩, ⟨some 58, .len 4 (.t 57), some (53, true), false⟩, ⟨some 59, .bin .eql (.t 55) (.t 58), some (53, true), false⟩, ⟨some 60, .pick (.t 53) (.t 59) (.c (.bool false)), none, false⟩, ⟨some 2, .mov (.t 50), none, false⟩, ⟨some 3, .mov (.t 60), none, false⟩] [2, 3]) .ret)))))
def x74 : XF := ⟨1, b74, [.t 2, .t 3]⟩
def h74 : Yv := fun id => match id with
  | 0 => [1]
  | 1 => [1, 22]
  | 2 => [2, 3]
  | 3 => [1, 4, 5]
  | 4 => [1, 4, 5, 6]
  | 5 => [1, 4, 5, 6, 36, 37, 38]
  | 6 => [1, 4, 5, 6, 36, 37, 38, 39]
  | 7 => [1, 4, 5, 6, 8, 36, 37, 38]
  | 8 => [1, 4, 5, 6, 8, 36, 37, 38, 46]
  | 9 => [2, 3]
  | 10 => [1, 4, 5, 6, 36, 37, 38]
  | 11 => [1, 4, 5, 6, 36, 37, 38]
  | 12 => [2, 3]
  | _ => []
theorem cv74 : cvF Tryd.prog h74 Tryd.f74 = some x74 := by kernel_rfl

/-- winnower/value.May -/
def b89 : XC := .seq (.reg [⟨some 1, .box 23 (.t 0), none, false⟩, ⟨some 2, .mov (.c (.bool false)), none, false⟩] [1]) (.seq (.reg [⟨some 4, .faddr 0 (.t 1), none, false⟩, ⟨some 5, .load false 1 (.t 4), none, false⟩, ⟨some 6, .build [.int .i64 0, .int .i64 0, .str ⟨#[]⟩, .bool false] [(0, (1, .t 5))], none, false⟩, ⟨some 3, .alloc 23 [.int .i64 0, .int .i64 0, .str ⟨#[]⟩, .bool false], none, false⟩, ⟨none, .store 4 (.t 3) (.t 6), none, false⟩] [1, 3]) (.seq (.seq (.reg [⟨some 7, .faddr 0 (.t 1), none, false⟩, ⟨some 8, .load false 1 (.t 7), none, false⟩] [1, 3, 8]) (.block 0 (.seq (.block 5 (.seq (.block 4 (.seq (.block 3 (.seq (.block 2 (.seq (.block 1 (.seq (.seq (.seq (.reg [⟨some 10, .bin .eql (.t 8) (.c (.int .i64 1)), none, false⟩, ⟨some 9, .mov (.t 10), none, false⟩] [1, 3, 8, 9]) (.cond (.t 9) (.exit 1) .skip)) (.seq (.seq (.reg [⟨some 12, .bin .eql (.t 8) (.c (.int .i64 2)), none, false⟩, ⟨some 11, .mov (.t 12), none, false⟩] [1, 3, 8, 11]) (.cond (.t 11) (.exit 2) .skip)) (.seq (.seq (.reg [⟨some 14, .bin .eql (.t 8) (.c (.int .i64 3)), none, false⟩, ⟨some 13, .mov (.t 14), none, false⟩] [1, 3, 8, 13]) (.cond (.t 13) (.exit 3) .skip)) (.seq (.reg [⟨some 16, .bin .eql (.t 8) (.c (.int .i64 0)), none, false⟩, ⟨some 15, .mov (.t 16), none, false⟩] [1, 3, 15]) (.cond (.t 15) (.exit 4) .skip))))) (.exit 5))) (.seq (.reg [⟨some 17, .faddr 1 (.t 1), none, false⟩, ⟨some 18, .load false 1 (.t 17), none, false⟩, ⟨some 19, .faddr 1 (.t 3), none, false⟩, ⟨none, .store 1 (.t 19) (.t 18), none, false⟩] [1, 3]) (.exit 0)))) (.seq (.seq (.reg [⟨some 20, .faddr 2 (.t 1), none, false⟩, ⟨some 21, .load false 1 (.t 20), none, false⟩, ⟨some 22, .faddr 2 (.t 3), none, false⟩, ⟨none, .store 1 (.t 22) (.t 21), none, false⟩] [1, 3]) (.seq (.reg [⟨some 23, .faddr 2 (.t 1), none, false⟩, ⟨some 24, .load false 1 (.t 23), none, false⟩, ⟨some 25, .lens (.t 24), none, false⟩, ⟨some 26, .bin .gtr (.t 25) (.c (.int .i64 64)), none, false⟩] [1, 3, 26]) (.cond (.t 26) (.seq (.reg [⟨some 2, .mov (.c (.bool false)), none, false⟩] [2]) .ret) .skip))) (.exit 0)))) (.reg [⟨some 27, .faddr 3 (.t 1), none, false⟩, ⟨some 28, .load false 1 (.t 27), none, false⟩, ⟨some 29, .faddr 3 (.t 3), none, false⟩, ⟨none, .store 1 (.t 29) (.t 28), none, false⟩] [1, 3]))) (.seq (.exit 0) (.exit 0)))) (.seq (.seq (.reg [⟨some 2, .mov (.c (.bool false)), none, false⟩] [2]) .ret) (.exit 0))))) (.seq (.reg [⟨some 30, .load true 4 (.t 1), none, false⟩, ⟨some 31, .load true 4 (.t 3), none, false⟩, ⟨some 32, .eqa [1, 1, 2, 0] false (.t 30) (.t 31), none, false⟩, ⟨some 2, .mov (.t 32), none, false⟩] [2]) .ret)))
def x89 : XF := ⟨1, b89, [.t 2]⟩
def h89 : Yv := fun id => match id with
  | 0 => [1]
  | 1 => [1, 3]
  | 2 => [1, 3, 8]
  | 3 => [1, 3, 8, 9]
  | 4 => [1, 3, 8, 11]
  | 5 => [1, 3, 8, 13]
  | 6 => [1, 3, 15]
  | 7 => [1, 3]
  | 8 => [1, 3]
  | 9 => [1, 3, 26]
  | 10 => [2]
  | 11 => [1, 3]
  | 12 => [2]
  | 13 => [2]
  | _ => []
theorem cv89 : cvF Tryd.prog h89 Tryd.f89 = some x89 := by kernel_rfl

/-- (*winnower/dict.Dict).Find -/
def b94 : XC := .seq (.reg [⟨some 3, .box 23 (.t 1), none, false⟩, ⟨some 4, .mov (.c (.int .i64 0)), none, false⟩, ⟨some 5, .mov (.c (.bool false)), none, false⟩] [0, 3]) (.seq (.seq (.reg [⟨some 8, .mov (.t 0), none, false⟩, ⟨some 9, .Yl 1 false (.t 8) (.c .nilp), none, false⟩] [0, 3, 9]) (.cond (.t 9) (.seq (.reg [⟨some 4, .mov (.c (.int .i64 0)), none, false⟩, ⟨some 5, .mov (.c (.bool false)), none, false⟩] [4, 5]) .ret) .skip)) (.seq (.reg [⟨some 11, .mov (.t 0), none, false⟩, ⟨some 12, .nilck (.t 11), none, false⟩, ⟨some 13, .faddr 2 (.t 12), none, false⟩, ⟨some 14, .load false 1 (.t 13), none, false⟩, ⟨some 15, .load true 4 (.t 3), none, false⟩, ⟨some 16, .mget true [1, 1, 2, 0] (.int .i64 0) true (.t 14) (.t 15), none, false⟩, ⟨some 10, .mov (.t 16), none, false⟩, ⟨some 17, .ext (.t 10) 0, none, false⟩, ⟨some 18, .ext (.t 10) 1, none, false⟩, ⟨some 6, .mov (.t 17), none, false⟩, ⟨some 7, .mov (.t 18), none, false⟩] [6, 7]) (.seq (.reg [⟨some 19, .mov (.t 6), none, false⟩, ⟨some 20, .mov (.t 7), none, false⟩, ⟨some 4, .mov (.t 19), none, false⟩, ⟨some 5, .mov (.t 20), none, false⟩] [4, 5]) .ret)))
def x94 : XF := ⟨2, b94, [.t 4, .t 5]⟩
def h94 : Yv := fun id => match id with
  | 0 => [0, 3]
  | 1 => [0, 3, 9]
  | 2 => [4, 5]
  | 3 => [6, 7]
  | 4 => [4, 5]
  | _ => []
theorem cv94 : cvF Tryd.prog h94 Tryd.f94 = some x94 := by kernel_rfl

/-- (*winnower/dict.Dict).Len -/
def b95 : XC := .seq (.reg [⟨some 2, .mov (.c (.int .i64 0)), none, false⟩] [0]) (.seq (.seq (.reg [⟨some 3, .mov (.t 0), none, false⟩, ⟨some 4, .Yl 1 false (.t 3) (.c .nilp), none, false⟩] [0, 4]) (.cond (.t 4) (.seq (.reg [⟨some 2, .mov (.c (.int .i64 0)), none, false⟩] [2]) .ret) .skip)) (.seq (.reg [⟨some 5, .mov (.t 0), none, false⟩, ⟨some 6, .nilck (.t 5), none, false⟩, ⟨some 7, .faddr 1 (.t 6), none, false⟩, ⟨some 8, .load false 1 (.t 7), none, false⟩, ⟨some 9, .len 4 (.t 8), none, false⟩, ⟨some 2, .mov (.t 9), none, false⟩] [2]) .ret))
def x95 : XF := ⟨1, b95, [.t 2]⟩
def h95 : Yv := fun id => match id with
  | 0 => [0]
  | 1 => [0, 4]
  | 2 => [2]
  | 3 => [2]
  | _ => []
theorem cv95 : cvF Tryd.prog h95 Tryd.f95 = some x95 := by kernel_rfl

/-- slices.Clone[[]winnower/api.Value,winnower/api.Value] -/
def b96 : XC := .seq (.reg [⟨some 2, .mov (.c .nils), none, false⟩] [0]) (.seq (.seq (.reg [⟨some 3, .mov (.t 0), none, false⟩, ⟨some 4, .Yl 2 false (.t 3) (.c .nils), none, false⟩] [0, 4]) (.cond (.t 4) (.seq (.reg [⟨some 2, .mov (.c .nils), none, false⟩] [2]) .ret) .skip)) (.seq (.reg [⟨some 5, .mkslice true 23 4 [], none, false⟩, ⟨some 6, .mov (.t 0), none, false⟩, ⟨some 7, .app 23 4 40 (.t 5) (.t 6), none, false⟩, ⟨some 2, .mov (.t 7), none, false⟩] [2]) .ret))
def x96 : XF := ⟨1, b96, [.t 2]⟩
def h96 : Yv := fun id => match id with
  | 0 => [0]
  | 1 => [0, 4]
  | 2 => [2]
  | 3 => [2]
  | _ => []
theorem cv96 : cvF Tryd.prog h96 Tryd.f96 = some x96 := by kernel_rfl

/-- slices.SortFunc[[]winnower/api.Value,winnower/api.Value] -/
def b97 : XC := .seq (.reg [⟨some 5, .mov (.t 0), none, false⟩, ⟨some 6, .len 4 (.t 5), none, false⟩, ⟨some 4, .mov (.t 6), none, false⟩] [0, 1, 4]) (.reg [⟨some 7, .mov (.t 0), none, false⟩, ⟨some 8, .mov (.t 4), none, false⟩, ⟨some 9, .mov (.t 4), none, false⟩, ⟨some 10, .toint .u64 (.t 9), none, false⟩, ⟨some 11, .call (.c (.func 123 [] [])) [.t 10], none, false⟩, ⟨some 12, .mov (.t 1), none, false⟩, ⟨some 13, .call (.c (.func 122 [] [])) [.t 7, .c (.int .i64 0), .t 8, .t 11, .t 12], none, false⟩] [])
def x97 : XF := ⟨2, b97, []⟩
def h97 : Yv := fun id => match id with
  | 0 => [0, 1, 4]
  | _ => []
theorem cv97 : cvF Tryd.prog h97 Tryd.f97 = some x97 := by kernel_rfl

/-- winnower/value.Order -/
def b98 : XC := .seq (.reg [⟨some 2, .box 23 (.t 0), none, false⟩, ⟨some 3, .box 23 (.t 1), none, false⟩, ⟨some 4, .mov (.c (.int .i64 0)), none, false⟩] [2, 3]) (.seq (.block 0 (.seq (.reg [⟨some 6, .faddr 0 (.t 2), none, false⟩, ⟨some 7, .load false 1 (.t 6), none, false⟩, ⟨some 8, .faddr 0 (.t 3), none, false⟩, ⟨some 9, .load false 1 (.t 8), none, false⟩, ⟨some 10, .bin .neq (.t 7) (.t 9), none, false⟩, ⟨some 5, .mov (.t 10), none, false⟩] [2, 3, 5]) (.cond (.t 5) (.seq (.reg [⟨some 11, .faddr 0 (.t 2), none, false⟩, ⟨some 12, .load false 1 (.t 11), none, false⟩, ⟨some 13, .faddr 0 (.t 3), none, false⟩, ⟨some 14, .load false 1 (.t 13), none, false⟩, ⟨some 15, .call (.c (.func 124 [] [])) [.t 12, .t 14], none, false⟩, ⟨some 4, .mov (.t 15), none, false⟩] [4]) .ret) (.seq (.reg [⟨some 17, .faddr 0 (.t 2), none, false⟩, ⟨some 18, .load false 1 (.t 17), none, false⟩, ⟨some 19, .bin .eql (.t 18) (.c (.int .i64 1)), none, false⟩, ⟨some 16, .mov (.t 19), none, false⟩] [2, 3, 16]) (.cond (.t 16) (.seq (.reg [⟨some 20, .faddr 1 (.t 2), none, false⟩, ⟨some 21, .load false 1 (.t 20), none, false⟩, ⟨some 22, .faddr 1 (.t 3), none, false⟩, ⟨some 23, .load false 1 (.t 22), none, false⟩, ⟨some 24, .call (.c (.func 124 [] [])) [.t 21, .t 23], none, false⟩, ⟨some 4, .mov (.t 24), none, false⟩] [4]) .ret) (.seq (.reg [⟨some 26, .faddr 0 (.t 2), none, false⟩, ⟨some 27, .load false 1 (.t 26), none, false⟩, ⟨some 28, .bin .eql (.t 27) (.c (.int .i64 2)), none, false⟩, ⟨some 25, .mov (.t 28), none, false⟩] [2, 3, 25]) (.cond (.t 25) (.seq (.reg [⟨some 29, .faddr 2 (.t 2), none, false⟩, ⟨some 30, .load false 1 (.t 29), none, false⟩, ⟨some 31, .faddr 2 (.t 3), none, false⟩, ⟨some 32, .load false 1 (.t 31), none, false⟩, ⟨some 33, .call (.c (.func 125 [] [])) [.t 30, .t 32], none, false⟩, ⟨some 4, .mov (.t 33), none, false⟩] [4]) .ret) (.seq (.reg [⟨some 35, .faddr 0 (.t 2), none, false⟩, ⟨some 36, .load false 1 (.t 35), none, false⟩, ⟨some 37, .bin .eql (.t 36) (.c (.int .i64 3)), none, false⟩, ⟨some 34, .mov (.t 37), none, false⟩] [2, 3, 34]) (.cond (.t 34) (.seq (.reg [⟨some 38, .faddr 3 (.t 2), none, false⟩, ⟨some 39, .load false 1 (.t 38), none, false⟩, ⟨some 40, .call (.c (.func 115 [] [])) [.t 39], none, true⟩, ⟨some 41, .faddr 3 (.t 3), none, false⟩, ⟨some 42, .load false 1 (.t 41), none, false⟩, ⟨some 43, .call (.c (.func 115 [] [])) [.t 42], none, false⟩, ⟨some 44, .call (.c (.func 124 [] [])) [.t 40, .t 43], none, false⟩, ⟨some 4, .mov (.t 44), none, false⟩] [4]) .ret) .skip))))))))) (.seq (.reg [⟨some 4, .mov (.c (.int .i64 0)), none, false⟩] [4]) .ret))
def x98 : XF := ⟨2, b98, [.t 4]⟩
def h98 : Yv := fun id => match id with
  | 0 => [2, 3]
  | 1 => [2, 3, 5]
  | 2 => [4]
  | 3 => [2, 3, 16]
  | 4 => [4]
  | 5 => [2, 3, 25]
  | 6 => [4]
  | 7 => [2, 3, 34]
  | 8 => [4]
  | 9 => [4]
  | _ => []
theorem cv98 : cvF Tryd.prog h98 Tryd.f98 = some x98 := by kernel_rfl

/-- winnower/dict.search -/
def b99 : XC := .seq (.reg [⟨some 3, .box 23 (.t 1), none, false⟩, ⟨some 4, .mov (.c (.int .i64 0)), none, false⟩, ⟨some 5, .mov (.c (.bool false)), none, false⟩] [0, 3]) (.seq (.reg [⟨some 7, .mov (.t 0), none, false⟩, ⟨some 8, .mkfn 127 [] [.t 3], none, false⟩, ⟨some 9, .call (.c (.func 126 [] [])) [.t 7, .t 8], none, false⟩, ⟨some 6, .mov (.t 9), none, false⟩] [0, 3, 6]) (.seq (.reg [⟨some 10, .mov (.t 6), none, false⟩, ⟨some 11, .mov (.t 6), none, false⟩, ⟨some 12, .mov (.t 0), none, false⟩, ⟨some 13, .len 4 (.t 12), none, false⟩, ⟨some 14, .bin .lss (.t 11) (.t 13), none, false⟩, ⟨some 15, .mov (.t 14), none, false⟩, ⟨some 16, .mov (.t 0), some (15, true), false⟩, ⟨some 17, .mov (.t 6), some (15, true), false⟩, ⟨some 18, .iaddr 4 (.t 16) (.t 17), some (15, true), false⟩, ⟨some 19, .load true 4 (.t 18), some (15, true), false⟩, ⟨some 20, .load true 4 (.t 3), some (15, true), false⟩, ⟨some 21, .eqa [1, 1, 2, 0] false (.t 19) (.t 20), some (15, true), false⟩, ⟨some 22, .pick (.t 15) (.t 21) (.c (.bool false)), none, false⟩, ⟨some 4, .mov (.t 10), none, false⟩, ⟨some 5, .mov (.t 22), none, false⟩] [4, 5]) .ret))
def x99 : XF := ⟨2, b99, [.t 4, .t 5]⟩
def h99 : Yv := fun id => match id with
  | 0 => [0, 3]
  | 1 => [0, 3, 6]
  | 2 => [4, 5]
  | _ => []
theorem cv99 : cvF Tryd.prog h99 Tryd.f99 = some x99 := by kernel_rfl

/-- winnower/bits.may -/
def b100 : XC := .seq (.reg [⟨some 2, .mov (.c (.bool false)), none, false⟩] [0]) (.seq (.reg [⟨some 3, .mov (.t 0), none, false⟩, ⟨some 4, .bin .geq (.t 3) (.c (.int .i64 0)), none, false⟩, ⟨some 5, .mov (.t 4), none, false⟩, ⟨some 6, .mov (.t 0), some (5, true), false⟩, ⟨some 7, .bin .leq (.t 6) (.c (.int .i64 62)), some (5, true), false⟩, ⟨some 8, .pick (.t 5) (.t 7) (.c (.bool false)), none, false⟩, ⟨some 2, .mov (.t 8), none, false⟩] [2]) .ret)
def x100 : XF := ⟨1, b100, [.t 2]⟩
def h100 : Yv := fun id => match id with
  | 0 => [0]
  | 1 => [2]
  | _ => []
theorem cv100 : cvF Tryd.prog h100 Tryd.f100 = some x100 := by kernel_rfl

/-- winnower/bits.size -/
def b101 : XC := .seq (.reg [⟨some 4, .mov (.c (.int .i64 0)), none, false⟩] [0, 1]) (.seq (.reg [⟨some 5, .mov (.t 0), none, false⟩, ⟨some 6, .mov (.t 1), none, false⟩, ⟨some 7, .bin .mul (.t 5) (.t 6), none, false⟩, ⟨some 8, .bin .add (.t 7) (.c (.int .i64 7)), none, false⟩, ⟨some 9, .bin .quo (.t 8) (.c (.int .i64 8)), none, false⟩, ⟨some 4, .mov (.t 9), none, false⟩] [4]) .ret)
def x101 : XF := ⟨2, b101, [.t 4]⟩
def h101 : Yv := fun id => match id with
  | 0 => [0, 1]
  | 1 => [4]
  | _ => []
theorem cv101 : cvF Tryd.prog h101 Tryd.f101 = some x101 := by kernel_rfl

/-- winnower/bits.Width -/
def b102 : XC := .seq (.reg [⟨some 2, .mov (.c (.int .i64 0)), none, false⟩] [0]) (.seq (.reg [⟨some 3, .mov (.t 0), none, false⟩, ⟨some 4, .mmx true [.t 3, .c (.int .i64 0)], none, false⟩, ⟨some 5, .toint .u64 (.t 4), none, false⟩, ⟨some 6, .call (.c (.func 128 [] [])) [.t 5], none, false⟩, ⟨some 2, .mov (.t 6), none, false⟩] [2]) .ret)
def x102 : XF := ⟨1, b102, [.t 2]⟩
def h102 : Yv := fun id => match id with
  | 0 => [0]
  | 1 => [2]
  | _ => []
theorem cv102 : cvF Tryd.prog h102 Tryd.f102 = some x102 := by kernel_rfl

/-- winnower/bits.places -/
def lp103_0 : XC := .seq (.reg [⟨some 9, .bin .lss (.t 8) (.t 7), none, false⟩] [0, 1, 2, 7, 8, 9]) (.seq (.cond (.t 9) .skip (.exit 0)) (.seq (.block 1 (.seq (.reg [⟨some 10, .mov (.t 8), none, false⟩, ⟨some 6, .mov (.t 10), none, false⟩] [0, 1, 2, 6, 7, 8]) (.reg [⟨some 11, .mov (.t 2), none, false⟩, ⟨some 12, .mov (.t 0), none, false⟩, ⟨some 13, .mov (.t 1), none, false⟩, ⟨some 14, .bin .mul (.t 12) (.t 13), none, false⟩, ⟨some 15, .mov (.t 6), none, false⟩, ⟨some 16, .bin .add (.t 14) (.t 15), none, false⟩, ⟨some 17, .mov (.t 6), none, false⟩, ⟨some 18, .call (.t 11) [.t 16, .t 17], none, false⟩] [0, 1, 2, 7, 8]))) (.reg [⟨some 19, .bin .add (.t 8) (.c (.int .i64 1)), none, false⟩, ⟨some 8, .mov (.t 19), none, false⟩] [0, 1, 2, 7, 8])))
def b103 : XC := .seq (.reg [⟨some 7, .mov (.t 1), none, false⟩, ⟨some 8, .mov (.c (.int .i64 0)), none, false⟩] [0, 1, 2, 7, 8]) (.block 0 (.loop lp103_0))
def x103 : XF := ⟨3, b103, []⟩
def h103 : Yv := fun id => match id with
  | 0 => [0, 1, 2, 7, 8]
  | 1 => [0, 1, 2, 7, 8, 9]
  | 2 => [0, 1, 2, 6, 7, 8]
  | 3 => [0, 1, 2, 7, 8]
  | 4 => [0, 1, 2, 7, 8]
  | _ => []
theorem cv103 : cvF Tryd.prog h103 Tryd.f103 = some x103 := by kernel_rfl

/-- winnower/bits.Pack$1 -/
def b104 : XC := .reg [⟨some 6, .load false 1 (.t 2), none, false⟩, ⟨some 7, .mov (.t 0), none, false⟩, ⟨some 8, .bin .quo (.t 7) (.c (.int .i64 8)), none, false⟩, ⟨some 9, .iaddr 1 (.t 6) (.t 8), none, false⟩, ⟨some 10, .load false 1 (.t 9), none, false⟩, ⟨some 11, .load false 1 (.t 3), none, false⟩, ⟨some 12, .mov (.t 1), none, false⟩, ⟨some 13, .bin .shr (.t 11) (.t 12), none, false⟩, ⟨some 14, .bin .and (.t 13) (.c (.int .i64 1)), none, false⟩, ⟨some 15, .toint .u8 (.t 14), none, false⟩, ⟨some 16, .mov (.t 0), none, false⟩, ⟨some 17, .bin .rem (.t 16) (.c (.int .i64 8)), none, false⟩, ⟨some 18, .bin .shl (.t 15) (.t 17), none, false⟩, ⟨some 19, .bin .or (.t 10) (.t 18), none, false⟩, ⟨some 20, .iaddr 1 (.t 6) (.t 8), none, false⟩, ⟨none, .store 1 (.t 20) (.t 19), none, false⟩] []
def x104 : XF := ⟨4, b104, []⟩
def h104 : Yv := fun id => match id with
  | _ => []
theorem cv104 : cvF Tryd.prog h104 Tryd.f104 = some x104 := by kernel_rfl

/-- winnower/bits.number -/
def b109 : XC := .seq (.reg [⟨some 3, .box 51 (.t 0), none, false⟩, ⟨some 6, .mov (.c (.int .i64 0)), none, false⟩] [1, 2, 3]) (.seq (.reg [⟨some 7, .alloc 3 [.int .i64 0], none, false⟩, ⟨none, .store 1 (.t 7) (.c (.int .i64 0)), none, false⟩] [1, 2, 3, 7]) (.seq (.reg [⟨some 8, .mov (.t 1), none, false⟩, ⟨some 9, .mov (.t 2), none, false⟩, ⟨some 10, .mkfn 129 [] [.t 7, .t 3], none, false⟩, ⟨some 11, .call (.c (.func 103 [] [])) [.t 8, .t 9, .t 10], none, false⟩] [7]) (.seq (.reg [⟨some 12, .load false 1 (.t 7), none, false⟩, ⟨some 6, .mov (.t 12), none, false⟩] [6]) .ret)))
def x109 : XF := ⟨3, b109, [.t 6]⟩
def h109 : Yv := fun id => match id with
  | 0 => [1, 2, 3]
  | 1 => [1, 2, 3, 7]
  | 2 => [7]
  | 3 => [6]
  | _ => []
theorem cv109 : cvF Tryd.prog h109 Tryd.f109 = some x109 := by kernel_rfl

/-- winnower/dict.Rises -/
def lp111_0 : XC := .seq (.reg [⟨some 8, .bin .lss (.t 7) (.t 6), none, false⟩] [0, 5, 6, 7, 8]) (.seq (.cond (.t 8) .skip (.exit 0)) (.seq (.block 1 (.seq (.reg [⟨some 9, .mov (.t 7), none, false⟩, ⟨some 10, .iaddr 4 (.t 5) (.t 7), none, false⟩, ⟨some 11, .load true 4 (.t 10), none, false⟩, ⟨some 4, .alloc 23 [.int .i64 0, .int .i64 0, .str ⟨#[]⟩, .bool false], none, false⟩, ⟨some 3, .mov (.t 9), none, false⟩, ⟨none, .store 4 (.t 4) (.t 11), none, false⟩] [0, 3, 4, 5, 6, 7]) (.seq (.reg [⟨some 12, .load true 4 (.t 4), none, false⟩, ⟨some 13, .call (.c (.func 89 [] [])) [.t 12], none, false⟩, ⟨some 14, .un .not (.t 13), none, false⟩, ⟨some 15, .mov (.t 14), none, false⟩, ⟨some 16, .mov (.t 3), some (15, false), false⟩, ⟨some 17, .bin .gtr (.t 16) (.c (.int .i64 0)), some (15, false), false⟩, ⟨some 18, .mov (.t 17), some (15, false), false⟩, ⟨some 19, .mov (.t 0), some (18, true), false⟩, ⟨some 20, .mov (.t 3), some (18, true), false⟩, ⟨some 21, .bin .sub (.t 20) (.c (.int .i64 1)), some (18, true), false⟩, ⟨some 22, .iaddr 4 (.t 19) (.t 21), some (18, true), false⟩, ⟨some 23, .load true 4 (.t 22), some (18, true), false⟩, ⟨some 24, .load true 4 (.t 4), some (18, true), false⟩, ⟨some 25, .call (.c (.func 98 [] [])) [.t 23, .t 24], some (18, true), false⟩, ⟨some 26, .bin .geq (.t 25) (.c (.int .i64 0)), some (18, true), false⟩, ⟨some 27, .pick (.t 18) (.t 26) (.c (.bool false)), some (15, false), false⟩, ⟨some 28, .pick (.t 15) (.c (.bool true)) (.t 27), none, false⟩] [0, 5, 6, 7, 28]) (.cond (.t 28) (.seq (.reg [⟨some 2, .mov (.c (.bool false)), none, false⟩] [2]) .ret) .skip)))) (.reg [⟨some 29, .bin .add (.t 7) (.c (.int .i64 1)), none, false⟩, ⟨some 7, .mov (.t 29), none, false⟩] [0, 5, 6, 7])))
def b111 : XC := .seq (.reg [⟨some 2, .mov (.c (.bool false)), none, false⟩] [0]) (.seq (.seq (.reg [⟨some 5, .mov (.t 0), none, false⟩, ⟨some 6, .len 4 (.t 5), none, false⟩, ⟨some 7, .mov (.c (.int .i64 0)), none, false⟩] [0, 5, 6, 7]) (.block 0 (.loop lp111_0))) (.seq (.reg [⟨some 2, .mov (.c (.bool true)), none, false⟩] [2]) .ret))
def x111 : XF := ⟨1, b111, [.t 2]⟩
def h111 : Yv := fun id => match id with
  | 0 => [0]
  | 1 => [0, 5, 6, 7]
  | 2 => [0, 5, 6, 7, 8]
  | 3 => [0, 3, 4, 5, 6, 7]
  | 4 => [0, 5, 6, 7, 28]
  | 5 => [2]
  | 6 => [0, 5, 6, 7]
  | 7 => [2]
  | _ => []
theorem cv111 : cvF Tryd.prog h111 Tryd.f111 = some x111 := by kernel_rfl

/-- winnower/bits.Unpack -/
def lp112_0 : XC := .seq (.reg [⟨some 57, .bin .lss (.t 56) (.t 55), none, false⟩] [0, 2, 8, 55, 56, 57]) (.seq (.cond (.t 57) .skip (.exit 1)) (.seq (.block 2 (.seq (.reg [⟨some 58, .mov (.t 56), none, false⟩, ⟨some 9, .mov (.t 58), none, false⟩] [0, 2, 8, 9, 55, 56]) (.reg [⟨some 59, .mov (.t 8), none, false⟩, ⟨some 60, .mov (.t 9), none, false⟩, ⟨some 61, .mov (.t 0), none, false⟩, ⟨some 62, .mov (.t 9), none, false⟩, ⟨some 63, .mov (.t 2), none, false⟩, ⟨some 64, .call (.c (.func 109 [] [])) [.t 61, .t 62, .t 63], none, false⟩, ⟨some 65, .iaddr 1 (.t 59) (.t 60), none, false⟩, ⟨none, .store 1 (.t 65) (.t 64), none, false⟩] [0, 2, 8, 55, 56]))) (.reg [⟨some 66, .bin .add (.t 56) (.c (.int .i64 1)), none, false⟩, ⟨some 56, .mov (.t 66), none, false⟩] [0, 2, 8, 55, 56])))
def b112 : XC := .seq (.reg [⟨some 6, .mov (.c .nils), none, false⟩, ⟨some 7, .mov (.c (.int .i64 0)), none, false⟩] [0, 1, 2]) (.seq (.block 0 (.seq (.seq (.reg [⟨some 11, .mov (.t 2), none, false⟩, ⟨some 12, .call (.c (.func 100 [] [])) [.t 11], none, false⟩, ⟨some 13, .un .not (.t 12), none, false⟩, ⟨some 10, .mov (.t 13), none, false⟩] [0, 1, 2, 10]) (.cond (.t 10) .skip (.reg [⟨some 14, .mov (.t 1), none, false⟩, ⟨some 15, .bin .lss (.t 14) (.c (.int .i64 0)), none, false⟩, ⟨some 10, .mov (.t 15), none, false⟩] [0, 1, 2, 10]))) (.cond (.t 10) (.seq (.reg [⟨some 6, .mov (.c .nils), none, false⟩, ⟨some 7, .mov (.c (.int .i64 1)), none, false⟩] [6, 7]) .ret) (.seq (.reg [⟨some 17, .mov (.t 1), none, false⟩, ⟨some 18, .bin .gtr (.t 17) (.c (.int .i64 4096)), none, false⟩, ⟨some 16, .mov (.t 18), none, false⟩] [0, 1, 2, 16]) (.cond (.t 16) (.seq (.reg [⟨some 6, .mov (.c .nils), none, false⟩, ⟨some 7, .mov (.c (.int .i64 2)), none, false⟩] [6, 7]) .ret) (.seq (.reg [⟨some 20, .mov (.t 0), none, false⟩, ⟨some 21, .len 1 (.t 20), none, false⟩, ⟨some 22, .mov (.t 1), none, false⟩, ⟨some 23, .mov (.t 2), none, false⟩, ⟨some 24, .call (.c (.func 101 [] [])) [.t 22, .t 23], none, false⟩, ⟨some 25, .bin .lss (.t 21) (.t 24), none, false⟩, ⟨some 19, .mov (.t 25), none, false⟩] [0, 1, 2, 19]) (.cond (.t 19) (.seq (.reg [⟨some 6, .mov (.c .nils), none, false⟩, ⟨some 7, .mov (.c (.int .i64 6)), none, false⟩] [6, 7]) .ret) (.seq (.seq (.reg [⟨some 27, .mov (.t 0), none, false⟩, ⟨some 28, .len 1 (.t 27), none, false⟩, ⟨some 29, .mov (.t 1), none, false⟩, ⟨some 30, .mov (.t 2), none, false⟩, ⟨some 31, .call (.c (.func 101 [] [])) [.t 29, .t 30], none, false⟩, ⟨some 32, .bin .gtr (.t 28) (.t 31), none, false⟩, ⟨some 26, .mov (.t 32), none, false⟩] [0, 1, 2, 26]) (.cond (.t 26) .skip (.reg [⟨some 33, .mov (.t 1), none, false⟩, ⟨some 34, .mov (.t 2), none, false⟩, ⟨some 35, .bin .mul (.t 33) (.t 34), none, false⟩, ⟨some 36, .bin .rem (.t 35) (.c (.int .i64 8)), none, false⟩, ⟨some 37, .bin .gtr (.t 36) (.c (.int .i64 0)), none, false⟩, ⟨some 38, .mov (.t 37), none, false⟩, ⟨some 39, .mov (.t 0), some (38, true), false⟩, ⟨some 40, .mov (.t 0), some (38, true), false⟩, ⟨some 41, .len 1 (.t 40), some (38, true), false⟩, ⟨some 42, .bin .sub (.t 41) (.c (.int .i64 1)), some (38, true), false⟩, ⟨some 43, .iaddr 1 (.t 39) (.t 42), some (38, true), false⟩, ⟨some 44, .load false 1 (.t 43), some (38, true), false⟩, ⟨some 45, .mov (.t 1), some (38, true), false⟩, ⟨some 46, .mov (.t 2), some (38, true), false⟩, ⟨some 47, .bin .mul (.t 45) (.t 46), some (38, true), false⟩, ⟨some 48, .bin .rem (.t 47) (.c (.int .i64 8)), some (38, true), false⟩, ⟨some 49, .bin .shr (.t 44) (.t 48), some (38, true), false⟩, ⟨some 50, .bin .gtr (.t 49) (.c (.int .u8 0)), some (38, true), false⟩, ⟨some 51, .pick (.t 38) (.t 50) (.c (.bool false)), none, false⟩, ⟨some 26, .mov (.t 51), none, false⟩] [0, 1, 2, 26]))) (.cond (.t 26) (.seq (.reg [⟨some 6, .mov (.c .nils), none, false⟩, ⟨some 7, .mov (.c (.int .i64 7)), none, false⟩] [6, 7]) .ret) .skip))))))))) (.seq (.reg [⟨some 52, .mov (.t 1), none, false⟩, ⟨some 53, .make 3 1 8 (.int .i64 0) (.t 52) (.t 52), none, false⟩, ⟨some 8, .mov (.t 53), none, false⟩] [0, 2, 8]) (.seq (.seq (.reg [⟨some 54, .mov (.t 8), none, false⟩, ⟨some 55, .len 1 (.t 54), none, false⟩, ⟨some 56, .mov (.c (.int .i64 0)), none, false⟩] [0, 2, 8, 55, 56]) (.block 1 (.loop lp112_0))) (.seq (.reg [⟨some 67, .mov (.t 8), none, false⟩, ⟨some 6, .mov (.t 67), none, false⟩, ⟨some 7, .mov (.c (.int .i64 0)), none, false⟩] [6, 7]) .ret))))
def x112 : XF := ⟨3, b112, [.t 6, .t 7]⟩
def h112 : Yv := fun id => match id with
  | 0 => [0, 1, 2]
  | 1 => [0, 1, 2, 10]
  | 2 => [0, 1, 2, 10]
  | 3 => [6, 7]
  | 4 => [0, 1, 2, 16]
  | 5 => [6, 7]
  | 6 => [0, 1, 2, 19]
  | 7 => [6, 7]
  | 8 => [0, 1, 2, 26]
  | 9 => [0, 1, 2, 26]
  | 10 => [6, 7]
  | 11 => [0, 2, 8]
  | 12 => [0, 2, 8, 55, 56]
  | 13 => [0, 2, 8, 55, 56, 57]
  | 14 => [0, 2, 8, 9, 55, 56]
  | 15 => [0, 2, 8, 55, 56]
  | 16 => [0, 2, 8, 55, 56]
  | 17 => [6, 7]
  | _ => []
theorem cv112 : cvF Tryd.prog h112 Tryd.f112 = some x112 := by kernel_rfl

/-- winnower/value.truth -/
def b115 : XC := .seq (.reg [⟨some 2, .mov (.c (.int .i64 0)), none, false⟩] [0]) (.seq (.seq (.reg [⟨some 3, .mov (.t 0), none, false⟩] [3]) (.cond (.t 3) (.seq (.reg [⟨some 2, .mov (.c (.int .i64 1)), none, false⟩] [2]) .ret) .skip)) (.seq (.reg [⟨some 2, .mov (.c (.int .i64 0)), none, false⟩] [2]) .ret))
def x115 : XF := ⟨1, b115, [.t 2]⟩
def h115 : Yv := fun id => match id with
  | 0 => [0]
  | 1 => [3]
  | 2 => [2]
  | 3 => [2]
  | _ => []
theorem cv115 : cvF Tryd.prog h115 Tryd.f115 = some x115 := by kernel_rfl

/-- slices.pdqsortCmpFunc[winnower/api.Value] -/
def lp122_0 : XC := .block 1 (.seq (.reg [⟨some 21, .mov (.t 2), none, false⟩, ⟨some 22, .mov (.t 1), none, false⟩, ⟨some 23, .bin .sub (.t 21) (.t 22), none, false⟩, ⟨some 12, .mov (.t 23), none, false⟩] [0, 1, 2, 3, 4, 10, 11, 12]) (.seq (.seq (.reg [⟨some 24, .mov (.t 12), none, false⟩, ⟨some 25, .bin .leq (.t 24) (.c (.int .i64 12)), none, false⟩] [0, 1, 2, 3, 4, 10, 11, 12, 25]) (.cond (.t 25) (.seq (.reg [⟨some 26, .mov (.t 0), none, false⟩, ⟨some 27, .mov (.t 1), none, false⟩, ⟨some 28, .mov (.t 2), none, false⟩, ⟨some 29, .mov (.t 4), none, false⟩, ⟨some 30, .call (.c (.func 131 [] [])) [.t 26, .t 27, .t 28, .t 29], none, false⟩] []) .ret) .skip)) (.seq (.seq (.reg [⟨some 31, .mov (.t 3), none, false⟩, ⟨some 32, .bin .eql (.t 31) (.c (.int .i64 0)), none, false⟩] [0, 1, 2, 3, 4, 10, 11, 12, 32]) (.cond (.t 32) (.seq (.reg [⟨some 33, .mov (.t 0), none, false⟩, ⟨some 34, .mov (.t 1), none, false⟩, ⟨some 35, .mov (.t 2), none, false⟩, ⟨some 36, .mov (.t 4), none, false⟩, ⟨some 37, .call (.c (.func 132 [] [])) [.t 33, .t 34, .t 35, .t 36], none, false⟩] []) .ret) .skip)) (.seq (.seq (.reg [⟨some 38, .mov (.t 10), none, false⟩, ⟨some 39, .un .not (.t 38), none, false⟩] [0, 1, 2, 3, 4, 10, 11, 12, 39]) (.cond (.t 39) (.seq (.reg [⟨some 40, .mov (.t 0), none, false⟩, ⟨some 41, .mov (.t 1), none, false⟩, ⟨some 42, .mov (.t 2), none, false⟩, ⟨some 43, .mov (.t 4), none, false⟩, ⟨some 44, .call (.c (.func 133 [] [])) [.t 40, .t 41, .t 42, .t 43], none, false⟩] [0, 1, 2, 3, 4, 10, 11, 12]) (.reg [⟨some 45, .mov (.t 3), none, false⟩, ⟨some 46, .bin .sub (.t 45) (.c (.int .i64 1)), none, false⟩, ⟨some 3, .mov (.t 46), none, false⟩] [0, 1, 2, 3, 4, 10, 11, 12])) .skip)) (.seq (.reg [⟨some 48, .mov (.t 0), none, false⟩, ⟨some 49, .mov (.t 1), none, false⟩, ⟨some 50, .mov (.t 2), none, false⟩, ⟨some 51, .mov (.t 4), none, false⟩, ⟨some 52, .call (.c (.func 134 [] [])) [.t 48, .t 49, .t 50, .t 51], none, false⟩, ⟨some 47, .mov (.t 52), none, false⟩, ⟨some 53, .ext (.t 47) 0, none, false⟩, ⟨some 54, .ext (.t 47) 1, none, false⟩, ⟨some 13, .mov (.t 53), none, false⟩, ⟨some 14, .mov (.t 54), none, false⟩] [0, 1, 2, 3, 4, 10, 11, 12, 13, 14]) (.seq (.seq (.reg [⟨some 55, .mov (.t 14), none, false⟩, ⟨some 56, .bin .eql (.t 55) (.c (.int .i64 2)), none, false⟩] [0, 1, 2, 3, 4, 10, 11, 12, 13, 14, 56]) (.cond (.t 56) (.seq (.reg [⟨some 57, .mov (.t 0), none, false⟩, ⟨some 58, .mov (.t 1), none, false⟩, ⟨some 59, .mov (.t 2), none, false⟩, ⟨some 60, .mov (.t 4), none, false⟩, ⟨some 61, .call (.c (.func 135 [] [])) [.t 57, .t 58, .t 59, .t 60], none, false⟩] [0, 1, 2, 3, 4, 10, 11, 12, 13]) (.seq (.reg [⟨some 62, .mov (.t 2), none, false⟩, ⟨some 63, .bin .sub (.t 62) (.c (.int .i64 1)), none, false⟩, ⟨some 64, .mov (.t 13), none, false⟩, ⟨some 65, .mov (.t 1), none, false⟩, ⟨some 66, .bin .sub (.t 64) (.t 65), none, false⟩, ⟨some 67, .bin .sub (.t 63) (.t 66), none, false⟩, ⟨some 13, .mov (.t 67), none, false⟩] [0, 1, 2, 3, 4, 10, 11, 12, 13]) (.reg [⟨some 14, .mov (.c (.int .i64 1)), none, false⟩] [0, 1, 2, 3, 4, 10, 11, 12, 13, 14]))) .skip)) (.seq (.seq (.reg [⟨some 68, .mov (.t 10), none, false⟩, ⟨some 69, .mov (.t 68), none, false⟩, ⟨some 70, .mov (.t 11), some (69, true), false⟩, ⟨some 71, .pick (.t 69) (.t 70) (.c (.bool false)), none, false⟩, ⟨some 72, .mov (.t 71), none, false⟩, ⟨some 73, .mov (.t 14), some (72, true), false⟩, ⟨some 74, .bin .eql (.t 73) (.c (.int .i64 1)), some (72, true), false⟩, ⟨some 75, .pick (.t 72) (.t 74) (.c (.bool false)), none, false⟩] [0, 1, 2, 3, 4, 10, 11, 12, 13, 75]) (.cond (.t 75) (.seq (.reg [⟨some 76, .mov (.t 0), none, false⟩, ⟨some 77, .mov (.t 1), none, false⟩, ⟨some 78, .mov (.t 2), none, false⟩, ⟨some 79, .mov (.t 4), none, false⟩, ⟨some 80, .call (.c (.func 136 [] [])) [.t 76, .t 77, .t 78, .t 79], none, false⟩] [0, 1, 2, 3, 4, 10, 11, 12, 13, 80]) (.cond (.t 80) .ret .skip)) .skip)) (.seq (.seq (.reg [⟨some 81, .mov (.t 1), none, false⟩, ⟨some 82, .bin .gtr (.t 81) (.c (.int .i64 0)), none, false⟩, ⟨some 83, .mov (.t 82), none, false⟩, ⟨some 84, .mov (.t 4), some (83, true), false⟩, ⟨some 85, .mov (.t 0), some (83, true), false⟩, ⟨some 86, .mov (.t 1), some (83, true), false⟩, ⟨some 87, .bin .sub (.t 86) (.c (.int .i64 1)), some (83, true), false⟩, ⟨some 88, .iaddr 4 (.t 85) (.t 87), some (83, true), false⟩, ⟨some 89, .load true 4 (.t 88), some (83, true), false⟩, ⟨some 90, .mov (.t 0), some (83, true), false⟩, ⟨some 91, .mov (.t 13), some (83, true), false⟩, ⟨some 92, .iaddr 4 (.t 90) (.t 91), some (83, true), false⟩, ⟨some 93, .load true 4 (.t 92), some (83, true), false⟩, ⟨some 94, .call (.t 84) [.t 89, .t 93], some (83, true), false⟩, ⟨some 95, .bin .lss (.t 94) (.c (.int .i64 0)), some (83, true), false⟩, ⟨some 96, .un .not (.t 95), some (83, true), false⟩, ⟨some 97, .pick (.t 83) (.t 96) (.c (.bool false)), none, false⟩] [0, 1, 2, 3, 4, 10, 11, 12, 13, 97]) (.cond (.t 97) (.seq (.reg [⟨some 98, .mov (.t 0), none, false⟩, ⟨some 99, .mov (.t 1), none, false⟩, ⟨some 100, .mov (.t 2), none, false⟩, ⟨some 101, .mov (.t 13), none, false⟩, ⟨some 102, .mov (.t 4), none, false⟩, ⟨some 103, .call (.c (.func 137 [] [])) [.t 98, .t 99, .t 100, .t 101, .t 102], none, false⟩, ⟨some 15, .mov (.t 103), none, false⟩] [0, 2, 3, 4, 10, 11, 15]) (.seq (.reg [⟨some 104, .mov (.t 15), none, false⟩, ⟨some 1, .mov (.t 104), none, false⟩] [0, 1, 2, 3, 4, 10, 11]) (.exit 1))) .skip)) (.seq (.reg [⟨some 106, .mov (.t 0), none, false⟩, ⟨some 107, .mov (.t 1), none, false⟩, ⟨some 108, .mov (.t 2), none, false⟩, ⟨some 109, .mov (.t 13), none, false⟩, ⟨some 110, .mov (.t 4), none, false⟩, ⟨some 111, .call (.c (.func 138 [] [])) [.t 106, .t 107, .t 108, .t 109, .t 110], none, false⟩, ⟨some 105, .mov (.t 111), none, false⟩, ⟨some 112, .ext (.t 105) 0, none, false⟩, ⟨some 113, .ext (.t 105) 1, none, false⟩, ⟨some 16, .mov (.t 112), none, false⟩, ⟨some 17, .mov (.t 113), none, false⟩] [0, 1, 2, 3, 4, 12, 16, 17]) (.seq (.reg [⟨some 114, .mov (.t 17), none, false⟩, ⟨some 11, .mov (.t 114), none, false⟩] [0, 1, 2, 3, 4, 11, 12, 16]) (.seq (.reg [⟨some 115, .mov (.t 16), none, false⟩, ⟨some 116, .mov (.t 1), none, false⟩, ⟨some 117, .bin .sub (.t 115) (.t 116), none, false⟩, ⟨some 118, .mov (.t 2), none, false⟩, ⟨some 119, .mov (.t 16), none, false⟩, ⟨some 120, .bin .sub (.t 118) (.t 119), none, false⟩, ⟨some 18, .mov (.t 117), none, false⟩, ⟨some 19, .mov (.t 120), none, false⟩] [0, 1, 2, 3, 4, 11, 12, 16, 18, 19]) (.seq (.reg [⟨some 121, .mov (.t 12), none, false⟩, ⟨some 122, .bin .quo (.t 121) (.c (.int .i64 8)), none, false⟩, ⟨some 20, .mov (.t 122), none, false⟩] [0, 1, 2, 3, 4, 11, 16, 18, 19, 20]) (.seq (.reg [⟨some 123, .mov (.t 18), none, false⟩, ⟨some 124, .mov (.t 19), none, false⟩, ⟨some 125, .bin .lss (.t 123) (.t 124), none, false⟩] [0, 1, 2, 3, 4, 11, 16, 18, 19, 20, 125]) (.cond (.t 125) (.seq (.reg [⟨some 126, .mov (.t 18), none, false⟩, ⟨some 127, .mov (.t 20), none, false⟩, ⟨some 128, .bin .geq (.t 126) (.t 127), none, false⟩, ⟨some 10, .mov (.t 128), none, false⟩] [0, 1, 2, 3, 4, 10, 11, 16]) (.seq (.reg [⟨some 129, .mov (.t 0), none, false⟩, ⟨some 130, .mov (.t 1), none, false⟩, ⟨some 131, .mov (.t 16), none, false⟩, ⟨some 132, .mov (.t 3), none, false⟩, ⟨some 133, .mov (.t 4), none, false⟩, ⟨some 134, .call (.c (.func 122 [] [])) [.t 129, .t 130, .t 131, .t 132, .t 133], none, false⟩] [0, 2, 3, 4, 10, 11, 16]) (.reg [⟨some 135, .mov (.t 16), none, false⟩, ⟨some 136, .bin .add (.t 135) (.c (.int .i64 1)), none, false⟩, ⟨some 1, .mov (.t 136), none, false⟩] [0, 1, 2, 3, 4, 10, 11]))) (.seq (.reg [⟨some 137, .mov (.t 19), none, false⟩, ⟨some 138, .mov (.t 20), none, false⟩, ⟨some 139, .bin .geq (.t 137) (.t 138), none, false⟩, ⟨some 10, .mov (.t 139), none, false⟩] [0, 1, 2, 3, 4, 10, 11, 16]) (.seq (.reg [⟨some 140, .mov (.t 0), none, false⟩, ⟨some 141, .mov (.t 16), none, false⟩, ⟨some 142, .bin .add (.t 141) (.c (.int .i64 1)), none, false⟩, ⟨some 143, .mov (.t 2), none, false⟩, ⟨some 144, .mov (.t 3), none, false⟩, ⟨some 145, .mov (.t 4), none, false⟩, ⟨some 146, .call (.c (.func 122 [] [])) [.t 140, .t 142, .t 143, .t 144, .t 145], none, false⟩] [0, 1, 3, 4, 10, 11, 16]) (.reg [⟨some 147, .mov (.t 16), none, false⟩, ⟨some 2, .mov (.t 147), none, false⟩] [0, 1, 2, 3, 4, 10, 11])))))))))))))))))
def b122 : XC := .seq (.reg [⟨some 10, .mov (.c (.bool true)), none, false⟩] [0, 1, 2, 3, 4, 10]) (.seq (.reg [⟨some 11, .mov (.c (.bool true)), none, false⟩] [0, 1, 2, 3, 4, 10, 11]) (.block 0 (.loop lp122_0)))
def x122 : XF := ⟨5, b122, []⟩
def h122 : Yv := fun id => match id with
  | 0 => [0, 1, 2, 3, 4, 10]
  | 1 => [0, 1, 2, 3, 4, 10, 11]
  | 2 => [0, 1, 2, 3, 4, 10, 11, 12]
  | 3 => [0, 1, 2, 3, 4, 10, 11, 12, 25]
  | 5 => [0, 1, 2, 3, 4, 10, 11, 12, 32]
  | 7 => [0, 1, 2, 3, 4, 10, 11, 12, 39]
  | 8 => [0, 1, 2, 3, 4, 10, 11, 12]
  | 9 => [0, 1, 2, 3, 4, 10, 11, 12]
  | 10 => [0, 1, 2, 3, 4, 10, 11, 12, 13, 14]
  | 11 => [0, 1, 2, 3, 4, 10, 11, 12, 13, 14, 56]
  | 12 => [0, 1, 2, 3, 4, 10, 11, 12, 13]
  | 13 => [0, 1, 2, 3, 4, 10, 11, 12, 13]
  | 14 => [0, 1, 2, 3, 4, 10, 11, 12, 13, 14]
  | 15 => [0, 1, 2, 3, 4, 10, 11, 12, 13, 75]
  | 16 => [0, 1, 2, 3, 4, 10, 11, 12, 13, 80]
  | 17 => [0, 1, 2, 3, 4, 10, 11, 12, 13, 97]
  | 18 => [0, 2, 3, 4, 10, 11, 15]
  | 19 => [0, 1, 2, 3, 4, 10, 11]
  | 20 => [0, 1, 2, 3, 4, 12, 16, 17]
  | 21 => [0, 1, 2, 3, 4, 11, 12, 16]
  | 22 => [0, 1, 2, 3, 4, 11, 12, 16, 18, 19]
  | 23 => [0, 1, 2, 3, 4, 11, 16, 18, 19, 20]
  | 24 => [0, 1, 2, 3, 4, 11, 16, 18, 19, 20, 125]
  | 25 => [0, 1, 2, 3, 4, 10, 11, 16]
  | 26 => [0, 2, 3, 4, 10, 11, 16]
  | 27 => [0, 1, 2, 3, 4, 10, 11]
  | 28 => [0, 1, 2, 3, 4, 10, 11, 16]
  | 29 => [0, 1, 3, 4, 10, 11, 16]
  | 30 => [0, 1, 2, 3, 4, 10, 11]
  | _ => []
theorem cv122 : cvF Tryd.prog h122 Tryd.f122 = some x122 := by kernel_rfl

/-- math/bits.Len -/
def b123 : XC := .seq (.reg [⟨some 2, .mov (.c (.int .i64 0)), none, false⟩] [0]) (.seq (.cond (.c (.bool false)) (.seq (.reg [⟨some 3, .mov (.t 0), none, false⟩, ⟨some 4, .toint .u32 (.t 3), none, false⟩, ⟨some 5, .call (.c (.func 139 [] [])) [.t 4], none, false⟩, ⟨some 2, .mov (.t 5), none, false⟩] [2]) .ret) .skip) (.seq (.reg [⟨some 6, .mov (.t 0), none, false⟩, ⟨some 7, .call (.c (.func 128 [] [])) [.t 6], none, false⟩, ⟨some 2, .mov (.t 7), none, false⟩] [2]) .ret))
def x123 : XF := ⟨1, b123, [.t 2]⟩
def h123 : Yv := fun id => match id with
  | 0 => [0]
  | 1 => [2]
  | 2 => [2]
  | _ => []
theorem cv123 : cvF Tryd.prog h123 Tryd.f123 = some x123 := by kernel_rfl

/-- cmp.Compare[int] -/
def b124 : XC := .seq (.reg [⟨some 4, .mov (.c (.int .i64 0)), none, false⟩] [0, 1]) (.seq (.reg [⟨some 7, .mov (.t 0), none, false⟩, ⟨some 8, .call (.c (.func 140 [] [])) [.t 7], none, false⟩, ⟨some 5, .mov (.t 8), none, false⟩] [0, 1, 5]) (.seq (.reg [⟨some 9, .mov (.t 1), none, false⟩, ⟨some 10, .call (.c (.func 140 [] [])) [.t 9], none, false⟩, ⟨some 6, .mov (.t 10), none, false⟩] [0, 1, 5, 6]) (.seq (.seq (.reg [⟨some 11, .mov (.t 5), none, false⟩] [0, 1, 6, 11]) (.cond (.t 11) (.seq (.seq (.reg [⟨some 12, .mov (.t 6), none, false⟩] [12]) (.cond (.t 12) (.seq (.reg [⟨some 4, .mov (.c (.int .i64 0)), none, false⟩] [4]) .ret) .skip)) (.seq (.reg [⟨some 4, .mov (.c (.int .i64 (-1))), none, false⟩] [4]) .ret)) .skip)) (.seq (.seq (.reg [⟨some 13, .mov (.t 6), none, false⟩] [0, 1, 13]) (.cond (.t 13) (.seq (.reg [⟨some 4, .mov (.c (.int .i64 1)), none, false⟩] [4]) .ret) .skip)) (.seq (.seq (.reg [⟨some 14, .mov (.t 0), none, false⟩, ⟨some 15, .mov (.t 1), none, false⟩, ⟨some 16, .bin .lss (.t 14) (.t 15), none, false⟩] [0, 1, 16]) (.cond (.t 16) (.seq (.reg [⟨some 4, .mov (.c (.int .i64 (-1))), none, false⟩] [4]) .ret) .skip)) (.seq (.seq (.reg [⟨some 17, .mov (.t 0), none, false⟩, ⟨some 18, .mov (.t 1), none, false⟩, ⟨some 19, .bin .gtr (.t 17) (.t 18), none, false⟩] [19]) (.cond (.t 19) (.seq (.reg [⟨some 4, .mov (.c (.int .i64 1)), none, false⟩] [4]) .ret) .skip)) (.seq (.reg [⟨some 4, .mov (.c (.int .i64 0)), none, false⟩] [4]) .ret)))))))
def x124 : XF := ⟨2, b124, [.t 4]⟩
def h124 : Yv := fun id => match id with
  | 0 => [0, 1]
  | 1 => [0, 1, 5]
  | 2 => [0, 1, 5, 6]
  | 3 => [0, 1, 6, 11]
  | 4 => [12]
  | 5 => [4]
  | 6 => [4]
  | 7 => [0, 1, 13]
  | 8 => [4]
  | 9 => [0, 1, 16]
  | 10 => [4]
  | 11 => [19]
  | 12 => [4]
  | 13 => [4]
  | _ => []
theorem cv124 : cvF Tryd.prog h124 Tryd.f124 = some x124 := by kernel_rfl

/-- cmp.Compare[string] -/
def b125 : XC := .seq (.reg [⟨some 4, .mov (.c (.int .i64 0)), none, false⟩] [0, 1]) (.seq (.reg [⟨some 7, .mov (.t 0), none, false⟩, ⟨some 8, .call (.c (.func 141 [] [])) [.t 7], none, false⟩, ⟨some 5, .mov (.t 8), none, false⟩] [0, 1, 5]) (.seq (.reg [⟨some 9, .mov (.t 1), none, false⟩, ⟨some 10, .call (.c (.func 141 [] [])) [.t 9], none, false⟩, ⟨some 6, .mov (.t 10), none, false⟩] [0, 1, 5, 6]) (.seq (.seq (.reg [⟨some 11, .mov (.t 5), none, false⟩] [0, 1, 6, 11]) (.cond (.t 11) (.seq (.seq (.reg [⟨some 12, .mov (.t 6), none, false⟩] [12]) (.cond (.t 12) (.seq (.reg [⟨some 4, .mov (.c (.int .i64 0)), none, false⟩] [4]) .ret) .skip)) (.seq (.reg [⟨some 4, .mov (.c (.int .i64 (-1))), none, false⟩] [4]) .ret)) .skip)) (.seq (.seq (.reg [⟨some 13, .mov (.t 6), none, false⟩] [0, 1, 13]) (.cond (.t 13) (.seq (.reg [⟨some 4, .mov (.c (.int .i64 1)), none, false⟩] [4]) .ret) .skip)) (.seq (.seq (.reg [⟨some 14, .mov (.t 0), none, false⟩, ⟨some 15, .mov (.t 1), none, false⟩, ⟨some 16, .bin .lss (.t 14) (.t 15), none, false⟩] [0, 1, 16]) (.cond (.t 16) (.seq (.reg [⟨some 4, .mov (.c (.int .i64 (-1))), none, false⟩] [4]) .ret) .skip)) (.seq (.seq (.reg [⟨some 17, .mov (.t 0), none, false⟩, ⟨some 18, .mov (.t 1), none, false⟩, ⟨some 19, .bin .gtr (.t 17) (.t 18), none, false⟩] [19]) (.cond (.t 19) (.seq (.reg [⟨some 4, .mov (.c (.int .i64 1)), none, false⟩] [4]) .ret) .skip)) (.seq (.reg [⟨some 4, .mov (.c (.int .i64 0)), none, false⟩] [4]) .ret)))))))
def x125 : XF := ⟨2, b125, [.t 4]⟩
def h125 : Yv := fun id => match id with
  | 0 => [0, 1]
  | 1 => [0, 1, 5]
  | 2 => [0, 1, 5, 6]
  | 3 => [0, 1, 6, 11]
  | 4 => [12]
  | 5 => [4]
  | 6 => [4]
  | 7 => [0, 1, 13]
  | 8 => [4]
  | 9 => [0, 1, 16]
  | 10 => [4]
  | 11 => [19]
  | 12 => [4]
  | 13 => [4]
  | _ => []
theorem cv125 : cvF Tryd.prog h125 Tryd.f125 = some x125 := by kernel_rfl

/-- winnower/dict.first[winnower/api.Value] -/
def lp126_0 : XC := .seq (.seq (.reg [⟨some 10, .mov (.t 5), none, false⟩, ⟨some 11, .mov (.t 6), none, false⟩, ⟨some 12, .bin .lss (.t 10) (.t 11), none, false⟩] [0, 1, 5, 6, 12]) (.cond (.t 12) .skip (.exit 0))) (.block 1 (.seq (.reg [⟨some 13, .mov (.t 5), none, false⟩, ⟨some 14, .mov (.t 6), none, false⟩, ⟨some 15, .bin .add (.t 13) (.t 14), none, false⟩, ⟨some 16, .bin .quo (.t 15) (.c (.int .i64 2)), none, false⟩, ⟨some 7, .mov (.t 16), none, false⟩] [0, 1, 5, 6, 7]) (.seq (.reg [⟨some 17, .mov (.t 1), none, false⟩, ⟨some 18, .mov (.t 0), none, false⟩, ⟨some 19, .mov (.t 7), none, false⟩, ⟨some 20, .iaddr 4 (.t 18) (.t 19), none, false⟩, ⟨some 21, .load true 4 (.t 20), none, false⟩, ⟨some 22, .call (.t 17) [.t 21], none, false⟩] [0, 1, 5, 6, 7, 22]) (.cond (.t 22) (.reg [⟨some 23, .mov (.t 7), none, false⟩, ⟨some 6, .mov (.t 23), none, false⟩] [0, 1, 5, 6]) (.reg [⟨some 24, .mov (.t 7), none, false⟩, ⟨some 25, .bin .add (.t 24) (.c (.int .i64 1)), none, false⟩, ⟨some 5, .mov (.t 25), none, false⟩] [0, 1, 5, 6])))))
def b126 : XC := .seq (.reg [⟨some 4, .mov (.c (.int .i64 0)), none, false⟩] [0, 1]) (.seq (.reg [⟨some 8, .mov (.t 0), none, false⟩, ⟨some 9, .len 4 (.t 8), none, false⟩, ⟨some 5, .mov (.c (.int .i64 0)), none, false⟩, ⟨some 6, .mov (.t 9), none, false⟩] [0, 1, 5, 6]) (.seq (.block 0 (.loop lp126_0)) (.seq (.reg [⟨some 26, .mov (.t 5), none, false⟩, ⟨some 4, .mov (.t 26), none, false⟩] [4]) .ret)))
def x126 : XF := ⟨2, b126, [.t 4]⟩
def h126 : Yv := fun id => match id with
  | 0 => [0, 1]
  | 1 => [0, 1, 5, 6]
  | 2 => [0, 1, 5, 6, 12]
  | 3 => [0, 1, 5, 6, 7]
  | 4 => [0, 1, 5, 6, 7, 22]
  | 5 => [0, 1, 5, 6]
  | 6 => [0, 1, 5, 6]
  | 7 => [4]
  | _ => []
theorem cv126 : cvF Tryd.prog h126 Tryd.f126 = some x126 := by kernel_rfl

/-- winnower/dict.search$1 -/
def b127 : XC := .seq (.reg [⟨some 2, .box 23 (.t 0), none, false⟩, ⟨some 3, .mov (.c (.bool false)), none, false⟩] [1, 2]) (.seq (.reg [⟨some 4, .load true 4 (.t 2), none, false⟩, ⟨some 5, .load true 4 (.t 1), none, false⟩, ⟨some 6, .call (.c (.func 98 [] [])) [.t 4, .t 5], none, false⟩, ⟨some 7, .bin .geq (.t 6) (.c (.int .i64 0)), none, false⟩, ⟨some 3, .mov (.t 7), none, false⟩] [3]) .ret)
def x127 : XF := ⟨2, b127, [.t 3]⟩
def h127 : Yv := fun id => match id with
  | 0 => [1, 2]
  | 1 => [3]
  | _ => []
theorem cv127 : cvF Tryd.prog h127 Tryd.f127 = some x127 := by kernel_rfl

/-- math/bits.Len64 -/
def b128 : XC := .seq (.reg [⟨some 2, .mov (.c (.int .i64 0)), none, false⟩] [0, 2]) (.seq (.seq (.reg [⟨some 3, .mov (.t 0), none, false⟩, ⟨some 4, .bin .geq (.t 3) (.c (.int .u64 4294967296)), none, false⟩] [0, 2, 4]) (.cond (.t 4) (.seq (.reg [⟨some 5, .mov (.t 0), none, false⟩, ⟨some 6, .bin .shr (.t 5) (.c (.int .u64 32)), none, false⟩, ⟨some 0, .mov (.t 6), none, false⟩] [0]) (.reg [⟨some 2, .mov (.c (.int .i64 32)), none, false⟩] [0, 2])) .skip)) (.seq (.seq (.reg [⟨some 7, .mov (.t 0), none, false⟩, ⟨some 8, .bin .geq (.t 7) (.c (.int .u64 65536)), none, false⟩] [0, 2, 8]) (.cond (.t 8) (.seq (.reg [⟨some 9, .mov (.t 0), none, false⟩, ⟨some 10, .bin .shr (.t 9) (.c (.int .u64 16)), none, false⟩, ⟨some 0, .mov (.t 10), none, false⟩] [0, 2]) (.reg [⟨some 11, .mov (.t 2), none, false⟩, ⟨some 12, .bin .add (.t 11) (.c (.int .i64 16)), none, false⟩, ⟨some 2, .mov (.t 12), none, false⟩] [0, 2])) .skip)) (.seq (.seq (.reg [⟨some 13, .mov (.t 0), none, false⟩, ⟨some 14, .bin .geq (.t 13) (.c (.int .u64 256)), none, false⟩] [0, 2, 14]) (.cond (.t 14) (.seq (.reg [⟨some 15, .mov (.t 0), none, false⟩, ⟨some 16, .bin .shr (.t 15) (.c (.int .u64 8)), none, false⟩, ⟨some 0, .mov (.t 16), none, false⟩] [0, 2]) (.reg [⟨some 17, .mov (.t 2), none, false⟩, ⟨some 18, .bin .add (.t 17) (.c (.int .i64 8)), none, false⟩, ⟨some 2, .mov (.t 18), none, false⟩] [0, 2])) .skip)) (.seq (.reg [⟨some 19, .mov (.t 2), none, false⟩, ⟨some 20, .mov (.t 0), none, false⟩, ⟨some 21, .toint .u8 (.t 20), none, false⟩, ⟨some 22, .idxs (.c (.str ⟨#[0, 1, 2, 2, 3, 3, 3, 3, 4, 4, 4, 4, 4, 4, 4, 4, 5, 5, 5, 5, 5, 5, 5, 5, 5, 5, 5, 5, 5, 5, 5, 5, 6, 6, 6, 6, 6, 6, 6, 6, 6, 6, 6, 6, 6, 6, 6, 6, 6, 6, 6, 6, 6, 6, 6, 6, 6, 6, 6, 6, 6, 6, 6, 6, 7, 7, 7, 7, 7, 7, 7, 7, 7, 7, 7, 7, 7, 7, 7, 7, 7, 7, 7, 7, 7, 7, 7, 7, 7, 7, 7, 7, 7, 7, 7, 7, 7, 7, 7, 7, 7, 7, 7, 7, 7, 7, 7, 7, 7, 7, 7, 7, 7, 7, 7, 7, 7, 7, 7, 7, 7, 7, 7, 7, 7, 7, 7, 7, 8, 8, 8, 8, 8, 8, 8, 8, 8, 8, 8, 8, 8, 8, 8, 8, 8, 8, 8, 8, 8, 8, 8, 8, 8, 8, 8, 8, 8, 8, 8, 8, 8, 8, 8, 8, 8, 8, 8, 8, 8, 8, 8, 8, 8, 8, 8, 8, 8, 8, 8, 8, 8, 8, 8, 8, 8, 8, 8, 8, 8, 8, 8, 8, 8, 8, 8, 8, 8, 8, 8, 8, 8, 8, 8, 8, 8, 8, 8, 8, 8, 8, 8, 8, 8, 8, 8, 8, 8, 8, 8, 8, 8, 8, 8, 8, 8, 8, 8, 8, 8, 8, 8, 8, 8, 8, 8, 8, 8, 8, 8, 8, 8, 8, 8, 8, 8, 8, 8, 8, 8, 8, 8, 8, 8, 8, 8, 8]⟩)) (.t 21), none, false⟩, ⟨some 23, .toint .i64 (.t 22), none, false⟩, ⟨some 24, .bin .add (.t 19) (.t 23), none, false⟩, ⟨some 2, .mov (.t 24), none, false⟩] [2]) .ret))))
def x128 : XF := ⟨1, b128, [.t 2]⟩
def h128 : Yv := fun id => match id with
  | 0 => [0, 2]
  | 1 => [0, 2, 4]
  | 2 => [0]
  | 3 => [0, 2]
  | 4 => [0, 2, 8]
  | 5 => [0, 2]
  | 6 => [0, 2]
  | 7 => [0, 2, 14]
  | 8 => [0, 2]
  | 9 => [0, 2]
  | 10 => [2]
  | _ => []
theorem cv128 : cvF Tryd.prog h128 Tryd.f128 = some x128 := by kernel_rfl

/-- winnower/bits.number$1 -/
def b129 : XC := .reg [⟨some 6, .load false 1 (.t 2), none, false⟩, ⟨some 7, .load false 1 (.t 3), none, false⟩, ⟨some 8, .mov (.t 0), none, false⟩, ⟨some 9, .bin .quo (.t 8) (.c (.int .i64 8)), none, false⟩, ⟨some 10, .iaddr 1 (.t 7) (.t 9), none, false⟩, ⟨some 11, .load false 1 (.t 10), none, false⟩, ⟨some 12, .mov (.t 0), none, false⟩, ⟨some 13, .bin .rem (.t 12) (.c (.int .i64 8)), none, false⟩, ⟨some 14, .bin .shr (.t 11) (.t 13), none, false⟩, ⟨some 15, .bin .and (.t 14) (.c (.int .u8 1)), none, false⟩, ⟨some 16, .toint .i64 (.t 15), none, false⟩, ⟨some 17, .mov (.t 1), none, false⟩, ⟨some 18, .bin .shl (.t 16) (.t 17), none, false⟩, ⟨some 19, .bin .or (.t 6) (.t 18), none, false⟩, ⟨none, .store 1 (.t 2) (.t 19), none, false⟩] []
def x129 : XF := ⟨4, b129, []⟩
def h129 : Yv := fun id => match id with
  | _ => []
theorem cv129 : cvF Tryd.prog h129 Tryd.f129 = some x129 := by kernel_rfl

/-- slices.insertionSortCmpFunc[winnower/api.Value] -/
def lp131_1 : XC := .seq (.seq (.reg [⟨some 18, .mov (.t 9), none, false⟩, ⟨some 19, .mov (.t 1), none, false⟩, ⟨some 20, .bin .gtr (.t 18) (.t 19), none, false⟩, ⟨some 21, .mov (.t 20), none, false⟩, ⟨some 22, .mov (.t 3), some (21, true), false⟩, ⟨some 23, .mov (.t 0), some (21, true), false⟩, ⟨some 24, .mov (.t 9), some (21, true), false⟩, ⟨some 25, .iaddr 4 (.t 23) (.t 24), some (21, true), false⟩, ⟨some 26, .load true 4 (.t 25), some (21, true), false⟩, ⟨some 27, .mov (.t 0), some (21, true), false⟩, ⟨some 28, .mov (.t 9), some (21, true), false⟩, ⟨some 29, .bin .sub (.t 28) (.c (.int .i64 1)), some (21, true), false⟩, ⟨some 30, .iaddr 4 (.t 27) (.t 29), some (21, true), false⟩, ⟨some 31, .load true 4 (.t 30), some (21, true), false⟩, ⟨some 32, .call (.t 22) [.t 26, .t 31], some (21, true), false⟩, ⟨some 33, .bin .lss (.t 32) (.c (.int .i64 0)), some (21, true), false⟩, ⟨some 34, .pick (.t 21) (.t 33) (.c (.bool false)), none, false⟩] [0, 1, 2, 3, 8, 9, 34]) (.cond (.t 34) .skip (.exit 2))) (.seq (.block 3 (.reg [⟨some 37, .mov (.t 0), none, false⟩, ⟨some 38, .mov (.t 9), none, false⟩, ⟨some 39, .mov (.t 0), none, false⟩, ⟨some 40, .mov (.t 9), none, false⟩, ⟨some 41, .bin .sub (.t 40) (.c (.int .i64 1)), none, false⟩, ⟨some 42, .mov (.t 0), none, false⟩, ⟨some 43, .mov (.t 9), none, false⟩, ⟨some 44, .bin .sub (.t 43) (.c (.int .i64 1)), none, false⟩, ⟨some 45, .iaddr 4 (.t 42) (.t 44), none, false⟩, ⟨some 46, .load true 4 (.t 45), none, false⟩, ⟨some 47, .mov (.t 0), none, false⟩, ⟨some 48, .mov (.t 9), none, false⟩, ⟨some 49, .iaddr 4 (.t 47) (.t 48), none, false⟩, ⟨some 50, .load true 4 (.t 49), none, false⟩, ⟨some 51, .iaddr 4 (.t 37) (.t 38), none, false⟩, ⟨none, .store 4 (.t 51) (.t 46), none, false⟩, ⟨some 52, .iaddr 4 (.t 39) (.t 41), none, false⟩, ⟨none, .store 4 (.t 52) (.t 50), none, false⟩] [0, 1, 2, 3, 8, 9])) (.reg [⟨some 35, .mov (.t 9), none, false⟩, ⟨some 36, .bin .sub (.t 35) (.c (.int .i64 1)), none, false⟩, ⟨some 9, .mov (.t 36), none, false⟩] [0, 1, 2, 3, 8, 9]))
def lp131_0 : XC := .seq (.seq (.reg [⟨some 12, .mov (.t 8), none, false⟩, ⟨some 13, .mov (.t 2), none, false⟩, ⟨some 14, .bin .lss (.t 12) (.t 13), none, false⟩] [0, 1, 2, 3, 8, 14]) (.cond (.t 14) .skip (.exit 0))) (.seq (.block 1 (.seq (.reg [⟨some 17, .mov (.t 8), none, false⟩, ⟨some 9, .mov (.t 17), none, false⟩] [0, 1, 2, 3, 8, 9]) (.block 2 (.loop lp131_1)))) (.reg [⟨some 15, .mov (.t 8), none, false⟩, ⟨some 16, .bin .add (.t 15) (.c (.int .i64 1)), none, false⟩, ⟨some 8, .mov (.t 16), none, false⟩] [0, 1, 2, 3, 8]))
def b131 : XC := .seq (.reg [⟨some 10, .mov (.t 1), none, false⟩, ⟨some 11, .bin .add (.t 10) (.c (.int .i64 1)), none, false⟩, ⟨some 8, .mov (.t 11), none, false⟩] [0, 1, 2, 3, 8]) (.block 0 (.loop lp131_0))
def x131 : XF := ⟨4, b131, []⟩
def h131 : Yv := fun id => match id with
  | 0 => [0, 1, 2, 3, 8]
  | 1 => [0, 1, 2, 3, 8, 14]
  | 2 => [0, 1, 2, 3, 8]
  | 3 => [0, 1, 2, 3, 8, 9]
  | 4 => [0, 1, 2, 3, 8, 9, 34]
  | 5 => [0, 1, 2, 3, 8, 9]
  | 6 => [0, 1, 2, 3, 8, 9]
  | _ => []
theorem cv131 : cvF Tryd.prog h131 Tryd.f131 = some x131 := by kernel_rfl

/-- slices.heapSortCmpFunc[winnower/api.Value] -/
def lp132_0 : XC := .seq (.seq (.reg [⟨some 20, .mov (.t 11), none, false⟩, ⟨some 21, .bin .geq (.t 20) (.c (.int .i64 0)), none, false⟩] [0, 3, 8, 9, 10, 11, 21]) (.cond (.t 21) .skip (.exit 0))) (.seq (.block 1 (.reg [⟨some 24, .mov (.t 0), none, false⟩, ⟨some 25, .mov (.t 11), none, false⟩, ⟨some 26, .mov (.t 10), none, false⟩, ⟨some 27, .mov (.t 8), none, false⟩, ⟨some 28, .mov (.t 3), none, false⟩, ⟨some 29, .call (.c (.func 142 [] [])) [.t 24, .t 25, .t 26, .t 27, .t 28], none, false⟩] [0, 3, 8, 9, 10, 11])) (.reg [⟨some 22, .mov (.t 11), none, false⟩, ⟨some 23, .bin .sub (.t 22) (.c (.int .i64 1)), none, false⟩, ⟨some 11, .mov (.t 23), none, false⟩] [0, 3, 8, 9, 10, 11]))
def lp132_1 : XC := .seq (.seq (.reg [⟨some 32, .mov (.t 12), none, false⟩, ⟨some 33, .bin .geq (.t 32) (.c (.int .i64 0)), none, false⟩] [0, 3, 8, 9, 12, 33]) (.cond (.t 33) .skip (.exit 2))) (.seq (.block 3 (.seq (.reg [⟨some 36, .mov (.t 0), none, false⟩, ⟨some 37, .mov (.t 8), none, false⟩, ⟨some 38, .mov (.t 0), none, false⟩, ⟨some 39, .mov (.t 8), none, false⟩, ⟨some 40, .mov (.t 12), none, false⟩, ⟨some 41, .bin .add (.t 39) (.t 40), none, false⟩, ⟨some 42, .mov (.t 0), none, false⟩, ⟨some 43, .mov (.t 8), none, false⟩, ⟨some 44, .mov (.t 12), none, false⟩, ⟨some 45, .bin .add (.t 43) (.t 44), none, false⟩, ⟨some 46, .iaddr 4 (.t 42) (.t 45), none, false⟩, ⟨some 47, .load true 4 (.t 46), none, false⟩, ⟨some 48, .mov (.t 0), none, false⟩, ⟨some 49, .mov (.t 8), none, false⟩, ⟨some 50, .iaddr 4 (.t 48) (.t 49), none, false⟩, ⟨some 51, .load true 4 (.t 50), none, false⟩, ⟨some 52, .iaddr 4 (.t 36) (.t 37), none, false⟩, ⟨none, .store 4 (.t 52) (.t 47), none, false⟩, ⟨some 53, .iaddr 4 (.t 38) (.t 41), none, false⟩, ⟨none, .store 4 (.t 53) (.t 51), none, false⟩] [0, 3, 8, 9, 12]) (.reg [⟨some 54, .mov (.t 0), none, false⟩, ⟨some 55, .mov (.t 9), none, false⟩, ⟨some 56, .mov (.t 12), none, false⟩, ⟨some 57, .mov (.t 8), none, false⟩, ⟨some 58, .mov (.t 3), none, false⟩, ⟨some 59, .call (.c (.func 142 [] [])) [.t 54, .t 55, .t 56, .t 57, .t 58], none, false⟩] [0, 3, 8, 9, 12]))) (.reg [⟨some 34, .mov (.t 12), none, false⟩, ⟨some 35, .bin .sub (.t 34) (.c (.int .i64 1)), none, false⟩, ⟨some 12, .mov (.t 35), none, false⟩] [0, 3, 8, 9, 12]))
def b132 : XC := .seq (.reg [⟨some 13, .mov (.t 1), none, false⟩, ⟨some 8, .mov (.t 13), none, false⟩] [0, 1, 2, 3, 8]) (.seq (.reg [⟨some 9, .mov (.c (.int .i64 0)), none, false⟩] [0, 1, 2, 3, 8, 9]) (.seq (.reg [⟨some 14, .mov (.t 2), none, false⟩, ⟨some 15, .mov (.t 1), none, false⟩, ⟨some 16, .bin .sub (.t 14) (.t 15), none, false⟩, ⟨some 10, .mov (.t 16), none, false⟩] [0, 3, 8, 9, 10]) (.seq (.seq (.reg [⟨some 17, .mov (.t 10), none, false⟩, ⟨some 18, .bin .sub (.t 17) (.c (.int .i64 1)), none, false⟩, ⟨some 19, .bin .quo (.t 18) (.c (.int .i64 2)), none, false⟩, ⟨some 11, .mov (.t 19), none, false⟩] [0, 3, 8, 9, 10, 11]) (.block 0 (.loop lp132_0))) (.seq (.reg [⟨some 30, .mov (.t 10), none, false⟩, ⟨some 31, .bin .sub (.t 30) (.c (.int .i64 1)), none, false⟩, ⟨some 12, .mov (.t 31), none, false⟩] [0, 3, 8, 9, 12]) (.block 2 (.loop lp132_1))))))
def x132 : XF := ⟨4, b132, []⟩
def h132 : Yv := fun id => match id with
  | 0 => [0, 1, 2, 3, 8]
  | 1 => [0, 1, 2, 3, 8, 9]
  | 2 => [0, 3, 8, 9, 10]
  | 3 => [0, 3, 8, 9, 10, 11]
  | 4 => [0, 3, 8, 9, 10, 11, 21]
  | 5 => [0, 3, 8, 9, 10, 11]
  | 6 => [0, 3, 8, 9, 10, 11]
  | 7 => [0, 3, 8, 9, 12]
  | 8 => [0, 3, 8, 9, 12, 33]
  | 9 => [0, 3, 8, 9, 12]
  | 10 => [0, 3, 8, 9, 12]
  | 11 => [0, 3, 8, 9, 12]
  | _ => []
theorem cv132 : cvF Tryd.prog h132 Tryd.f132 = some x132 := by kernel_rfl

/-- slices.breakPatternsCmpFunc[winnower/api.Value] -/
def lp133_0 : XC := .seq (.seq (.reg [⟨some 28, .mov (.t 11), none, false⟩, ⟨some 29, .mov (.t 1), none, false⟩, ⟨some 30, .mov (.t 8), none, false⟩, ⟨some 31, .bin .quo (.t 30) (.c (.int .i64 4)), none, false⟩, ⟨some 32, .bin .mul (.t 31) (.c (.int .i64 2)), none, false⟩, ⟨some 33, .bin .add (.t 29) (.t 32), none, false⟩, ⟨some 34, .bin .add (.t 33) (.c (.int .i64 1)), none, false⟩, ⟨some 35, .bin .leq (.t 28) (.t 34), none, false⟩] [0, 1, 8, 9, 10, 11, 35]) (.cond (.t 35) .skip (.exit 0))) (.seq (.block 1 (.seq (.reg [⟨some 38, .call (.c (.func 144 [] [])) [.t 9], none, false⟩, ⟨some 39, .mov (.t 10), none, false⟩, ⟨some 40, .bin .sub (.t 39) (.c (.int .u64 1)), none, false⟩, ⟨some 41, .bin .and (.t 38) (.t 40), none, false⟩, ⟨some 42, .toint .i64 (.t 41), none, false⟩, ⟨some 12, .mov (.t 42), none, false⟩] [0, 1, 8, 9, 10, 11, 12]) (.seq (.seq (.reg [⟨some 43, .mov (.t 12), none, false⟩, ⟨some 44, .mov (.t 8), none, false⟩, ⟨some 45, .bin .geq (.t 43) (.t 44), none, false⟩] [0, 1, 8, 9, 10, 11, 12, 45]) (.cond (.t 45) (.reg [⟨some 46, .mov (.t 12), none, false⟩, ⟨some 47, .mov (.t 8), none, false⟩, ⟨some 48, .bin .sub (.t 46) (.t 47), none, false⟩, ⟨some 12, .mov (.t 48), none, false⟩] [0, 1, 8, 9, 10, 11, 12]) .skip)) (.reg [⟨some 49, .mov (.t 0), none, false⟩, ⟨some 50, .mov (.t 11), none, false⟩, ⟨some 51, .mov (.t 0), none, false⟩, ⟨some 52, .mov (.t 1), none, false⟩, ⟨some 53, .mov (.t 12), none, false⟩, ⟨some 54, .bin .add (.t 52) (.t 53), none, false⟩, ⟨some 55, .mov (.t 0), none, false⟩, ⟨some 56, .mov (.t 1), none, false⟩, ⟨some 57, .mov (.t 12), none, false⟩, ⟨some 58, .bin .add (.t 56) (.t 57), none, false⟩, ⟨some 59, .iaddr 4 (.t 55) (.t 58), none, false⟩, ⟨some 60, .load true 4 (.t 59), none, false⟩, ⟨some 61, .mov (.t 0), none, false⟩, ⟨some 62, .mov (.t 11), none, false⟩, ⟨some 63, .iaddr 4 (.t 61) (.t 62), none, false⟩, ⟨some 64, .load true 4 (.t 63), none, false⟩, ⟨some 65, .iaddr 4 (.t 49) (.t 50), none, false⟩, ⟨none, .store 4 (.t 65) (.t 60), none, false⟩, ⟨some 66, .iaddr 4 (.t 51) (.t 54), none, false⟩, ⟨none, .store 4 (.t 66) (.t 64), none, false⟩] [0, 1, 8, 9, 10, 11])))) (.reg [⟨some 36, .mov (.t 11), none, false⟩, ⟨some 37, .bin .add (.t 36) (.c (.int .i64 1)), none, false⟩, ⟨some 11, .mov (.t 37), none, false⟩] [0, 1, 8, 9, 10, 11]))
def b133 : XC := .seq (.reg [⟨some 13, .mov (.t 2), none, false⟩, ⟨some 14, .mov (.t 1), none, false⟩, ⟨some 15, .bin .sub (.t 13) (.t 14), none, false⟩, ⟨some 8, .mov (.t 15), none, false⟩] [0, 1, 8]) (.seq (.reg [⟨some 16, .mov (.t 8), none, false⟩, ⟨some 17, .bin .geq (.t 16) (.c (.int .i64 8)), none, false⟩] [0, 1, 8, 17]) (.cond (.t 17) (.seq (.reg [⟨some 18, .mov (.t 8), none, false⟩, ⟨some 19, .toint .u64 (.t 18), none, false⟩, ⟨some 9, .alloc 155 [.int .u64 0], none, false⟩, ⟨none, .store 1 (.t 9) (.t 19), none, false⟩] [0, 1, 8, 9]) (.seq (.reg [⟨some 20, .mov (.t 8), none, false⟩, ⟨some 21, .call (.c (.func 143 [] [])) [.t 20], none, false⟩, ⟨some 10, .mov (.t 21), none, false⟩] [0, 1, 8, 9, 10]) (.seq (.reg [⟨some 22, .mov (.t 1), none, false⟩, ⟨some 23, .mov (.t 8), none, false⟩, ⟨some 24, .bin .quo (.t 23) (.c (.int .i64 4)), none, false⟩, ⟨some 25, .bin .mul (.t 24) (.c (.int .i64 2)), none, false⟩, ⟨some 26, .bin .add (.t 22) (.t 25), none, false⟩, ⟨some 27, .bin .sub (.t 26) (.c (.int .i64 1)), none, false⟩, ⟨some 11, .mov (.t 27), none, false⟩] [0, 1, 8, 9, 10, 11]) (.block 0 (.loop lp133_0))))) .skip))
def x133 : XF := ⟨4, b133, []⟩
def h133 : Yv := fun id => match id with
  | 0 => [0, 1, 8]
  | 1 => [0, 1, 8, 17]
  | 2 => [0, 1, 8, 9]
  | 3 => [0, 1, 8, 9, 10]
  | 4 => [0, 1, 8, 9, 10, 11]
  | 5 => [0, 1, 8, 9, 10, 11, 35]
  | 6 => [0, 1, 8, 9, 10, 11]
  | 7 => [0, 1, 8, 9, 10, 11, 12]
  | 8 => [0, 1, 8, 9, 10, 11, 12, 45]
  | 9 => [0, 1, 8, 9, 10, 11, 12]
  | 10 => [0, 1, 8, 9, 10, 11]
  | _ => []
theorem cv133 : cvF Tryd.prog h133 Tryd.f133 = some x133 := by kernel_rfl

/-- slices.choosePivotCmpFunc[winnower/api.Value] -/
def b134 : XC := .seq (.reg [⟨some 8, .mov (.c (.int .i64 0)), none, false⟩, ⟨some 9, .mov (.c (.int .i64 0)), none, false⟩] [0, 1, 2, 3]) (.seq (.reg [⟨some 15, .mov (.t 2), none, false⟩, ⟨some 16, .mov (.t 1), none, false⟩, ⟨some 17, .bin .sub (.t 15) (.t 16), none, false⟩, ⟨some 10, .mov (.t 17), none, false⟩] [0, 1, 3, 10]) (.seq (.reg [⟨some 11, .alloc 3 [.int .i64 0], none, false⟩] [0, 1, 3, 10, 11]) (.seq (.reg [⟨some 18, .mov (.t 1), none, false⟩, ⟨some 19, .mov (.t 10), none, false⟩, ⟨some 20, .bin .quo (.t 19) (.c (.int .i64 4)), none, false⟩, ⟨some 21, .bin .mul (.t 20) (.c (.int .i64 1)), none, false⟩, ⟨some 22, .bin .add (.t 18) (.t 21), none, false⟩, ⟨some 12, .mov (.t 22), none, false⟩] [0, 1, 3, 10, 11, 12]) (.seq (.reg [⟨some 23, .mov (.t 1), none, false⟩, ⟨some 24, .mov (.t 10), none, false⟩, ⟨some 25, .bin .quo (.t 24) (.c (.int .i64 4)), none, false⟩, ⟨some 26, .bin .mul (.t 25) (.c (.int .i64 2)), none, false⟩, ⟨some 27, .bin .add (.t 23) (.t 26), none, false⟩, ⟨some 13, .mov (.t 27), none, false⟩] [0, 1, 3, 10, 11, 12, 13]) (.seq (.reg [⟨some 28, .mov (.t 1), none, false⟩, ⟨some 29, .mov (.t 10), none, false⟩, ⟨some 30, .bin .quo (.t 29) (.c (.int .i64 4)), none, false⟩, ⟨some 31, .bin .mul (.t 30) (.c (.int .i64 3)), none, false⟩, ⟨some 32, .bin .add (.t 28) (.t 31), none, false⟩, ⟨some 14, .mov (.t 32), none, false⟩] [0, 3, 10, 11, 12, 13, 14]) (.seq (.seq (.reg [⟨some 33, .mov (.t 10), none, false⟩, ⟨some 34, .bin .geq (.t 33) (.c (.int .i64 8)), none, false⟩] [0, 3, 10, 11, 12, 13, 14, 34]) (.cond (.t 34) (.seq (.seq (.reg [⟨some 35, .mov (.t 10), none, false⟩, ⟨some 36, .bin .geq (.t 35) (.c (.int .i64 50)), none, false⟩] [0, 3, 11, 12, 13, 14, 36]) (.cond (.t 36) (.seq (.reg [⟨some 37, .mov (.t 0), none, false⟩, ⟨some 38, .mov (.t 12), none, false⟩, ⟨some 39, .mov (.t 3), none, false⟩, ⟨some 40, .call (.c (.func 145 [] [])) [.t 37, .t 38, .t 11, .t 39], none, false⟩, ⟨some 12, .mov (.t 40), none, false⟩] [0, 3, 11, 12, 13, 14]) (.seq (.reg [⟨some 41, .mov (.t 0), none, false⟩, ⟨some 42, .mov (.t 13), none, false⟩, ⟨some 43, .mov (.t 3), none, false⟩, ⟨some 44, .call (.c (.func 145 [] [])) [.t 41, .t 42, .t 11, .t 43], none, false⟩, ⟨some 13, .mov (.t 44), none, false⟩] [0, 3, 11, 12, 13, 14]) (.reg [⟨some 45, .mov (.t 0), none, false⟩, ⟨some 46, .mov (.t 14), none, false⟩, ⟨some 47, .mov (.t 3), none, false⟩, ⟨some 48, .call (.c (.func 145 [] [])) [.t 45, .t 46, .t 11, .t 47], none, false⟩, ⟨some 14, .mov (.t 48), none, false⟩] [0, 3, 11, 12, 13, 14]))) .skip)) (.reg [⟨some 49, .mov (.t 0), none, false⟩, ⟨some 50, .mov (.t 12), none, false⟩, ⟨some 51, .mov (.t 13), none, false⟩, ⟨some 52, .mov (.t 14), none, false⟩, ⟨some 53, .mov (.t 3), none, false⟩, ⟨some 54, .call (.c (.func 146 [] [])) [.t 49, .t 50, .t 51, .t 52, .t 11, .t 53], none, false⟩, ⟨some 13, .mov (.t 54), none, false⟩] [11, 13])) .skip)) (.seq (.reg [⟨some 55, .load false 1 (.t 11), none, false⟩] [13, 55]) (.block 0 (.seq (.reg [⟨some 58, .bin .eql (.t 55) (.c (.int .i64 0)), none, false⟩, ⟨some 57, .mov (.t 58), none, false⟩] [13, 55, 57]) (.cond (.t 57) (.seq (.reg [⟨some 59, .mov (.t 13), none, false⟩, ⟨some 8, .mov (.t 59), none, false⟩, ⟨some 9, .mov (.c (.int .i64 1)), none, false⟩] [8, 9]) .ret) (.seq (.reg [⟨some 61, .bin .eql (.t 55) (.c (.int .i64 12)), none, false⟩, ⟨some 60, .mov (.t 61), none, false⟩] [13, 60]) (.cond (.t 60) (.seq (.reg [⟨some 62, .mov (.t 13), none, false⟩, ⟨some 8, .mov (.t 62), none, false⟩, ⟨some 9, .mov (.c (.int .i64 2)), none, false⟩] [8, 9]) .ret) (.seq (.reg [⟨some 56, .mov (.t 13), none, false⟩, ⟨some 8, .mov (.t 56), none, false⟩, ⟨some 9, .mov (.c (.int .i64 0)), none, false⟩] [8, 9]) .ret)))))))))))))
def x134 : XF := ⟨4, b134, [.t 8, .t 9]⟩
def h134 : Yv := fun id => match id with
  | 0 => [0, 1, 2, 3]
  | 1 => [0, 1, 3, 10]
  | 2 => [0, 1, 3, 10, 11]
  | 3 => [0, 1, 3, 10, 11, 12]
  | 4 => [0, 1, 3, 10, 11, 12, 13]
  | 5 => [0, 3, 10, 11, 12, 13, 14]
  | 6 => [0, 3, 10, 11, 12, 13, 14, 34]
  | 7 => [0, 3, 11, 12, 13, 14, 36]
  | 8 => [0, 3, 11, 12, 13, 14]
  | 9 => [0, 3, 11, 12, 13, 14]
  | 10 => [0, 3, 11, 12, 13, 14]
  | 11 => [11, 13]
  | 12 => [13, 55]
  | 13 => [8, 9]
  | 14 => [13, 55, 57]
  | 15 => [8, 9]
  | 16 => [13, 60]
  | 17 => [8, 9]
  | _ => []
theorem cv134 : cvF Tryd.prog h134 Tryd.f134 = some x134 := by kernel_rfl

/-- slices.reverseRangeCmpFunc[winnower/api.Value] -/
def lp135_0 : XC := .seq (.seq (.reg [⟨some 13, .mov (.t 8), none, false⟩, ⟨some 14, .mov (.t 9), none, false⟩, ⟨some 15, .bin .lss (.t 13) (.t 14), none, false⟩] [0, 8, 9, 15]) (.cond (.t 15) .skip (.exit 0))) (.block 1 (.seq (.reg [⟨some 16, .mov (.t 0), none, false⟩, ⟨some 17, .mov (.t 8), none, false⟩, ⟨some 18, .mov (.t 0), none, false⟩, ⟨some 19, .mov (.t 9), none, false⟩, ⟨some 20, .mov (.t 0), none, false⟩, ⟨some 21, .mov (.t 9), none, false⟩, ⟨some 22, .iaddr 4 (.t 20) (.t 21), none, false⟩, ⟨some 23, .load true 4 (.t 22), none, false⟩, ⟨some 24, .mov (.t 0), none, false⟩, ⟨some 25, .mov (.t 8), none, false⟩, ⟨some 26, .iaddr 4 (.t 24) (.t 25), none, false⟩, ⟨some 27, .load true 4 (.t 26), none, false⟩, ⟨some 28, .iaddr 4 (.t 16) (.t 17), none, false⟩, ⟨none, .store 4 (.t 28) (.t 23), none, false⟩, ⟨some 29, .iaddr 4 (.t 18) (.t 19), none, false⟩, ⟨none, .store 4 (.t 29) (.t 27), none, false⟩] [0, 8, 9]) (.seq (.reg [⟨some 30, .mov (.t 8), none, false⟩, ⟨some 31, .bin .add (.t 30) (.c (.int .i64 1)), none, false⟩, ⟨some 8, .mov (.t 31), none, false⟩] [0, 8, 9]) (.reg [⟨some 32, .mov (.t 9), none, false⟩, ⟨some 33, .bin .sub (.t 32) (.c (.int .i64 1)), none, false⟩, ⟨some 9, .mov (.t 33), none, false⟩] [0, 8, 9]))))
def b135 : XC := .seq (.reg [⟨some 10, .mov (.t 1), none, false⟩, ⟨some 8, .mov (.t 10), none, false⟩] [0, 2, 8]) (.seq (.reg [⟨some 11, .mov (.t 2), none, false⟩, ⟨some 12, .bin .sub (.t 11) (.c (.int .i64 1)), none, false⟩, ⟨some 9, .mov (.t 12), none, false⟩] [0, 8, 9]) (.block 0 (.loop lp135_0)))
def x135 : XF := ⟨4, b135, []⟩
def h135 : Yv := fun id => match id with
  | 0 => [0, 2, 8]
  | 1 => [0, 8, 9]
  | 2 => [0, 8, 9, 15]
  | 3 => [0, 8, 9]
  | 4 => [0, 8, 9]
  | 5 => [0, 8, 9]
  | _ => []
theorem cv135 : cvF Tryd.prog h135 Tryd.f135 = some x135 := by kernel_rfl

/-- slices.partialInsertionSortCmpFunc[winnower/api.Value] -/
def lp136_1 : XC := .seq (.seq (.reg [⟨some 19, .mov (.t 9), none, false⟩, ⟨some 20, .mov (.t 2), none, false⟩, ⟨some 21, .bin .lss (.t 19) (.t 20), none, false⟩, ⟨some 22, .mov (.t 21), none, false⟩, ⟨some 23, .mov (.t 3), some (22, true), false⟩, ⟨some 24, .mov (.t 0), some (22, true), false⟩, ⟨some 25, .mov (.t 9), some (22, true), false⟩, ⟨some 26, .iaddr 4 (.t 24) (.t 25), some (22, true), false⟩, ⟨some 27, .load true 4 (.t 26), some (22, true), false⟩, ⟨some 28, .mov (.t 0), some (22, true), false⟩, ⟨some 29, .mov (.t 9), some (22, true), false⟩, ⟨some 30, .bin .sub (.t 29) (.c (.int .i64 1)), some (22, true), false⟩, ⟨some 31, .iaddr 4 (.t 28) (.t 30), some (22, true), false⟩, ⟨some 32, .load true 4 (.t 31), some (22, true), false⟩, ⟨some 33, .call (.t 23) [.t 27, .t 32], some (22, true), false⟩, ⟨some 34, .bin .lss (.t 33) (.c (.int .i64 0)), some (22, true), false⟩, ⟨some 35, .un .not (.t 34), some (22, true), false⟩, ⟨some 36, .pick (.t 22) (.t 35) (.c (.bool false)), none, false⟩] [0, 1, 2, 3, 9, 10, 36]) (.cond (.t 36) .skip (.exit 2))) (.block 3 (.reg [⟨some 37, .mov (.t 9), none, false⟩, ⟨some 38, .bin .add (.t 37) (.c (.int .i64 1)), none, false⟩, ⟨some 9, .mov (.t 38), none, false⟩] [0, 1, 2, 3, 9, 10]))
def lp136_2 : XC := .seq (.seq (.reg [⟨some 68, .mov (.t 11), none, false⟩, ⟨some 69, .bin .geq (.t 68) (.c (.int .i64 1)), none, false⟩] [0, 1, 2, 3, 9, 10, 11, 69]) (.cond (.t 69) .skip (.exit 4))) (.seq (.block 5 (.seq (.seq (.reg [⟨some 72, .mov (.t 3), none, false⟩, ⟨some 73, .mov (.t 0), none, false⟩, ⟨some 74, .mov (.t 11), none, false⟩, ⟨some 75, .iaddr 4 (.t 73) (.t 74), none, false⟩, ⟨some 76, .load true 4 (.t 75), none, false⟩, ⟨some 77, .mov (.t 0), none, false⟩, ⟨some 78, .mov (.t 11), none, false⟩, ⟨some 79, .bin .sub (.t 78) (.c (.int .i64 1)), none, false⟩, ⟨some 80, .iaddr 4 (.t 77) (.t 79), none, false⟩, ⟨some 81, .load true 4 (.t 80), none, false⟩, ⟨some 82, .call (.t 72) [.t 76, .t 81], none, false⟩, ⟨some 83, .bin .lss (.t 82) (.c (.int .i64 0)), none, false⟩, ⟨some 84, .un .not (.t 83), none, false⟩] [0, 1, 2, 3, 9, 10, 11, 84]) (.cond (.t 84) (.exit 4) .skip)) (.reg [⟨some 85, .mov (.t 0), none, false⟩, ⟨some 86, .mov (.t 11), none, false⟩, ⟨some 87, .mov (.t 0), none, false⟩, ⟨some 88, .mov (.t 11), none, false⟩, ⟨some 89, .bin .sub (.t 88) (.c (.int .i64 1)), none, false⟩, ⟨some 90, .mov (.t 0), none, false⟩, ⟨some 91, .mov (.t 11), none, false⟩, ⟨some 92, .bin .sub (.t 91) (.c (.int .i64 1)), none, false⟩, ⟨some 93, .iaddr 4 (.t 90) (.t 92), none, false⟩, ⟨some 94, .load true 4 (.t 93), none, false⟩, ⟨some 95, .mov (.t 0), none, false⟩, ⟨some 96, .mov (.t 11), none, false⟩, ⟨some 97, .iaddr 4 (.t 95) (.t 96), none, false⟩, ⟨some 98, .load true 4 (.t 97), none, false⟩, ⟨some 99, .iaddr 4 (.t 85) (.t 86), none, false⟩, ⟨none, .store 4 (.t 99) (.t 94), none, false⟩, ⟨some 100, .iaddr 4 (.t 87) (.t 89), none, false⟩, ⟨none, .store 4 (.t 100) (.t 98), none, false⟩] [0, 1, 2, 3, 9, 10, 11]))) (.reg [⟨some 70, .mov (.t 11), none, false⟩, ⟨some 71, .bin .sub (.t 70) (.c (.int .i64 1)), none, false⟩, ⟨some 11, .mov (.t 71), none, false⟩] [0, 1, 2, 3, 9, 10, 11]))
def lp136_3 : XC := .seq (.seq (.reg [⟨some 107, .mov (.t 12), none, false⟩, ⟨some 108, .mov (.t 2), none, false⟩, ⟨some 109, .bin .lss (.t 107) (.t 108), none, false⟩] [0, 1, 2, 3, 9, 10, 12, 109]) (.cond (.t 109) .skip (.exit 6))) (.seq (.block 7 (.seq (.seq (.reg [⟨some 112, .mov (.t 3), none, false⟩, ⟨some 113, .mov (.t 0), none, false⟩, ⟨some 114, .mov (.t 12), none, false⟩, ⟨some 115, .iaddr 4 (.t 113) (.t 114), none, false⟩, ⟨some 116, .load true 4 (.t 115), none, false⟩, ⟨some 117, .mov (.t 0), none, false⟩, ⟨some 118, .mov (.t 12), none, false⟩, ⟨some 119, .bin .sub (.t 118) (.c (.int .i64 1)), none, false⟩, ⟨some 120, .iaddr 4 (.t 117) (.t 119), none, false⟩, ⟨some 121, .load true 4 (.t 120), none, false⟩, ⟨some 122, .call (.t 112) [.t 116, .t 121], none, false⟩, ⟨some 123, .bin .lss (.t 122) (.c (.int .i64 0)), none, false⟩, ⟨some 124, .un .not (.t 123), none, false⟩] [0, 1, 2, 3, 9, 10, 12, 124]) (.cond (.t 124) (.exit 6) .skip)) (.reg [⟨some 125, .mov (.t 0), none, false⟩, ⟨some 126, .mov (.t 12), none, false⟩, ⟨some 127, .mov (.t 0), none, false⟩, ⟨some 128, .mov (.t 12), none, false⟩, ⟨some 129, .bin .sub (.t 128) (.c (.int .i64 1)), none, false⟩, ⟨some 130, .mov (.t 0), none, false⟩, ⟨some 131, .mov (.t 12), none, false⟩, ⟨some 132, .bin .sub (.t 131) (.c (.int .i64 1)), none, false⟩, ⟨some 133, .iaddr 4 (.t 130) (.t 132), none, false⟩, ⟨some 134, .load true 4 (.t 133), none, false⟩, ⟨some 135, .mov (.t 0), none, false⟩, ⟨some 136, .mov (.t 12), none, false⟩, ⟨some 137, .iaddr 4 (.t 135) (.t 136), none, false⟩, ⟨some 138, .load true 4 (.t 137), none, false⟩, ⟨some 139, .iaddr 4 (.t 125) (.t 126), none, false⟩, ⟨none, .store 4 (.t 139) (.t 134), none, false⟩, ⟨some 140, .iaddr 4 (.t 127) (.t 129), none, false⟩, ⟨none, .store 4 (.t 140) (.t 138), none, false⟩] [0, 1, 2, 3, 9, 10, 12]))) (.reg [⟨some 110, .mov (.t 12), none, false⟩, ⟨some 111, .bin .add (.t 110) (.c (.int .i64 1)), none, false⟩, ⟨some 12, .mov (.t 111), none, false⟩] [0, 1, 2, 3, 9, 10, 12]))
def lp136_0 : XC := .seq (.seq (.reg [⟨some 15, .mov (.t 10), none, false⟩, ⟨some 16, .bin .lss (.t 15) (.c (.int .i64 5)), none, false⟩] [0, 1, 2, 3, 9, 10, 16]) (.cond (.t 16) .skip (.exit 0))) (.seq (.block 1 (.seq (.block 2 (.loop lp136_1)) (.seq (.seq (.reg [⟨some 39, .mov (.t 9), none, false⟩, ⟨some 40, .mov (.t 2), none, false⟩, ⟨some 41, .bin .eql (.t 39) (.t 40), none, false⟩] [0, 1, 2, 3, 9, 10, 41]) (.cond (.t 41) (.seq (.reg [⟨some 8, .mov (.c (.bool true)), none, false⟩] [8]) .ret) .skip)) (.seq (.seq (.reg [⟨some 42, .mov (.t 2), none, false⟩, ⟨some 43, .mov (.t 1), none, false⟩, ⟨some 44, .bin .sub (.t 42) (.t 43), none, false⟩, ⟨some 45, .bin .lss (.t 44) (.c (.int .i64 50)), none, false⟩] [0, 1, 2, 3, 9, 10, 45]) (.cond (.t 45) (.seq (.reg [⟨some 8, .mov (.c (.bool false)), none, false⟩] [8]) .ret) .skip)) (.seq (.reg [⟨some 46, .mov (.t 0), none, false⟩, ⟨some 47, .mov (.t 9), none, false⟩, ⟨some 48, .mov (.t 0), none, false⟩, ⟨some 49, .mov (.t 9), none, false⟩, ⟨some 50, .bin .sub (.t 49) (.c (.int .i64 1)), none, false⟩, ⟨some 51, .mov (.t 0), none, false⟩, ⟨some 52, .mov (.t 9), none, false⟩, ⟨some 53, .bin .sub (.t 52) (.c (.int .i64 1)), none, false⟩, ⟨some 54, .iaddr 4 (.t 51) (.t 53), none, false⟩, ⟨some 55, .load true 4 (.t 54), none, false⟩, ⟨some 56, .mov (.t 0), none, false⟩, ⟨some 57, .mov (.t 9), none, false⟩, ⟨some 58, .iaddr 4 (.t 56) (.t 57), none, false⟩, ⟨some 59, .load true 4 (.t 58), none, false⟩, ⟨some 60, .iaddr 4 (.t 46) (.t 47), none, false⟩, ⟨none, .store 4 (.t 60) (.t 55), none, false⟩, ⟨some 61, .iaddr 4 (.t 48) (.t 50), none, false⟩, ⟨none, .store 4 (.t 61) (.t 59), none, false⟩] [0, 1, 2, 3, 9, 10]) (.seq (.seq (.reg [⟨some 62, .mov (.t 9), none, false⟩, ⟨some 63, .mov (.t 1), none, false⟩, ⟨some 64, .bin .sub (.t 62) (.t 63), none, false⟩, ⟨some 65, .bin .geq (.t 64) (.c (.int .i64 2)), none, false⟩] [0, 1, 2, 3, 9, 10, 65]) (.cond (.t 65) (.seq (.reg [⟨some 66, .mov (.t 9), none, false⟩, ⟨some 67, .bin .sub (.t 66) (.c (.int .i64 1)), none, false⟩, ⟨some 11, .mov (.t 67), none, false⟩] [0, 1, 2, 3, 9, 10, 11]) (.block 4 (.loop lp136_2))) .skip)) (.seq (.reg [⟨some 101, .mov (.t 2), none, false⟩, ⟨some 102, .mov (.t 9), none, false⟩, ⟨some 103, .bin .sub (.t 101) (.t 102), none, false⟩, ⟨some 104, .bin .geq (.t 103) (.c (.int .i64 2)), none, false⟩] [0, 1, 2, 3, 9, 10, 104]) (.cond (.t 104) (.seq (.reg [⟨some 105, .mov (.t 9), none, false⟩, ⟨some 106, .bin .add (.t 105) (.c (.int .i64 1)), none, false⟩, ⟨some 12, .mov (.t 106), none, false⟩] [0, 1, 2, 3, 9, 10, 12]) (.block 6 (.loop lp136_3))) .skip)))))))) (.reg [⟨some 17, .mov (.t 10), none, false⟩, ⟨some 18, .bin .add (.t 17) (.c (.int .i64 1)), none, false⟩, ⟨some 10, .mov (.t 18), none, false⟩] [0, 1, 2, 3, 9, 10]))
def b136 : XC := .seq (.reg [⟨some 8, .mov (.c (.bool false)), none, false⟩] [0, 1, 2, 3]) (.seq (.reg [⟨some 13, .mov (.t 1), none, false⟩, ⟨some 14, .bin .add (.t 13) (.c (.int .i64 1)), none, false⟩, ⟨some 9, .mov (.t 14), none, false⟩] [0, 1, 2, 3, 9]) (.seq (.seq (.reg [⟨some 10, .mov (.c (.int .i64 0)), none, false⟩] [0, 1, 2, 3, 9, 10]) (.block 0 (.loop lp136_0))) (.seq (.reg [⟨some 8, .mov (.c (.bool false)), none, false⟩] [8]) .ret)))
def x136 : XF := ⟨4, b136, [.t 8]⟩
def h136 : Yv := fun id => match id with
  | 0 => [0, 1, 2, 3]
  | 1 => [0, 1, 2, 3, 9]
  | 2 => [0, 1, 2, 3, 9, 10]
  | 3 => [0, 1, 2, 3, 9, 10, 16]
  | 4 => [0, 1, 2, 3, 9, 10]
  | 5 => [0, 1, 2, 3, 9, 10, 36]
  | 6 => [0, 1, 2, 3, 9, 10]
  | 7 => [0, 1, 2, 3, 9, 10, 41]
  | 8 => [8]
  | 9 => [0, 1, 2, 3, 9, 10, 45]
  | 10 => [8]
  | 11 => [0, 1, 2, 3, 9, 10]
  | 12 => [0, 1, 2, 3, 9, 10, 65]
  | 13 => [0, 1, 2, 3, 9, 10, 11]
  | 14 => [0, 1, 2, 3, 9, 10, 11, 69]
  | 15 => [0, 1, 2, 3, 9, 10, 11]
  | 16 => [0, 1, 2, 3, 9, 10, 11, 84]
  | 17 => [0, 1, 2, 3, 9, 10, 11]
  | 18 => [0, 1, 2, 3, 9, 10, 104]
  | 19 => [0, 1, 2, 3, 9, 10, 12]
  | 20 => [0, 1, 2, 3, 9, 10, 12, 109]
  | 21 => [0, 1, 2, 3, 9, 10, 12]
  | 22 => [0, 1, 2, 3, 9, 10, 12, 124]
  | 23 => [0, 1, 2, 3, 9, 10, 12]
  | 24 => [8]
  | _ => []
theorem cv136 : cvF Tryd.prog h136 Tryd.f136 = some x136 := by kernel_rfl

/-- slices.partitionEqualCmpFunc[winnower/api.Value] -/
def lp137_1 : XC := .seq (.seq (.reg [⟨some 31, .mov (.t 11), none, false⟩, ⟨some 32, .mov (.t 12), none, false⟩, ⟨some 33, .bin .leq (.t 31) (.t 32), none, false⟩, ⟨some 34, .mov (.t 33), none, false⟩, ⟨some 35, .mov (.t 4), some (34, true), false⟩, ⟨some 36, .mov (.t 0), some (34, true), false⟩, ⟨some 37, .mov (.t 1), some (34, true), false⟩, ⟨some 38, .iaddr 4 (.t 36) (.t 37), some (34, true), false⟩, ⟨some 39, .load true 4 (.t 38), some (34, true), false⟩, ⟨some 40, .mov (.t 0), some (34, true), false⟩, ⟨some 41, .mov (.t 11), some (34, true), false⟩, ⟨some 42, .iaddr 4 (.t 40) (.t 41), some (34, true), false⟩, ⟨some 43, .load true 4 (.t 42), some (34, true), false⟩, ⟨some 44, .call (.t 35) [.t 39, .t 43], some (34, true), false⟩, ⟨some 45, .bin .lss (.t 44) (.c (.int .i64 0)), some (34, true), false⟩, ⟨some 46, .un .not (.t 45), some (34, true), false⟩, ⟨some 47, .pick (.t 34) (.t 46) (.c (.bool false)), none, false⟩] [0, 1, 4, 11, 12, 47]) (.cond (.t 47) .skip (.exit 2))) (.block 3 (.reg [⟨some 48, .mov (.t 11), none, false⟩, ⟨some 49, .bin .add (.t 48) (.c (.int .i64 1)), none, false⟩, ⟨some 11, .mov (.t 49), none, false⟩] [0, 1, 4, 11, 12]))
def lp137_2 : XC := .seq (.seq (.reg [⟨some 50, .mov (.t 11), none, false⟩, ⟨some 51, .mov (.t 12), none, false⟩, ⟨some 52, .bin .leq (.t 50) (.t 51), none, false⟩, ⟨some 53, .mov (.t 52), none, false⟩, ⟨some 54, .mov (.t 4), some (53, true), false⟩, ⟨some 55, .mov (.t 0), some (53, true), false⟩, ⟨some 56, .mov (.t 1), some (53, true), false⟩, ⟨some 57, .iaddr 4 (.t 55) (.t 56), some (53, true), false⟩, ⟨some 58, .load true 4 (.t 57), some (53, true), false⟩, ⟨some 59, .mov (.t 0), some (53, true), false⟩, ⟨some 60, .mov (.t 12), some (53, true), false⟩, ⟨some 61, .iaddr 4 (.t 59) (.t 60), some (53, true), false⟩, ⟨some 62, .load true 4 (.t 61), some (53, true), false⟩, ⟨some 63, .call (.t 54) [.t 58, .t 62], some (53, true), false⟩, ⟨some 64, .bin .lss (.t 63) (.c (.int .i64 0)), some (53, true), false⟩, ⟨some 65, .pick (.t 53) (.t 64) (.c (.bool false)), none, false⟩] [0, 1, 4, 11, 12, 65]) (.cond (.t 65) .skip (.exit 4))) (.block 5 (.reg [⟨some 66, .mov (.t 12), none, false⟩, ⟨some 67, .bin .sub (.t 66) (.c (.int .i64 1)), none, false⟩, ⟨some 12, .mov (.t 67), none, false⟩] [0, 1, 4, 11, 12]))
def lp137_0 : XC := .block 1 (.seq (.block 2 (.loop lp137_1)) (.seq (.block 4 (.loop lp137_2)) (.seq (.seq (.reg [⟨some 68, .mov (.t 11), none, false⟩, ⟨some 69, .mov (.t 12), none, false⟩, ⟨some 70, .bin .gtr (.t 68) (.t 69), none, false⟩] [0, 1, 4, 11, 12, 70]) (.cond (.t 70) (.exit 0) .skip)) (.seq (.reg [⟨some 71, .mov (.t 0), none, false⟩, ⟨some 72, .mov (.t 11), none, false⟩, ⟨some 73, .mov (.t 0), none, false⟩, ⟨some 74, .mov (.t 12), none, false⟩, ⟨some 75, .mov (.t 0), none, false⟩, ⟨some 76, .mov (.t 12), none, false⟩, ⟨some 77, .iaddr 4 (.t 75) (.t 76), none, false⟩, ⟨some 78, .load true 4 (.t 77), none, false⟩, ⟨some 79, .mov (.t 0), none, false⟩, ⟨some 80, .mov (.t 11), none, false⟩, ⟨some 81, .iaddr 4 (.t 79) (.t 80), none, false⟩, ⟨some 82, .load true 4 (.t 81), none, false⟩, ⟨some 83, .iaddr 4 (.t 71) (.t 72), none, false⟩, ⟨none, .store 4 (.t 83) (.t 78), none, false⟩, ⟨some 84, .iaddr 4 (.t 73) (.t 74), none, false⟩, ⟨none, .store 4 (.t 84) (.t 82), none, false⟩] [0, 1, 4, 11, 12]) (.seq (.reg [⟨some 85, .mov (.t 11), none, false⟩, ⟨some 86, .bin .add (.t 85) (.c (.int .i64 1)), none, false⟩, ⟨some 11, .mov (.t 86), none, false⟩] [0, 1, 4, 11, 12]) (.reg [⟨some 87, .mov (.t 12), none, false⟩, ⟨some 88, .bin .sub (.t 87) (.c (.int .i64 1)), none, false⟩, ⟨some 12, .mov (.t 88), none, false⟩] [0, 1, 4, 11, 12]))))))
def b137 : XC := .seq (.reg [⟨some 10, .mov (.c (.int .i64 0)), none, false⟩] [0, 1, 2, 3, 4]) (.seq (.reg [⟨some 13, .mov (.t 0), none, false⟩, ⟨some 14, .mov (.t 1), none, false⟩, ⟨some 15, .mov (.t 0), none, false⟩, ⟨some 16, .mov (.t 3), none, false⟩, ⟨some 17, .mov (.t 0), none, false⟩, ⟨some 18, .mov (.t 3), none, false⟩, ⟨some 19, .iaddr 4 (.t 17) (.t 18), none, false⟩, ⟨some 20, .load true 4 (.t 19), none, false⟩, ⟨some 21, .mov (.t 0), none, false⟩, ⟨some 22, .mov (.t 1), none, false⟩, ⟨some 23, .iaddr 4 (.t 21) (.t 22), none, false⟩, ⟨some 24, .load true 4 (.t 23), none, false⟩, ⟨some 25, .iaddr 4 (.t 13) (.t 14), none, false⟩, ⟨none, .store 4 (.t 25) (.t 20), none, false⟩, ⟨some 26, .iaddr 4 (.t 15) (.t 16), none, false⟩, ⟨none, .store 4 (.t 26) (.t 24), none, false⟩] [0, 1, 2, 4]) (.seq (.reg [⟨some 27, .mov (.t 1), none, false⟩, ⟨some 28, .bin .add (.t 27) (.c (.int .i64 1)), none, false⟩, ⟨some 29, .mov (.t 2), none, false⟩, ⟨some 30, .bin .sub (.t 29) (.c (.int .i64 1)), none, false⟩, ⟨some 11, .mov (.t 28), none, false⟩, ⟨some 12, .mov (.t 30), none, false⟩] [0, 1, 4, 11, 12]) (.seq (.block 0 (.loop lp137_0)) (.seq (.reg [⟨some 89, .mov (.t 11), none, false⟩, ⟨some 10, .mov (.t 89), none, false⟩] [10]) .ret))))
def x137 : XF := ⟨5, b137, [.t 10]⟩
def h137 : Yv := fun id => match id with
  | 0 => [0, 1, 2, 3, 4]
  | 1 => [0, 1, 2, 4]
  | 2 => [0, 1, 4, 11, 12]
  | 3 => [0, 1, 4, 11, 12, 47]
  | 4 => [0, 1, 4, 11, 12]
  | 5 => [0, 1, 4, 11, 12, 65]
  | 6 => [0, 1, 4, 11, 12]
  | 7 => [0, 1, 4, 11, 12, 70]
  | 8 => [0, 1, 4, 11, 12]
  | 9 => [0, 1, 4, 11, 12]
  | 10 => [0, 1, 4, 11, 12]
  | 11 => [10]
  | _ => []
theorem cv137 : cvF Tryd.prog h137 Tryd.f137 = some x137 := by kernel_rfl

/-- slices.partitionCmpFunc[winnower/api.Value] -/
def lp138_0 : XC := .seq (.seq (.reg [⟨some 32, .mov (.t 12), none, false⟩, ⟨some 33, .mov (.t 13), none, false⟩, ⟨some 34, .bin .leq (.t 32) (.t 33), none, false⟩, ⟨some 35, .mov (.t 34), none, false⟩, ⟨some 36, .mov (.t 4), some (35, true), false⟩, ⟨some 37, .mov (.t 0), some (35, true), false⟩, ⟨some 38, .mov (.t 12), some (35, true), false⟩, ⟨some 39, .iaddr 4 (.t 37) (.t 38), some (35, true), false⟩, ⟨some 40, .load true 4 (.t 39), some (35, true), false⟩, ⟨some 41, .mov (.t 0), some (35, true), false⟩, ⟨some 42, .mov (.t 1), some (35, true), false⟩, ⟨some 43, .iaddr 4 (.t 41) (.t 42), some (35, true), false⟩, ⟨some 44, .load true 4 (.t 43), some (35, true), false⟩, ⟨some 45, .call (.t 36) [.t 40, .t 44], some (35, true), false⟩, ⟨some 46, .bin .lss (.t 45) (.c (.int .i64 0)), some (35, true), false⟩, ⟨some 47, .pick (.t 35) (.t 46) (.c (.bool false)), none, false⟩] [0, 1, 4, 12, 13, 47]) (.cond (.t 47) .skip (.exit 0))) (.block 1 (.reg [⟨some 48, .mov (.t 12), none, false⟩, ⟨some 49, .bin .add (.t 48) (.c (.int .i64 1)), none, false⟩, ⟨some 12, .mov (.t 49), none, false⟩] [0, 1, 4, 12, 13]))
def lp138_1 : XC := .seq (.seq (.reg [⟨some 50, .mov (.t 12), none, false⟩, ⟨some 51, .mov (.t 13), none, false⟩, ⟨some 52, .bin .leq (.t 50) (.t 51), none, false⟩, ⟨some 53, .mov (.t 52), none, false⟩, ⟨some 54, .mov (.t 4), some (53, true), false⟩, ⟨some 55, .mov (.t 0), some (53, true), false⟩, ⟨some 56, .mov (.t 13), some (53, true), false⟩, ⟨some 57, .iaddr 4 (.t 55) (.t 56), some (53, true), false⟩, ⟨some 58, .load true 4 (.t 57), some (53, true), false⟩, ⟨some 59, .mov (.t 0), some (53, true), false⟩, ⟨some 60, .mov (.t 1), some (53, true), false⟩, ⟨some 61, .iaddr 4 (.t 59) (.t 60), some (53, true), false⟩, ⟨some 62, .load true 4 (.t 61), some (53, true), false⟩, ⟨some 63, .call (.t 54) [.t 58, .t 62], some (53, true), false⟩, ⟨some 64, .bin .lss (.t 63) (.c (.int .i64 0)), some (53, true), false⟩, ⟨some 65, .un .not (.t 64), some (53, true), false⟩, ⟨some 66, .pick (.t 53) (.t 65) (.c (.bool false)), none, false⟩] [0, 1, 4, 12, 13, 66]) (.cond (.t 66) .skip (.exit 2))) (.block 3 (.reg [⟨some 67, .mov (.t 13), none, false⟩, ⟨some 68, .bin .sub (.t 67) (.c (.int .i64 1)), none, false⟩, ⟨some 13, .mov (.t 68), none, false⟩] [0, 1, 4, 12, 13]))
def lp138_3 : XC := .seq (.seq (.reg [⟨some 105, .mov (.t 12), none, false⟩, ⟨some 106, .mov (.t 13), none, false⟩, ⟨some 107, .bin .leq (.t 105) (.t 106), none, false⟩, ⟨some 108, .mov (.t 107), none, false⟩, ⟨some 109, .mov (.t 4), some (108, true), false⟩, ⟨some 110, .mov (.t 0), some (108, true), false⟩, ⟨some 111, .mov (.t 12), some (108, true), false⟩, ⟨some 112, .iaddr 4 (.t 110) (.t 111), some (108, true), false⟩, ⟨some 113, .load true 4 (.t 112), some (108, true), false⟩, ⟨some 114, .mov (.t 0), some (108, true), false⟩, ⟨some 115, .mov (.t 1), some (108, true), false⟩, ⟨some 116, .iaddr 4 (.t 114) (.t 115), some (108, true), false⟩, ⟨some 117, .load true 4 (.t 116), some (108, true), false⟩, ⟨some 118, .call (.t 109) [.t 113, .t 117], some (108, true), false⟩, ⟨some 119, .bin .lss (.t 118) (.c (.int .i64 0)), some (108, true), false⟩, ⟨some 120, .pick (.t 108) (.t 119) (.c (.bool false)), none, false⟩] [0, 1, 4, 12, 13, 120]) (.cond (.t 120) .skip (.exit 6))) (.block 7 (.reg [⟨some 121, .mov (.t 12), none, false⟩, ⟨some 122, .bin .add (.t 121) (.c (.int .i64 1)), none, false⟩, ⟨some 12, .mov (.t 122), none, false⟩] [0, 1, 4, 12, 13]))
def lp138_4 : XC := .seq (.seq (.reg [⟨some 123, .mov (.t 12), none, false⟩, ⟨some 124, .mov (.t 13), none, false⟩, ⟨some 125, .bin .leq (.t 123) (.t 124), none, false⟩, ⟨some 126, .mov (.t 125), none, false⟩, ⟨some 127, .mov (.t 4), some (126, true), false⟩, ⟨some 128, .mov (.t 0), some (126, true), false⟩, ⟨some 129, .mov (.t 13), some (126, true), false⟩, ⟨some 130, .iaddr 4 (.t 128) (.t 129), some (126, true), false⟩, ⟨some 131, .load true 4 (.t 130), some (126, true), false⟩, ⟨some 132, .mov (.t 0), some (126, true), false⟩, ⟨some 133, .mov (.t 1), some (126, true), false⟩, ⟨some 134, .iaddr 4 (.t 132) (.t 133), some (126, true), false⟩, ⟨some 135, .load true 4 (.t 134), some (126, true), false⟩, ⟨some 136, .call (.t 127) [.t 131, .t 135], some (126, true), false⟩, ⟨some 137, .bin .lss (.t 136) (.c (.int .i64 0)), some (126, true), false⟩, ⟨some 138, .un .not (.t 137), some (126, true), false⟩, ⟨some 139, .pick (.t 126) (.t 138) (.c (.bool false)), none, false⟩] [0, 1, 4, 12, 13, 139]) (.cond (.t 139) .skip (.exit 8))) (.block 9 (.reg [⟨some 140, .mov (.t 13), none, false⟩, ⟨some 141, .bin .sub (.t 140) (.c (.int .i64 1)), none, false⟩, ⟨some 13, .mov (.t 141), none, false⟩] [0, 1, 4, 12, 13]))
def lp138_2 : XC := .block 5 (.seq (.block 6 (.loop lp138_3)) (.seq (.block 8 (.loop lp138_4)) (.seq (.seq (.reg [⟨some 142, .mov (.t 12), none, false⟩, ⟨some 143, .mov (.t 13), none, false⟩, ⟨some 144, .bin .gtr (.t 142) (.t 143), none, false⟩] [0, 1, 4, 12, 13, 144]) (.cond (.t 144) (.exit 4) .skip)) (.seq (.reg [⟨some 145, .mov (.t 0), none, false⟩, ⟨some 146, .mov (.t 12), none, false⟩, ⟨some 147, .mov (.t 0), none, false⟩, ⟨some 148, .mov (.t 13), none, false⟩, ⟨some 149, .mov (.t 0), none, false⟩, ⟨some 150, .mov (.t 13), none, false⟩, ⟨some 151, .iaddr 4 (.t 149) (.t 150), none, false⟩, ⟨some 152, .load true 4 (.t 151), none, false⟩, ⟨some 153, .mov (.t 0), none, false⟩, ⟨some 154, .mov (.t 12), none, false⟩, ⟨some 155, .iaddr 4 (.t 153) (.t 154), none, false⟩, ⟨some 156, .load true 4 (.t 155), none, false⟩, ⟨some 157, .iaddr 4 (.t 145) (.t 146), none, false⟩, ⟨none, .store 4 (.t 157) (.t 152), none, false⟩, ⟨some 158, .iaddr 4 (.t 147) (.t 148), none, false⟩, ⟨none, .store 4 (.t 158) (.t 156), none, false⟩] [0, 1, 4, 12, 13]) (.seq (.reg [⟨some 159, .mov (.t 12), none, false⟩, ⟨some 160, .bin .add (.t 159) (.c (.int .i64 1)), none, false⟩, ⟨some 12, .mov (.t 160), none, false⟩] [0, 1, 4, 12, 13]) (.reg [⟨some 161, .mov (.t 13), none, false⟩, ⟨some 162, .bin .sub (.t 161) (.c (.int .i64 1)), none, false⟩, ⟨some 13, .mov (.t 162), none, false⟩] [0, 1, 4, 12, 13]))))))
def b138 : XC := .seq (.reg [⟨some 10, .mov (.c (.int .i64 0)), none, false⟩, ⟨some 11, .mov (.c (.bool false)), none, false⟩] [0, 1, 2, 3, 4]) (.seq (.reg [⟨some 14, .mov (.t 0), none, false⟩, ⟨some 15, .mov (.t 1), none, false⟩, ⟨some 16, .mov (.t 0), none, false⟩, ⟨some 17, .mov (.t 3), none, false⟩, ⟨some 18, .mov (.t 0), none, false⟩, ⟨some 19, .mov (.t 3), none, false⟩, ⟨some 20, .iaddr 4 (.t 18) (.t 19), none, false⟩, ⟨some 21, .load true 4 (.t 20), none, false⟩, ⟨some 22, .mov (.t 0), none, false⟩, ⟨some 23, .mov (.t 1), none, false⟩, ⟨some 24, .iaddr 4 (.t 22) (.t 23), none, false⟩, ⟨some 25, .load true 4 (.t 24), none, false⟩, ⟨some 26, .iaddr 4 (.t 14) (.t 15), none, false⟩, ⟨none, .store 4 (.t 26) (.t 21), none, false⟩, ⟨some 27, .iaddr 4 (.t 16) (.t 17), none, false⟩, ⟨none, .store 4 (.t 27) (.t 25), none, false⟩] [0, 1, 2, 4]) (.seq (.reg [⟨some 28, .mov (.t 1), none, false⟩, ⟨some 29, .bin .add (.t 28) (.c (.int .i64 1)), none, false⟩, ⟨some 30, .mov (.t 2), none, false⟩, ⟨some 31, .bin .sub (.t 30) (.c (.int .i64 1)), none, false⟩, ⟨some 12, .mov (.t 29), none, false⟩, ⟨some 13, .mov (.t 31), none, false⟩] [0, 1, 4, 12, 13]) (.seq (.block 0 (.loop lp138_0)) (.seq (.block 2 (.loop lp138_1)) (.seq (.seq (.reg [⟨some 69, .mov (.t 12), none, false⟩, ⟨some 70, .mov (.t 13), none, false⟩, ⟨some 71, .bin .gtr (.t 69) (.t 70), none, false⟩] [0, 1, 4, 12, 13, 71]) (.cond (.t 71) (.seq (.reg [⟨some 72, .mov (.t 0), none, false⟩, ⟨some 73, .mov (.t 13), none, false⟩, ⟨some 74, .mov (.t 0), none, false⟩, ⟨some 75, .mov (.t 1), none, false⟩, ⟨some 76, .mov (.t 0), none, false⟩, ⟨some 77, .mov (.t 1), none, false⟩, ⟨some 78, .iaddr 4 (.t 76) (.t 77), none, false⟩, ⟨some 79, .load true 4 (.t 78), none, false⟩, ⟨some 80, .mov (.t 0), none, false⟩, ⟨some 81, .mov (.t 13), none, false⟩, ⟨some 82, .iaddr 4 (.t 80) (.t 81), none, false⟩, ⟨some 83, .load true 4 (.t 82), none, false⟩, ⟨some 84, .iaddr 4 (.t 72) (.t 73), none, false⟩, ⟨none, .store 4 (.t 84) (.t 79), none, false⟩, ⟨some 85, .iaddr 4 (.t 74) (.t 75), none, false⟩, ⟨none, .store 4 (.t 85) (.t 83), none, false⟩] [13]) (.seq (.reg [⟨some 86, .mov (.t 13), none, false⟩, ⟨some 10, .mov (.t 86), none, false⟩, ⟨some 11, .mov (.c (.bool true)), none, false⟩] [10, 11]) .ret)) .skip)) (.seq (.reg [⟨some 87, .mov (.t 0), none, false⟩, ⟨some 88, .mov (.t 12), none, false⟩, ⟨some 89, .mov (.t 0), none, false⟩, ⟨some 90, .mov (.t 13), none, false⟩, ⟨some 91, .mov (.t 0), none, false⟩, ⟨some 92, .mov (.t 13), none, false⟩, ⟨some 93, .iaddr 4 (.t 91) (.t 92), none, false⟩, ⟨some 94, .load true 4 (.t 93), none, false⟩, ⟨some 95, .mov (.t 0), none, false⟩, ⟨some 96, .mov (.t 12), none, false⟩, ⟨some 97, .iaddr 4 (.t 95) (.t 96), none, false⟩, ⟨some 98, .load true 4 (.t 97), none, false⟩, ⟨some 99, .iaddr 4 (.t 87) (.t 88), none, false⟩, ⟨none, .store 4 (.t 99) (.t 94), none, false⟩, ⟨some 100, .iaddr 4 (.t 89) (.t 90), none, false⟩, ⟨none, .store 4 (.t 100) (.t 98), none, false⟩] [0, 1, 4, 12, 13]) (.seq (.reg [⟨some 101, .mov (.t 12), none, false⟩, ⟨some 102, .bin .add (.t 101) (.c (.int .i64 1)), none, false⟩, ⟨some 12, .mov (.t 102), none, false⟩] [0, 1, 4, 12, 13]) (.seq (.reg [⟨some 103, .mov (.t 13), none, false⟩, ⟨some 104, .bin .sub (.t 103) (.c (.int .i64 1)), none, false⟩, ⟨some 13, .mov (.t 104), none, false⟩] [0, 1, 4, 12, 13]) (.seq (.block 4 (.loop lp138_2)) (.seq (.reg [⟨some 163, .mov (.t 0), none, false⟩, ⟨some 164, .mov (.t 13), none, false⟩, ⟨some 165, .mov (.t 0), none, false⟩, ⟨some 166, .mov (.t 1), none, false⟩, ⟨some 167, .mov (.t 0), none, false⟩, ⟨some 168, .mov (.t 1), none, false⟩, ⟨some 169, .iaddr 4 (.t 167) (.t 168), none, false⟩, ⟨some 170, .load true 4 (.t 169), none, false⟩, ⟨some 171, .mov (.t 0), none, false⟩, ⟨some 172, .mov (.t 13), none, false⟩, ⟨some 173, .iaddr 4 (.t 171) (.t 172), none, false⟩, ⟨some 174, .load true 4 (.t 173), none, false⟩, ⟨some 175, .iaddr 4 (.t 163) (.t 164), none, false⟩, ⟨none, .store 4 (.t 175) (.t 170), none, false⟩, ⟨some 176, .iaddr 4 (.t 165) (.t 166), none, false⟩, ⟨none, .store 4 (.t 176) (.t 174), none, false⟩] [13]) (.seq (.reg [⟨some 177, .mov (.t 13), none, false⟩, ⟨some 10, .mov (.t 177), none, false⟩, ⟨some 11, .mov (.c (.bool false)), none, false⟩] [10, 11]) .ret)))))))))))
def x138 : XF := ⟨5, b138, [.t 10, .t 11]⟩
def h138 : Yv := fun id => match id with
  | 0 => [0, 1, 2, 3, 4]
  | 1 => [0, 1, 2, 4]
  | 2 => [0, 1, 4, 12, 13]
  | 3 => [0, 1, 4, 12, 13, 47]
  | 4 => [0, 1, 4, 12, 13]
  | 5 => [0, 1, 4, 12, 13, 66]
  | 6 => [0, 1, 4, 12, 13]
  | 7 => [0, 1, 4, 12, 13, 71]
  | 8 => [13]
  | 9 => [10, 11]
  | 10 => [0, 1, 4, 12, 13]
  | 11 => [0, 1, 4, 12, 13]
  | 12 => [0, 1, 4, 12, 13]
  | 13 => [0, 1, 4, 12, 13, 120]
  | 14 => [0, 1, 4, 12, 13]
  | 15 => [0, 1, 4, 12, 13, 139]
  | 16 => [0, 1, 4, 12, 13]
  | 17 => [0, 1, 4, 12, 13, 144]
  | 18 => [0, 1, 4, 12, 13]
  | 19 => [0, 1, 4, 12, 13]
  | 20 => [0, 1, 4, 12, 13]
  | 21 => [13]
  | 22 => [10, 11]
  | _ => []
theorem cv138 : cvF Tryd.prog h138 Tryd.f138 = some x138 := by kernel_rfl

/-- math/bits.Len32 -/
def b139 : XC := .seq (.reg [⟨some 2, .mov (.c (.int .i64 0)), none, false⟩] [0, 2]) (.seq (.seq (.reg [⟨some 3, .mov (.t 0), none, false⟩, ⟨some 4, .bin .geq (.t 3) (.c (.int .u32 65536)), none, false⟩] [0, 2, 4]) (.cond (.t 4) (.seq (.reg [⟨some 5, .mov (.t 0), none, false⟩, ⟨some 6, .bin .shr (.t 5) (.c (.int .u64 16)), none, false⟩, ⟨some 0, .mov (.t 6), none, false⟩] [0]) (.reg [⟨some 2, .mov (.c (.int .i64 16)), none, false⟩] [0, 2])) .skip)) (.seq (.seq (.reg [⟨some 7, .mov (.t 0), none, false⟩, ⟨some 8, .bin .geq (.t 7) (.c (.int .u32 256)), none, false⟩] [0, 2, 8]) (.cond (.t 8) (.seq (.reg [⟨some 9, .mov (.t 0), none, false⟩, ⟨some 10, .bin .shr (.t 9) (.c (.int .u64 8)), none, false⟩, ⟨some 0, .mov (.t 10), none, false⟩] [0, 2]) (.reg [⟨some 11, .mov (.t 2), none, false⟩, ⟨some 12, .bin .add (.t 11) (.c (.int .i64 8)), none, false⟩, ⟨some 2, .mov (.t 12), none, false⟩] [0, 2])) .skip)) (.seq (.reg [⟨some 13, .mov (.t 2), none, false⟩, ⟨some 14, .mov (.t 0), none, false⟩, ⟨some 15, .toint .u8 (.t 14), none, false⟩, ⟨some 16, .idxs (.c (.str ⟨#[0, 1, 2, 2, 3, 3, 3, 3, 4, 4, 4, 4, 4, 4, 4, 4, 5, 5, 5, 5, 5, 5, 5, 5, 5, 5, 5, 5, 5, 5, 5, 5, 6, 6, 6, 6, 6, 6, 6, 6, 6, 6, 6, 6, 6, 6, 6, 6, 6, 6, 6, 6, 6, 6, 6, 6, 6, 6, 6, 6, 6, 6, 6, 6, 7, 7, 7, 7, 7, 7, 7, 7, 7, 7, 7, 7, 7, 7, 7, 7, 7, 7, 7, 7, 7, 7, 7, 7, 7, 7, 7, 7, 7, 7, 7, 7, 7, 7, 7, 7, 7, 7, 7, 7, 7, 7, 7, 7, 7, 7, 7, 7, 7, 7, 7, 7, 7, 7, 7, 7, 7, 7, 7, 7, 7, 7, 7, 7, 8, 8, 8, 8, 8, 8, 8, 8, 8, 8, 8, 8, 8, 8, 8, 8, 8, 8, 8, 8, 8, 8, 8, 8, 8, 8, 8, 8, 8, 8, 8, 8, 8, 8, 8, 8, 8, 8, 8, 8, 8, 8, 8, 8, 8, 8, 8, 8, 8, 8, 8, 8, 8, 8, 8, 8, 8, 8, 8, 8, 8, 8, 8, 8, 8, 8, 8, 8, 8, 8, 8, 8, 8, 8, 8, 8, 8, 8, 8, 8, 8, 8, 8, 8, 8, 8, 8, 8, 8, 8, 8, 8, 8, 8, 8, 8, 8, 8, 8, 8, 8, 8, 8, 8, 8, 8, 8, 8, 8, 8, 8, 8, 8, 8, 8, 8, 8, 8, 8, 8, 8, 8, 8, 8, 8, 8, 8, 8]⟩)) (.t 15), none, false⟩, ⟨some 17, .toint .i64 (.t 16), none, false⟩, ⟨some 18, .bin .add (.t 13) (.t 17), none, false⟩, ⟨some 2, .mov (.t 18), none, false⟩] [2]) .ret)))
def x139 : XF := ⟨1, b139, [.t 2]⟩
def h139 : Yv := fun id => match id with
  | 0 => [0, 2]
  | 1 => [0, 2, 4]
  | 2 => [0]
  | 3 => [0, 2]
  | 4 => [0, 2, 8]
  | 5 => [0, 2]
  | 6 => [0, 2]
  | 7 => [2]
  | _ => []
theorem cv139 : cvF Tryd.prog h139 Tryd.f139 = some x139 := by kernel_rfl

/-- cmp.isNaN[int] -/
def b140 : XC := .seq (.reg [⟨some 2, .mov (.c (.bool false)), none, false⟩] [0]) (.seq (.reg [⟨some 3, .mov (.t 0), none, false⟩, ⟨some 4, .mov (.t 0), none, false⟩, ⟨some 5, .bin .neq (.t 3) (.t 4), none, false⟩, ⟨some 2, .mov (.t 5), none, false⟩] [2]) .ret)
def x140 : XF := ⟨1, b140, [.t 2]⟩
def h140 : Yv := fun id => match id with
  | 0 => [0]
  | 1 => [2]
  | _ => []
theorem cv140 : cvF Tryd.prog h140 Tryd.f140 = some x140 := by kernel_rfl

/-- cmp.isNaN[string] -/
def b141 : XC := .seq (.reg [⟨some 2, .mov (.c (.bool false)), none, false⟩] [0]) (.seq (.reg [⟨some 3, .mov (.t 0), none, false⟩, ⟨some 4, .mov (.t 0), none, false⟩, ⟨some 5, .bin .neq (.t 3) (.t 4), none, false⟩, ⟨some 2, .mov (.t 5), none, false⟩] [2]) .ret)
def x141 : XF := ⟨1, b141, [.t 2]⟩
def h141 : Yv := fun id => match id with
  | 0 => [0]
  | 1 => [2]
  | _ => []
theorem cv141 : cvF Tryd.prog h141 Tryd.f141 = some x141 := by kernel_rfl

/-- slices.siftDownCmpFunc[winnower/api.Value] -/
def lp142_0 : XC := .block 1 (.seq (.reg [⟨some 13, .mov (.t 10), none, false⟩, ⟨some 14, .bin .mul (.c (.int .i64 2)) (.t 13), none, false⟩, ⟨some 15, .bin .add (.t 14) (.c (.int .i64 1)), none, false⟩, ⟨some 11, .mov (.t 15), none, false⟩] [0, 2, 3, 4, 10, 11]) (.seq (.seq (.reg [⟨some 16, .mov (.t 11), none, false⟩, ⟨some 17, .mov (.t 2), none, false⟩, ⟨some 18, .bin .geq (.t 16) (.t 17), none, false⟩] [0, 2, 3, 4, 10, 11, 18]) (.cond (.t 18) (.exit 0) .skip)) (.seq (.seq (.reg [⟨some 19, .mov (.t 11), none, false⟩, ⟨some 20, .bin .add (.t 19) (.c (.int .i64 1)), none, false⟩, ⟨some 21, .mov (.t 2), none, false⟩, ⟨some 22, .bin .lss (.t 20) (.t 21), none, false⟩, ⟨some 23, .mov (.t 22), none, false⟩, ⟨some 24, .mov (.t 4), some (23, true), false⟩, ⟨some 25, .mov (.t 0), some (23, true), false⟩, ⟨some 26, .mov (.t 3), some (23, true), false⟩, ⟨some 27, .mov (.t 11), some (23, true), false⟩, ⟨some 28, .bin .add (.t 26) (.t 27), some (23, true), false⟩, ⟨some 29, .iaddr 4 (.t 25) (.t 28), some (23, true), false⟩, ⟨some 30, .load true 4 (.t 29), some (23, true), false⟩, ⟨some 31, .mov (.t 0), some (23, true), false⟩, ⟨some 32, .mov (.t 3), some (23, true), false⟩, ⟨some 33, .mov (.t 11), some (23, true), false⟩, ⟨some 34, .bin .add (.t 32) (.t 33), some (23, true), false⟩, ⟨some 35, .bin .add (.t 34) (.c (.int .i64 1)), some (23, true), false⟩, ⟨some 36, .iaddr 4 (.t 31) (.t 35), some (23, true), false⟩, ⟨some 37, .load true 4 (.t 36), some (23, true), false⟩, ⟨some 38, .call (.t 24) [.t 30, .t 37], some (23, true), false⟩, ⟨some 39, .bin .lss (.t 38) (.c (.int .i64 0)), some (23, true), false⟩, ⟨some 40, .pick (.t 23) (.t 39) (.c (.bool false)), none, false⟩] [0, 2, 3, 4, 10, 11, 40]) (.cond (.t 40) (.reg [⟨some 41, .mov (.t 11), none, false⟩, ⟨some 42, .bin .add (.t 41) (.c (.int .i64 1)), none, false⟩, ⟨some 11, .mov (.t 42), none, false⟩] [0, 2, 3, 4, 10, 11]) .skip)) (.seq (.seq (.reg [⟨some 43, .mov (.t 4), none, false⟩, ⟨some 44, .mov (.t 0), none, false⟩, ⟨some 45, .mov (.t 3), none, false⟩, ⟨some 46, .mov (.t 10), none, false⟩, ⟨some 47, .bin .add (.t 45) (.t 46), none, false⟩, ⟨some 48, .iaddr 4 (.t 44) (.t 47), none, false⟩, ⟨some 49, .load true 4 (.t 48), none, false⟩, ⟨some 50, .mov (.t 0), none, false⟩, ⟨some 51, .mov (.t 3), none, false⟩, ⟨some 52, .mov (.t 11), none, false⟩, ⟨some 53, .bin .add (.t 51) (.t 52), none, false⟩, ⟨some 54, .iaddr 4 (.t 50) (.t 53), none, false⟩, ⟨some 55, .load true 4 (.t 54), none, false⟩, ⟨some 56, .call (.t 43) [.t 49, .t 55], none, false⟩, ⟨some 57, .bin .lss (.t 56) (.c (.int .i64 0)), none, false⟩, ⟨some 58, .un .not (.t 57), none, false⟩] [0, 2, 3, 4, 10, 11, 58]) (.cond (.t 58) .ret .skip)) (.seq (.reg [⟨some 59, .mov (.t 0), none, false⟩, ⟨some 60, .mov (.t 3), none, false⟩, ⟨some 61, .mov (.t 10), none, false⟩, ⟨some 62, .bin .add (.t 60) (.t 61), none, false⟩, ⟨some 63, .mov (.t 0), none, false⟩, ⟨some 64, .mov (.t 3), none, false⟩, ⟨some 65, .mov (.t 11), none, false⟩, ⟨some 66, .bin .add (.t 64) (.t 65), none, false⟩, ⟨some 67, .mov (.t 0), none, false⟩, ⟨some 68, .mov (.t 3), none, false⟩, ⟨some 69, .mov (.t 11), none, false⟩, ⟨some 70, .bin .add (.t 68) (.t 69), none, false⟩, ⟨some 71, .iaddr 4 (.t 67) (.t 70), none, false⟩, ⟨some 72, .load true 4 (.t 71), none, false⟩, ⟨some 73, .mov (.t 0), none, false⟩, ⟨some 74, .mov (.t 3), none, false⟩, ⟨some 75, .mov (.t 10), none, false⟩, ⟨some 76, .bin .add (.t 74) (.t 75), none, false⟩, ⟨some 77, .iaddr 4 (.t 73) (.t 76), none, false⟩, ⟨some 78, .load true 4 (.t 77), none, false⟩, ⟨some 79, .iaddr 4 (.t 59) (.t 62), none, false⟩, ⟨none, .store 4 (.t 79) (.t 72), none, false⟩, ⟨some 80, .iaddr 4 (.t 63) (.t 66), none, false⟩, ⟨none, .store 4 (.t 80) (.t 78), none, false⟩] [0, 2, 3, 4, 11]) (.reg [⟨some 81, .mov (.t 11), none, false⟩, ⟨some 10, .mov (.t 81), none, false⟩] [0, 2, 3, 4, 10]))))))
def b142 : XC := .seq (.reg [⟨some 12, .mov (.t 1), none, false⟩, ⟨some 10, .mov (.t 12), none, false⟩] [0, 2, 3, 4, 10]) (.block 0 (.loop lp142_0))
def x142 : XF := ⟨5, b142, []⟩
def h142 : Yv := fun id => match id with
  | 0 => [0, 2, 3, 4, 10]
  | 1 => [0, 2, 3, 4, 10, 11]
  | 2 => [0, 2, 3, 4, 10, 11, 18]
  | 3 => [0, 2, 3, 4, 10, 11, 40]
  | 4 => [0, 2, 3, 4, 10, 11]
  | 5 => [0, 2, 3, 4, 10, 11, 58]
  | 6 => [0, 2, 3, 4, 11]
  | 7 => [0, 2, 3, 4, 10]
  | _ => []
theorem cv142 : cvF Tryd.prog h142 Tryd.f142 = some x142 := by kernel_rfl

/-- slices.nextPowerOfTwo -/
def b143 : XC := .seq (.reg [⟨some 2, .mov (.c (.int .u64 0)), none, false⟩] [0]) (.seq (.reg [⟨some 3, .mov (.t 0), none, false⟩, ⟨some 4, .toint .u64 (.t 3), none, false⟩, ⟨some 5, .call (.c (.func 123 [] [])) [.t 4], none, false⟩, ⟨some 6, .bin .shl (.c (.int .u64 1)) (.t 5), none, false⟩, ⟨some 2, .mov (.t 6), none, false⟩] [2]) .ret)
def x143 : XF := ⟨1, b143, [.t 2]⟩
def h143 : Yv := fun id => match id with
  | 0 => [0]
  | 1 => [2]
  | _ => []
theorem cv143 : cvF Tryd.prog h143 Tryd.f143 = some x143 := by kernel_rfl

/-- (*slices.xorshift).Next -/
def b144 : XC := .seq (.reg [⟨some 2, .mov (.c (.int .u64 0)), none, false⟩] [0]) (.seq (.reg [⟨some 3, .mov (.t 0), none, false⟩, ⟨some 4, .nilck (.t 3), none, false⟩, ⟨some 5, .load false 1 (.t 4), none, false⟩, ⟨some 6, .mov (.t 0), none, false⟩, ⟨some 7, .nilck (.t 6), none, false⟩, ⟨some 8, .load false 1 (.t 7), none, false⟩, ⟨some 9, .bin .shl (.t 8) (.c (.int .u64 13)), none, false⟩, ⟨some 10, .bin .xor (.t 5) (.t 9), none, false⟩, ⟨some 11, .nilck (.t 3), none, false⟩, ⟨none, .store 1 (.t 11) (.t 10), none, false⟩] [0]) (.seq (.reg [⟨some 12, .mov (.t 0), none, false⟩, ⟨some 13, .nilck (.t 12), none, false⟩, ⟨some 14, .load false 1 (.t 13), none, false⟩, ⟨some 15, .mov (.t 0), none, false⟩, ⟨some 16, .nilck (.t 15), none, false⟩, ⟨some 17, .load false 1 (.t 16), none, false⟩, ⟨some 18, .bin .shr (.t 17) (.c (.int .u64 7)), none, false⟩, ⟨some 19, .bin .xor (.t 14) (.t 18), none, false⟩, ⟨some 20, .nilck (.t 12), none, false⟩, ⟨none, .store 1 (.t 20) (.t 19), none, false⟩] [0]) (.seq (.reg [⟨some 21, .mov (.t 0), none, false⟩, ⟨some 22, .nilck (.t 21), none, false⟩, ⟨some 23, .load false 1 (.t 22), none, false⟩, ⟨some 24, .mov (.t 0), none, false⟩, ⟨some 25, .nilck (.t 24), none, false⟩, ⟨some 26, .load false 1 (.t 25), none, false⟩, ⟨some 27, .bin .shl (.t 26) (.c (.int .u64 17)), none, false⟩, ⟨some 28, .bin .xor (.t 23) (.t 27), none, false⟩, ⟨some 29, .nilck (.t 21), none, false⟩, ⟨none, .store 1 (.t 29) (.t 28), none, false⟩] [0]) (.seq (.reg [⟨some 30, .mov (.t 0), none, false⟩, ⟨some 31, .nilck (.t 30), none, false⟩, ⟨some 32, .load false 1 (.t 31), none, false⟩, ⟨some 2, .mov (.t 32), none, false⟩] [2]) .ret))))
def x144 : XF := ⟨1, b144, [.t 2]⟩
def h144 : Yv := fun id => match id with
  | 0 => [0]
  | 1 => [0]
  | 2 => [0]
  | 3 => [0]
  | 4 => [2]
  | _ => []
theorem cv144 : cvF Tryd.prog h144 Tryd.f144 = some x144 := by kernel_rfl

/-- slices.medianAdjacentCmpFunc[winnower/api.Value] -/
def b145 : XC := .seq (.reg [⟨some 8, .mov (.c (.int .i64 0)), none, false⟩] [0, 1, 2, 3]) (.seq (.reg [⟨some 9, .mov (.t 0), none, false⟩, ⟨some 10, .mov (.t 1), none, false⟩, ⟨some 11, .bin .sub (.t 10) (.c (.int .i64 1)), none, false⟩, ⟨some 12, .mov (.t 1), none, false⟩, ⟨some 13, .mov (.t 1), none, false⟩, ⟨some 14, .bin .add (.t 13) (.c (.int .i64 1)), none, false⟩, ⟨some 15, .mov (.t 2), none, false⟩, ⟨some 16, .mov (.t 3), none, false⟩, ⟨some 17, .call (.c (.func 146 [] [])) [.t 9, .t 11, .t 12, .t 14, .t 15, .t 16], none, false⟩, ⟨some 8, .mov (.t 17), none, false⟩] [8]) .ret)
def x145 : XF := ⟨4, b145, [.t 8]⟩
def h145 : Yv := fun id => match id with
  | 0 => [0, 1, 2, 3]
  | 1 => [8]
  | _ => []
theorem cv145 : cvF Tryd.prog h145 Tryd.f145 = some x145 := by kernel_rfl

/-- slices.medianCmpFunc[winnower/api.Value] -/
def b146 : XC := .seq (.reg [⟨some 12, .mov (.c (.int .i64 0)), none, false⟩] [0, 1, 2, 3, 4, 5]) (.seq (.reg [⟨some 14, .mov (.t 0), none, false⟩, ⟨some 15, .mov (.t 1), none, false⟩, ⟨some 16, .mov (.t 2), none, false⟩, ⟨some 17, .mov (.t 4), none, false⟩, ⟨some 18, .mov (.t 5), none, false⟩, ⟨some 19, .call (.c (.func 147 [] [])) [.t 14, .t 15, .t 16, .t 17, .t 18], none, false⟩, ⟨some 13, .mov (.t 19), none, false⟩, ⟨some 20, .ext (.t 13) 0, none, false⟩, ⟨some 21, .ext (.t 13) 1, none, false⟩, ⟨some 1, .mov (.t 20), none, false⟩, ⟨some 2, .mov (.t 21), none, false⟩] [0, 1, 2, 3, 4, 5]) (.seq (.reg [⟨some 23, .mov (.t 0), none, false⟩, ⟨some 24, .mov (.t 2), none, false⟩, ⟨some 25, .mov (.t 3), none, false⟩, ⟨some 26, .mov (.t 4), none, false⟩, ⟨some 27, .mov (.t 5), none, false⟩, ⟨some 28, .call (.c (.func 147 [] [])) [.t 23, .t 24, .t 25, .t 26, .t 27], none, false⟩, ⟨some 22, .mov (.t 28), none, false⟩, ⟨some 29, .ext (.t 22) 0, none, false⟩, ⟨some 30, .ext (.t 22) 1, none, false⟩, ⟨some 2, .mov (.t 29), none, false⟩, ⟨some 3, .mov (.t 30), none, false⟩] [0, 1, 2, 4, 5]) (.seq (.reg [⟨some 32, .mov (.t 0), none, false⟩, ⟨some 33, .mov (.t 1), none, false⟩, ⟨some 34, .mov (.t 2), none, false⟩, ⟨some 35, .mov (.t 4), none, false⟩, ⟨some 36, .mov (.t 5), none, false⟩, ⟨some 37, .call (.c (.func 147 [] [])) [.t 32, .t 33, .t 34, .t 35, .t 36], none, false⟩, ⟨some 31, .mov (.t 37), none, false⟩, ⟨some 38, .ext (.t 31) 0, none, false⟩, ⟨some 39, .ext (.t 31) 1, none, false⟩, ⟨some 1, .mov (.t 38), none, false⟩, ⟨some 2, .mov (.t 39), none, false⟩] [2]) (.seq (.reg [⟨some 40, .mov (.t 2), none, false⟩, ⟨some 12, .mov (.t 40), none, false⟩] [12]) .ret))))
def x146 : XF := ⟨6, b146, [.t 12]⟩
def h146 : Yv := fun id => match id with
  | 0 => [0, 1, 2, 3, 4, 5]
  | 1 => [0, 1, 2, 3, 4, 5]
  | 2 => [0, 1, 2, 4, 5]
  | 3 => [2]
  | 4 => [12]
  | _ => []
theorem cv146 : cvF Tryd.prog h146 Tryd.f146 = some x146 := by kernel_rfl

/-- slices.order2CmpFunc[winnower/api.Value] -/
def b147 : XC := .seq (.reg [⟨some 10, .mov (.c (.int .i64 0)), none, false⟩, ⟨some 11, .mov (.c (.int .i64 0)), none, false⟩] [0, 1, 2, 3, 4]) (.seq (.seq (.reg [⟨some 12, .mov (.t 4), none, false⟩, ⟨some 13, .mov (.t 0), none, false⟩, ⟨some 14, .mov (.t 2), none, false⟩, ⟨some 15, .iaddr 4 (.t 13) (.t 14), none, false⟩, ⟨some 16, .load true 4 (.t 15), none, false⟩, ⟨some 17, .mov (.t 0), none, false⟩, ⟨some 18, .mov (.t 1), none, false⟩, ⟨some 19, .iaddr 4 (.t 17) (.t 18), none, false⟩, ⟨some 20, .load true 4 (.t 19), none, false⟩, ⟨some 21, .call (.t 12) [.t 16, .t 20], none, false⟩, ⟨some 22, .bin .lss (.t 21) (.c (.int .i64 0)), none, false⟩] [1, 2, 3, 22]) (.cond (.t 22) (.seq (.reg [⟨some 23, .mov (.t 3), none, false⟩, ⟨some 24, .nilck (.t 23), none, false⟩, ⟨some 25, .load false 1 (.t 24), none, false⟩, ⟨some 26, .bin .add (.t 25) (.c (.int .i64 1)), none, false⟩, ⟨some 27, .nilck (.t 23), none, false⟩, ⟨none, .store 1 (.t 27) (.t 26), none, false⟩] [1, 2]) (.seq (.reg [⟨some 28, .mov (.t 2), none, false⟩, ⟨some 29, .mov (.t 1), none, false⟩, ⟨some 10, .mov (.t 28), none, false⟩, ⟨some 11, .mov (.t 29), none, false⟩] [10, 11]) .ret)) .skip)) (.seq (.reg [⟨some 30, .mov (.t 1), none, false⟩, ⟨some 31, .mov (.t 2), none, false⟩, ⟨some 10, .mov (.t 30), none, false⟩, ⟨some 11, .mov (.t 31), none, false⟩] [10, 11]) .ret))
def x147 : XF := ⟨5, b147, [.t 10, .t 11]⟩
def h147 : Yv := fun id => match id with
  | 0 => [0, 1, 2, 3, 4]
  | 1 => [1, 2, 3, 22]
  | 2 => [1, 2]
  | 3 => [10, 11]
  | 4 => [10, 11]
  | _ => []
theorem cv147 : cvF Tryd.prog h147 Tryd.f147 = some x147 := by kernel_rfl

def X : Nat → Option XK := fun f => match f with
  | 18 => some (.ext gList)
  | 6 => some (.fn x6)
  | 11 => some (.fn x11)
  | 17 => some (.fn x17)
  | 21 => some (.fn x21)
  | 22 => some (.fn x22)
  | 23 => some (.fn x23)
  | 26 => some (.fn x26)
  | 27 => some (.fn x27)
  | 28 => some (.fn x28)
  | 33 => some (.fn x33)
  | 38 => some (.fn x38)
  | 39 => some (.fn x39)
  | 43 => some (.fn x43)
  | 44 => some (.fn x44)
  | 57 => some (.fn x57)
  | 58 => some (.fn x58)
  | 59 => some (.fn x59)
  | 60 => some (.fn x60)
  | 61 => some (.fn x61)
  | 62 => some (.fn x62)
  | 68 => some (.fn x68)
  | 69 => some (.fn x69)
  | 70 => some (.fn x70)
  | 74 => some (.fn x74)
  | 89 => some (.fn x89)
  | 94 => some (.fn x94)
  | 95 => some (.fn x95)
  | 96 => some (.fn x96)
  | 97 => some (.fn x97)
  | 98 => some (.fn x98)
  | 99 => some (.fn x99)
  | 100 => some (.fn x100)
  | 101 => some (.fn x101)
  | 102 => some (.fn x102)
  | 103 => some (.fn x103)
  | 104 => some (.fn x104)
  | 109 => some (.fn x109)
  | 111 => some (.fn x111)
  | 112 => some (.fn x112)
  | 115 => some (.fn x115)
  | 122 => some (.fn x122)
  | 123 => some (.fn x123)
  | 124 => some (.fn x124)
  | 125 => some (.fn x125)
  | 126 => some (.fn x126)
  | 127 => some (.fn x127)
  | 128 => some (.fn x128)
  | 129 => some (.fn x129)
  | 131 => some (.fn x131)
  | 132 => some (.fn x132)
  | 133 => some (.fn x133)
  | 134 => some (.fn x134)
  | 135 => some (.fn x135)
  | 136 => some (.fn x136)
  | 137 => some (.fn x137)
  | 138 => some (.fn x138)
  | 139 => some (.fn x139)
  | 140 => some (.fn x140)
  | 141 => some (.fn x141)
  | 142 => some (.fn x142)
  | 143 => some (.fn x143)
  | 144 => some (.fn x144)
  | 145 => some (.fn x145)
  | 146 => some (.fn x146)
  | 147 => some (.fn x147)
  | _ => none
def hints : Nat → Yv := fun f => match f with
  | 6 => h6
  | 11 => h11
  | 17 => h17
  | 21 => h21
  | 22 => h22
  | 23 => h23
  | 26 => h26
  | 27 => h27
  | 28 => h28
  | 33 => h33
  | 38 => h38
  | 39 => h39
  | 43 => h43
  | 44 => h44
  | 57 => h57
  | 58 => h58
  | 59 => h59
  | 60 => h60
  | 61 => h61
  | 62 => h62
  | 68 => h68
  | 69 => h69
  | 70 => h70
  | 74 => h74
  | 89 => h89
  | 94 => h94
  | 95 => h95
  | 96 => h96
  | 97 => h97
  | 98 => h98
  | 99 => h99
  | 100 => h100
  | 101 => h101
  | 102 => h102
  | 103 => h103
  | 104 => h104
  | 109 => h109
  | 111 => h111
  | 112 => h112
  | 115 => h115
  | 122 => h122
  | 123 => h123
  | 124 => h124
  | 125 => h125
  | 126 => h126
  | 127 => h127
  | 128 => h128
  | 129 => h129
  | 131 => h131
  | 132 => h132
  | 133 => h133
  | 134 => h134
  | 135 => h135
  | 136 => h136
  | 137 => h137
  | 138 => h138
  | 139 => h139
  | 140 => h140
  | 141 => h141
  | 142 => h142
  | 143 => h143
  | 144 => h144
  | 145 => h145
  | 146 => h146
  | 147 => h147
  | _ => fun _ => []
theorem sound : Sound Tryd.prog X hints where
  mixed := by kernel_rfl
  ext f g h := by unfold X at h; split at h <;> first | (injection h with h; injection h with h; subst h; exact listOk) | cases h
  fn f x h := by
    unfold X at h
    split at h
    · cases h
    · injection h with h; injection h with h; subst h; exact ⟨Tryd.f6, by kernel_rfl, cv6⟩
    · injection h with h; injection h with h; subst h; exact ⟨Tryd.f11, by kernel_rfl, cv11⟩
    · injection h with h; injection h with h; subst h; exact ⟨Tryd.f17, by kernel_rfl, cv17⟩
    · injection h with h; injection h with h; subst h; exact ⟨Tryd.f21, by kernel_rfl, cv21⟩
    · injection h with h; injection h with h; subst h; exact ⟨Tryd.f22, by kernel_rfl, cv22⟩
    · injection h with h; injection h with h; subst h; exact ⟨Tryd.f23, by kernel_rfl, cv23⟩
    · injection h with h; injection h with h; subst h; exact ⟨Tryd.f26, by kernel_rfl, cv26⟩
    · injection h with h; injection h with h; subst h; exact ⟨Tryd.f27, by kernel_rfl, cv27⟩
    · injection h with h; injection h with h; subst h; exact ⟨Tryd.f28, by kernel_rfl, cv28⟩
    · injection h with h; injection h with h; subst h; exact ⟨Tryd.f33, by kernel_rfl, cv33⟩
    · injection h with h; injection h with h; subst h; exact ⟨Tryd.f38, by kernel_rfl, cv38⟩
    · injection h with h; injection h with h; subst h; exact ⟨Tryd.f39, by kernel_rfl, cv39⟩
    · injection h with h; injection h with h; subst h; exact ⟨Tryd.f43, by kernel_rfl, cv43⟩
    · injection h with h; injection h with h; subst h; exact ⟨Tryd.f44, by kernel_rfl, cv44⟩
    · injection h with h; injection h with h; subst h; exact ⟨Tryd.f57, by kernel_rfl, cv57⟩
    · injection h with h; injection h with h; subst h; exact ⟨Tryd.f58, by kernel_rfl, cv58⟩
    · injection h with h; injection h with h; subst h; exact ⟨Tryd.f59, by kernel_rfl, cv59⟩
    · injection h with h; injection h with h; subst h; exact ⟨Tryd.f60, by kernel_rfl, cv60⟩
    · injection h with h; injection h with h; subst h; exact ⟨Tryd.f61, by kernel_rfl, cv61⟩
    · injection h with h; injection h with h; subst h; exact ⟨Tryd.f62, by kernel_rfl, cv62⟩
    · injection h with h; injection h with h; subst h; exact ⟨Tryd.f68, by kernel_rfl, cv68⟩
    · injection h with h; injection h with h; subst h; exact ⟨Tryd.f69, by kernel_rfl, cv69⟩
    · injection h with h; injection h with h; subst h; exact ⟨Tryd.f70, by kernel_rfl, cv70⟩
    · injection h with h; injection h with h; subst h; exact ⟨Tryd.f74, by kernel_rfl, cv74⟩
    · injection h with h; injection h with h; subst h; exact ⟨Tryd.f89, by kernel_rfl, cv89⟩
    · injection h with h; injection h with h; subst h; exact ⟨Tryd.f94, by kernel_rfl, cv94⟩
    · injection h with h; injection h with h; subst h; exact ⟨Tryd.f95, by kernel_rfl, cv95⟩
    · injection h with h; injection h with h; subst h; exact ⟨Tryd.f96, by kernel_rfl, cv96⟩
    · injection h with h; injection h with h; subst h; exact ⟨Tryd.f97, by kernel_rfl, cv97⟩
    · injection h with h; injection h with h; subst h; exact ⟨Tryd.f98, by kernel_rfl, cv98⟩
    · injection h with h; injection h with h; subst h; exact ⟨Tryd.f99, by kernel_rfl, cv99⟩
    · injection h with h; injection h with h; subst h; exact ⟨Tryd.f100, by kernel_rfl, cv100⟩
    · injection h with h; injection h with h; subst h; exact ⟨Tryd.f101, by kernel_rfl, cv101⟩
    · injection h with h; injection h with h; subst h; exact ⟨Tryd.f102, by kernel_rfl, cv102⟩
    · injection h with h; injection h with h; subst h; exact ⟨Tryd.f103, by kernel_rfl, cv103⟩
    · injection h with h; injection h with h; subst h; exact ⟨Tryd.f104, by kernel_rfl, cv104⟩
    · injection h with h; injection h with h; subst h; exact ⟨Tryd.f109, by kernel_rfl, cv109⟩
    · injection h with h; injection h with h; subst h; exact ⟨Tryd.f111, by kernel_rfl, cv111⟩
    · injection h with h; injection h with h; subst h; exact ⟨Tryd.f112, by kernel_rfl, cv112⟩
    · injection h with h; injection h with h; subst h; exact ⟨Tryd.f115, by kernel_rfl, cv115⟩
    · injection h with h; injection h with h; subst h; exact ⟨Tryd.f122, by kernel_rfl, cv122⟩
    · injection h with h; injection h with h; subst h; exact ⟨Tryd.f123, by kernel_rfl, cv123⟩
    · injection h with h; injection h with h; subst h; exact ⟨Tryd.f124, by kernel_rfl, cv124⟩
    · injection h with h; injection h with h; subst h; exact ⟨Tryd.f125, by kernel_rfl, cv125⟩
    · injection h with h; injection h with h; subst h; exact ⟨Tryd.f126, by kernel_rfl, cv126⟩
    · injection h with h; injection h with h; subst h; exact ⟨Tryd.f127, by kernel_rfl, cv127⟩
    · injection h with h; injection h with h; subst h; exact ⟨Tryd.f128, by kernel_rfl, cv128⟩
    · injection h with h; injection h with h; subst h; exact ⟨Tryd.f129, by kernel_rfl, cv129⟩
    · injection h with h; injection h with h; subst h; exact ⟨Tryd.f131, by kernel_rfl, cv131⟩
    · injection h with h; injection h with h; subst h; exact ⟨Tryd.f132, by kernel_rfl, cv132⟩
    · injection h with h; injection h with h; subst h; exact ⟨Tryd.f133, by kernel_rfl, cv133⟩
    · injection h with h; injection h with h; subst h; exact ⟨Tryd.f134, by kernel_rfl, cv134⟩
    · injection h with h; injection h with h; subst h; exact ⟨Tryd.f135, by kernel_rfl, cv135⟩
    · injection h with h; injection h with h; subst h; exact ⟨Tryd.f136, by kernel_rfl, cv136⟩
    · injection h with h; injection h with h; subst h; exact ⟨Tryd.f137, by kernel_rfl, cv137⟩
    · injection h with h; injection h with h; subst h; exact ⟨Tryd.f138, by kernel_rfl, cv138⟩
    · injection h with h; injection h with h; subst h; exact ⟨Tryd.f139, by kernel_rfl, cv139⟩
    · injection h with h; injection h with h; subst h; exact ⟨Tryd.f140, by kernel_rfl, cv140⟩
    · injection h with h; injection h with h; subst h; exact ⟨Tryd.f141, by kernel_rfl, cv141⟩
    · injection h with h; injection h with h; subst h; exact ⟨Tryd.f142, by kernel_rfl, cv142⟩
    · injection h with h; injection h with h; subst h; exact ⟨Tryd.f143, by kernel_rfl, cv143⟩
    · injection h with h; injection h with h; subst h; exact ⟨Tryd.f144, by kernel_rfl, cv144⟩
    · injection h with h; injection h with h; subst h; exact ⟨Tryd.f145, by kernel_rfl, cv145⟩
    · injection h with h; injection h with h; subst h; exact ⟨Tryd.f146, by kernel_rfl, cv146⟩
    · injection h with h; injection h with h; subst h; exact ⟨Tryd.f147, by kernel_rfl, cv147⟩
    · cases h
end Go.Proofs.YtebjndbigoddnaaDoor
