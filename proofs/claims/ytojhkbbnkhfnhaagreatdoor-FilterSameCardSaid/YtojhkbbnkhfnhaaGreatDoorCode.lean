/- The program's functions, for the ideal machine. MADE BY gen.py. -/
import Derived.Test.YtojhkbbnkhfnhaaGreatDoorChecked
import Derived.Test.YtojhkbbnkhfnhaaGreatDoorEngL
import Derived.Test.YtojhkbbnkhfnhaaGreatDoorList
import Derived.Test.YtojhkbbnkhfnhaaGreatDoorSrtI
namespace Go.Proofs.YtojhkbbnkhfnhaaGreatDoor
set_option maxRecDepth 100000

/-- winnower/winnowerlaw17.FilterSame -/
def b3 : XC := .seq (.reg [⟨some 4, .box 25 (.t 1), none, false⟩, ⟨some 5, .box 29 (.t 2), none, false⟩, ⟨some 6, .mov (.c (.bool false)), none, false⟩] [0, 4, 5]) (.seq (.reg [⟨some 11, .call (.c (.func 6 [] [])) [], none, false⟩, ⟨some 7, .mov (.t 11), none, false⟩] [0, 4, 5, 7]) (.seq (.reg [⟨some 12, .mov (.t 0), none, false⟩, ⟨some 13, .call (.c (.func 7 [] [])) [.t 12], none, false⟩, ⟨some 8, .mov (.t 13), none, false⟩] [0, 4, 5, 7, 8]) (.seq (.reg [⟨some 14, .load true 6 (.t 5), none, false⟩, ⟨some 15, .call (.c (.func 8 [] [])) [.t 14], none, false⟩, ⟨some 9, .mov (.t 15), none, false⟩] [0, 4, 5, 7, 8, 9]) (.seq (.reg [⟨some 16, .load true 5 (.t 4), none, false⟩, ⟨some 17, .call (.c (.func 9 [] [])) [.t 16], none, false⟩, ⟨some 10, .mov (.t 17), none, false⟩] [0, 4, 5, 7, 8, 9, 10]) (.seq (.seq (.reg [⟨some 18, .mov (.t 7), none, false⟩, ⟨some 19, .un .not (.t 18), none, false⟩, ⟨some 20, .mov (.t 19), none, false⟩, ⟨some 21, .mov (.t 8), some (20, false), false⟩, ⟨some 22, .un .not (.t 21), some (20, false), false⟩, ⟨some 23, .pick (.t 20) (.c (.bool true)) (.t 22), none, false⟩, ⟨some 24, .mov (.t 23), none, false⟩, ⟨some 25, .mov (.t 9), some (24, false), false⟩, ⟨some 26, .un .not (.t 25), some (24, false), false⟩, ⟨some 27, .pick (.t 24) (.c (.bool true)) (.t 26), none, false⟩, ⟨some 28, .mov (.t 27), none, false⟩, ⟨some 29, .mov (.t 10), some (28, false), false⟩, ⟨some 30, .un .not (.t 29), some (28, false), false⟩, ⟨some 31, .pick (.t 28) (.c (.bool true)) (.t 30), none, false⟩, ⟨some 32, .mov (.t 31), none, false⟩, ⟨some 33, .load true 5 (.t 4), some (32, false), false⟩, ⟨some 34, .load true 6 (.t 5), some (32, false), false⟩, ⟨some 35, .call (.c (.func 10 [] [])) [.t 33, .t 34], some (32, false), false⟩, ⟨some 36, .un .not (.t 35), some (32, false), false⟩, ⟨some 37, .pick (.t 32) (.c (.bool true)) (.t 36), none, false⟩] [0, 5, 7, 37]) (.cond (.t 37) (.seq (.reg [⟨some 38, .mov (.t 7), none, false⟩, ⟨some 6, .mov (.t 38), none, false⟩] [6]) .ret) .skip)) (.seq (.reg [⟨some 39, .mov (.t 0), none, false⟩, ⟨some 40, .load true 6 (.t 5), none, false⟩, ⟨some 41, .call (.c (.func 12 [] [])) [.t 39, .t 40], none, true⟩, ⟨some 42, .mov (.t 0), none, false⟩, ⟨some 43, .load true 6 (.t 5), none, false⟩, ⟨some 44, .call (.c (.func 14 [] [])) [.t 43], none, false⟩, ⟨some 45, .call (.c (.func 13 [] [])) [.t 42, .t 44], none, false⟩, ⟨some 46, .call (.c (.func 11 [] [])) [.t 41, .t 45], none, false⟩, ⟨some 6, .mov (.t 46), none, false⟩] [6]) .ret))))))
def x3 : XF := ⟨3, b3, [.t 6]⟩
def h3 : Yl := fun id => match id with
  | 0 => [0, 4, 5]
  | 1 => [0, 4, 5, 7]
  | 2 => [0, 4, 5, 7, 8]
  | 3 => [0, 4, 5, 7, 8, 9]
  | 4 => [0, 4, 5, 7, 8, 9, 10]
  | 5 => [0, 5, 7, 37]
  | 6 => [6]
  | 7 => [6]
  | _ => []
theorem cv3 : cvF Tryz.prog h3 Tryz.f3 = some x3 := by kernel_rfl

/-- winnower/winnowerlaw17.awake -/
def b6 : XC := .seq (.reg [⟨some 0, .mov (.c (.bool false)), none, false⟩] []) (.seq (.reg [⟨some 6, .call (.c (.func 23 [] [])) [.c (.int .i64 3)], none, false⟩, ⟨some 7, .mkslice true 51 4 [.t 6], none, false⟩, ⟨some 8, .build [.int .i64 0, .int .i64 0, .str ⟨#[]⟩, .bool false] [], none, false⟩, ⟨some 9, .mkslice true 51 4 [.t 8], none, false⟩, ⟨some 10, .call (.c (.func 23 [] [])) [.c (.int .i64 7)], none, false⟩, ⟨some 11, .mkslice true 51 4 [.t 10], none, false⟩, ⟨some 12, .mkslice true 45 1 [.t 7, .t 9, .t 11], none, false⟩, ⟨some 1, .mov (.t 12), none, false⟩] [1]) (.seq (.reg [⟨some 13, .call (.c (.func 23 [] [])) [.c (.int .i64 5)], none, false⟩, ⟨some 14, .build [.int .i64 0, .int .i64 0, .int .i64 0, .int .i64 0, .str ⟨#[]⟩, .bool false, .int .i64 0, .int .i64 0] [(0, (1, .c (.int .i64 5))), (2, (4, .t 13))], none, false⟩, ⟨some 15, .build [.int .i64 0, .int .i64 0, .int .i64 0, .int .i64 0, .str ⟨#[]⟩, .bool false, .int .i64 0, .int .i64 0] [(0, (1, .c (.int .i64 10)))], none, false⟩, ⟨some 16, .mkslice true 54 8 [.t 14, .t 15], none, false⟩, ⟨some 2, .mov (.t 16), none, false⟩] [1, 2]) (.seq (.reg [⟨some 17, .mov (.t 2), none, false⟩, ⟨some 18, .slc 8 (.t 17) none (some (.c (.int .i64 1))) none, none, false⟩, ⟨some 19, .mov (.t 1), none, false⟩, ⟨some 20, .call (.c (.func 13 [] [])) [.t 18, .t 19], none, false⟩, ⟨some 21, .call (.c (.func 25 [] [])) [.t 20, .c (.int .i64 (-1))], none, false⟩, ⟨some 22, .mkslice true 3 1 [.c (.int .i64 2)], none, false⟩, ⟨some 23, .call (.c (.func 24 [] [])) [.t 21, .t 22], none, false⟩, ⟨some 3, .mov (.t 23), none, false⟩] [1, 2, 3]) (.seq (.reg [⟨some 24, .mov (.t 2), none, false⟩, ⟨some 25, .mov (.t 1), none, false⟩, ⟨some 26, .call (.c (.func 13 [] [])) [.t 24, .t 25], none, false⟩, ⟨some 27, .call (.c (.func 25 [] [])) [.t 26, .c (.int .i64 (-1))], none, false⟩, ⟨some 28, .mkslice true 3 1 [.c (.int .i64 0), .c (.int .i64 1)], none, false⟩, ⟨some 29, .call (.c (.func 24 [] [])) [.t 27, .t 28], none, false⟩, ⟨some 4, .mov (.t 29), none, false⟩] [1, 3, 4]) (.seq (.reg [⟨some 30, .call (.c (.func 23 [] [])) [.c (.int .i64 3)], none, false⟩, ⟨some 31, .build [.int .i64 0, .int .i64 0, .int .i64 0, .int .i64 0, .str ⟨#[]⟩, .bool false, .int .i64 0, .int .i64 0] [(0, (1, .c (.int .i64 2))), (2, (4, .t 30))], none, false⟩, ⟨some 32, .mkslice true 54 8 [.t 31], none, false⟩, ⟨some 33, .mov (.t 1), none, false⟩, ⟨some 34, .call (.c (.func 13 [] [])) [.t 32, .t 33], none, false⟩, ⟨some 35, .call (.c (.func 25 [] [])) [.t 34, .c (.int .i64 (-1))], none, false⟩, ⟨some 36, .mkslice true 3 1 [.c (.int .i64 2)], none, false⟩, ⟨some 37, .call (.c (.func 24 [] [])) [.t 35, .t 36], none, false⟩, ⟨some 5, .mov (.t 37), none, false⟩] [3, 4, 5]) (.seq (.reg [⟨some 38, .mov (.t 3), none, false⟩, ⟨some 39, .mov (.t 38), none, false⟩, ⟨some 40, .mov (.t 4), some (39, true), false⟩, ⟨some 41, .pick (.t 39) (.t 40) (.c (.bool false)), none, false⟩, ⟨some 42, .mov (.t 41), none, false⟩, ⟨some 43, .mov (.t 5), some (42, true), false⟩, ⟨some 44, .pick (.t 42) (.t 43) (.c (.bool false)), none, false⟩, ⟨some 45, .mov (.t 44), none, false⟩, ⟨some 46, .call (.c (.func 26 [] [])) [.c .nils, .c .nils], some (45, true), false⟩, ⟨some 47, .pick (.t 45) (.t 46) (.c (.bool false)), none, false⟩, ⟨some 0, .mov (.t 47), none, false⟩] [0]) .ret))))))
def x6 : XF := ⟨0, b6, [.t 0]⟩
def h6 : Yl := fun id => match id with
  | 1 => [1]
  | 2 => [1, 2]
  | 3 => [1, 2, 3]
  | 4 => [1, 3, 4]
  | 5 => [3, 4, 5]
  | 6 => [0]
  | _ => []
theorem cv6 : cvF Tryz.prog h6 Tryz.f6 = some x6 := by kernel_rfl

/-- winnower/winnowerref17.Few -/
def lp7_0 : XC := .seq (.seq (.reg [⟨some 7, .mov (.t 3), none, false⟩, ⟨some 8, .mov (.t 0), none, false⟩, ⟨some 9, .len 8 (.t 8), none, false⟩, ⟨some 10, .bin .lss (.t 7) (.t 9), none, false⟩] [0, 3, 10]) (.cond (.t 10) .skip (.exit 0))) (.seq (.block 1 (.seq (.reg [⟨some 13, .mov (.t 0), none, false⟩, ⟨some 14, .mov (.t 3), none, false⟩, ⟨some 15, .iaddr 8 (.t 13) (.t 14), none, false⟩, ⟨some 16, .faddr 2 (.t 15), none, false⟩, ⟨some 17, .faddr 2 (.t 16), none, false⟩, ⟨some 18, .load false 1 (.t 17), none, false⟩, ⟨some 19, .lens (.t 18), none, false⟩, ⟨some 20, .bin .gtr (.t 19) (.c (.int .i64 300)), none, false⟩] [0, 3, 20]) (.cond (.t 20) (.seq (.reg [⟨some 2, .mov (.c (.bool false)), none, false⟩] [2]) .ret) .skip))) (.reg [⟨some 11, .mov (.t 3), none, false⟩, ⟨some 12, .bin .add (.t 11) (.c (.int .i64 1)), none, false⟩, ⟨some 3, .mov (.t 12), none, false⟩] [0, 3]))
def b7 : XC := .seq (.reg [⟨some 2, .mov (.c (.bool false)), none, false⟩] [0]) (.seq (.seq (.reg [⟨some 4, .mov (.t 0), none, false⟩, ⟨some 5, .len 8 (.t 4), none, false⟩, ⟨some 6, .bin .gtr (.t 5) (.c (.int .i64 60)), none, false⟩] [0, 6]) (.cond (.t 6) (.seq (.reg [⟨some 2, .mov (.c (.bool false)), none, false⟩] [2]) .ret) .skip)) (.seq (.seq (.reg [⟨some 3, .mov (.c (.int .i64 0)), none, false⟩] [0, 3]) (.block 0 (.loop lp7_0))) (.seq (.reg [⟨some 2, .mov (.c (.bool true)), none, false⟩] [2]) .ret)))
def x7 : XF := ⟨1, b7, [.t 2]⟩
def h7 : Yl := fun id => match id with
  | 0 => [0]
  | 1 => [0, 6]
  | 2 => [2]
  | 3 => [0, 3]
  | 4 => [0, 3, 10]
  | 5 => [0, 3]
  | 6 => [0, 3, 20]
  | 7 => [2]
  | 8 => [2]
  | _ => []
theorem cv7 : cvF Tryz.prog h7 Tryz.f7 = some x7 := by kernel_rfl

/-- winnower/winnowerref12.Light -/
def lp8_0 : XC := .seq (.seq (.reg [⟨some 15, .mov (.t 3), none, false⟩, ⟨some 16, .faddr 5 (.t 1), none, false⟩, ⟨some 17, .load false 1 (.t 16), none, false⟩, ⟨some 18, .len 3 (.t 17), none, false⟩, ⟨some 19, .bin .lss (.t 15) (.t 18), none, false⟩] [1, 3, 19]) (.cond (.t 19) .skip (.exit 0))) (.seq (.block 1 (.seq (.reg [⟨some 22, .faddr 5 (.t 1), none, false⟩, ⟨some 23, .load false 1 (.t 22), none, false⟩, ⟨some 24, .mov (.t 3), none, false⟩, ⟨some 25, .iaddr 3 (.t 23) (.t 24), none, false⟩, ⟨some 26, .load true 3 (.t 25), none, false⟩, ⟨some 27, .call (.c (.func 27 [] [])) [.t 26], none, false⟩, ⟨some 4, .mov (.t 27), none, false⟩] [1, 3, 4]) (.seq (.reg [⟨some 28, .mov (.t 4), none, false⟩, ⟨some 29, .un .not (.t 28), none, false⟩] [1, 3, 29]) (.cond (.t 29) (.seq (.reg [⟨some 2, .mov (.c (.bool false)), none, false⟩] [2]) .ret) .skip)))) (.reg [⟨some 20, .mov (.t 3), none, false⟩, ⟨some 21, .bin .add (.t 20) (.c (.int .i64 1)), none, false⟩, ⟨some 3, .mov (.t 21), none, false⟩] [1, 3]))
def b8 : XC := .seq (.reg [⟨some 1, .box 29 (.t 0), none, false⟩, ⟨some 2, .mov (.c (.bool false)), none, false⟩] [1]) (.seq (.seq (.reg [⟨some 5, .faddr 4 (.t 1), none, false⟩, ⟨some 6, .load false 1 (.t 5), none, false⟩, ⟨some 7, .len 1 (.t 6), none, false⟩, ⟨some 8, .bin .gtr (.t 7) (.c (.int .i64 200)), none, false⟩, ⟨some 9, .mov (.t 8), none, false⟩, ⟨some 10, .faddr 5 (.t 1), some (9, false), false⟩, ⟨some 11, .load false 1 (.t 10), some (9, false), false⟩, ⟨some 12, .len 3 (.t 11), some (9, false), false⟩, ⟨some 13, .bin .gtr (.t 12) (.c (.int .i64 12)), some (9, false), false⟩, ⟨some 14, .pick (.t 9) (.c (.bool true)) (.t 13), none, false⟩] [1, 14]) (.cond (.t 14) (.seq (.reg [⟨some 2, .mov (.c (.bool false)), none, false⟩] [2]) .ret) .skip)) (.seq (.seq (.reg [⟨some 3, .mov (.c (.int .i64 0)), none, false⟩] [1, 3]) (.block 0 (.loop lp8_0))) (.seq (.reg [⟨some 2, .mov (.c (.bool true)), none, false⟩] [2]) .ret)))
def x8 : XF := ⟨1, b8, [.t 2]⟩
def h8 : Yl := fun id => match id with
  | 0 => [1]
  | 1 => [1, 14]
  | 2 => [2]
  | 3 => [1, 3]
  | 4 => [1, 3, 19]
  | 5 => [1, 3]
  | 6 => [1, 3, 4]
  | 7 => [1, 3, 29]
  | 8 => [2]
  | 9 => [2]
  | _ => []
theorem cv8 : cvF Tryz.prog h8 Tryz.f8 = some x8 := by kernel_rfl

/-- winnower/winnowerref07.Few -/
def lp9_0 : XC := .seq (.seq (.reg [⟨some 8, .mov (.t 3), none, false⟩, ⟨some 9, .faddr 0 (.t 1), none, false⟩, ⟨some 10, .load false 1 (.t 9), none, false⟩, ⟨some 11, .len 3 (.t 10), none, false⟩, ⟨some 12, .bin .lss (.t 8) (.t 11), none, false⟩] [1, 3, 12]) (.cond (.t 12) .skip (.exit 0))) (.seq (.block 1 (.seq (.reg [⟨some 15, .faddr 0 (.t 1), none, false⟩, ⟨some 16, .load false 1 (.t 15), none, false⟩, ⟨some 17, .mov (.t 3), none, false⟩, ⟨some 18, .iaddr 3 (.t 16) (.t 17), none, false⟩, ⟨some 19, .faddr 0 (.t 18), none, false⟩, ⟨some 20, .load false 1 (.t 19), none, false⟩, ⟨some 21, .lens (.t 20), none, false⟩, ⟨some 22, .bin .gtr (.t 21) (.c (.int .i64 100)), none, false⟩] [1, 3, 22]) (.cond (.t 22) (.seq (.reg [⟨some 2, .mov (.c (.bool false)), none, false⟩] [2]) .ret) .skip))) (.reg [⟨some 13, .mov (.t 3), none, false⟩, ⟨some 14, .bin .add (.t 13) (.c (.int .i64 1)), none, false⟩, ⟨some 3, .mov (.t 14), none, false⟩] [1, 3]))
def b9 : XC := .seq (.reg [⟨some 1, .box 25 (.t 0), none, false⟩, ⟨some 2, .mov (.c (.bool false)), none, false⟩] [1]) (.seq (.seq (.reg [⟨some 4, .faddr 0 (.t 1), none, false⟩, ⟨some 5, .load false 1 (.t 4), none, false⟩, ⟨some 6, .len 3 (.t 5), none, false⟩, ⟨some 7, .bin .gtr (.t 6) (.c (.int .i64 12)), none, false⟩] [1, 7]) (.cond (.t 7) (.seq (.reg [⟨some 2, .mov (.c (.bool false)), none, false⟩] [2]) .ret) .skip)) (.seq (.seq (.reg [⟨some 3, .mov (.c (.int .i64 0)), none, false⟩] [1, 3]) (.block 0 (.loop lp9_0))) (.seq (.reg [⟨some 2, .mov (.c (.bool true)), none, false⟩] [2]) .ret)))
def x9 : XF := ⟨1, b9, [.t 2]⟩
def h9 : Yl := fun id => match id with
  | 0 => [1]
  | 1 => [1, 7]
  | 2 => [2]
  | 3 => [1, 3]
  | 4 => [1, 3, 12]
  | 5 => [1, 3]
  | 6 => [1, 3, 22]
  | 7 => [2]
  | 8 => [2]
  | _ => []
theorem cv9 : cvF Tryz.prog h9 Tryz.f9 = some x9 := by kernel_rfl

/-- winnower/seal.May -/
def lp10_0 : XC := .seq (.seq (.reg [⟨some 55, .mov (.t 9), none, false⟩, ⟨some 56, .mov (.t 5), none, false⟩, ⟨some 57, .len 1 (.t 56), none, false⟩, ⟨some 58, .bin .lss (.t 55) (.t 57), none, false⟩] [3, 5, 7, 9, 58]) (.cond (.t 58) .skip (.exit 0))) (.seq (.block 1 (.seq (.reg [⟨some 61, .load true 6 (.t 7), none, false⟩, ⟨some 62, .mov (.t 9), none, false⟩, ⟨some 63, .bin .sub (.t 62) (.c (.int .i64 1)), none, false⟩, ⟨some 64, .mov (.t 9), none, false⟩, ⟨some 65, .call (.c (.func 34 [] [])) [.t 61, .t 63, .t 64], none, false⟩, ⟨some 10, .mov (.t 65), none, false⟩] [3, 5, 7, 9, 10]) (.seq (.reg [⟨some 66, .mov (.t 10), none, false⟩, ⟨some 67, .bin .gtr (.t 66) (.c (.int .i64 0)), none, false⟩, ⟨some 68, .mov (.t 67), none, false⟩, ⟨some 69, .mov (.t 10), some (68, false), false⟩, ⟨some 70, .bin .eql (.t 69) (.c (.int .i64 0)), some (68, false), false⟩, ⟨some 71, .mov (.t 70), some (68, false), false⟩, ⟨some 72, .faddr 4 (.t 3), some (71, true), false⟩, ⟨some 73, .load false 1 (.t 72), some (71, true), false⟩, ⟨some 74, .mov (.t 9), some (71, true), false⟩, ⟨some 75, .bin .sub (.t 74) (.c (.int .i64 1)), some (71, true), false⟩, ⟨some 76, .iaddr 1 (.t 73) (.t 75), some (71, true), false⟩, ⟨some 77, .load false 1 (.t 76), some (71, true), false⟩, ⟨some 78, .faddr 4 (.t 3), some (71, true), false⟩, ⟨some 79, .load false 1 (.t 78), some (71, true), false⟩, ⟨some 80, .mov (.t 9), some (71, true), false⟩, ⟨some 81, .iaddr 1 (.t 79) (.t 80), some (71, true), false⟩, ⟨some 82, .load false 1 (.t 81), some (71, true), false⟩, ⟨some 83, .bin .geq (.t 77) (.t 82), some (71, true), false⟩, ⟨some 84, .pick (.t 71) (.t 83) (.c (.bool false)), some (68, false), false⟩, ⟨some 85, .pick (.t 68) (.c (.bool true)) (.t 84), none, false⟩] [3, 5, 7, 9, 85]) (.cond (.t 85) (.seq (.reg [⟨some 4, .mov (.c (.bool false)), none, false⟩] [4]) .ret) .skip)))) (.reg [⟨some 59, .mov (.t 9), none, false⟩, ⟨some 60, .bin .add (.t 59) (.c (.int .i64 1)), none, false⟩, ⟨some 9, .mov (.t 60), none, false⟩] [3, 5, 7, 9]))
def b10 : XC := .seq (.reg [⟨some 2, .box 25 (.t 0), none, false⟩, ⟨some 3, .box 29 (.t 1), none, false⟩, ⟨some 4, .mov (.c (.bool false)), none, false⟩] [2, 3]) (.seq (.reg [⟨some 12, .load true 6 (.t 3), none, false⟩, ⟨some 13, .call (.c (.func 28 [] [])) [.t 12], none, false⟩, ⟨some 11, .mov (.t 13), none, false⟩, ⟨some 14, .ext (.t 11) 0, none, false⟩, ⟨some 15, .ext (.t 11) 1, none, false⟩, ⟨some 5, .mov (.t 14), none, false⟩, ⟨some 6, .mov (.t 15), none, false⟩] [2, 3, 5, 6]) (.seq (.reg [⟨some 16, .load true 5 (.t 2), none, false⟩, ⟨some 17, .mov (.t 5), none, false⟩, ⟨some 18, .build [.nils, .int .i64 0, .int .i64 0, .int .i64 0, .int .i64 0, .nils] [(0, (5, .t 16)), (5, (1, .t 17))], none, false⟩, ⟨some 7, .alloc 67 [.nils, .int .i64 0, .int .i64 0, .int .i64 0, .int .i64 0, .nils], none, false⟩, ⟨none, .store 6 (.t 7) (.t 18), none, false⟩] [2, 3, 5, 6, 7]) (.seq (.seq (.reg [⟨some 19, .mov (.t 6), none, false⟩, ⟨some 20, .un .not (.t 19), none, false⟩, ⟨some 21, .mov (.t 20), none, false⟩, ⟨some 22, .load true 6 (.t 3), some (21, false), false⟩, ⟨some 23, .call (.c (.func 29 [] [])) [.t 22], some (21, false), false⟩, ⟨some 24, .un .not (.t 23), some (21, false), false⟩, ⟨some 25, .pick (.t 21) (.c (.bool true)) (.t 24), none, false⟩, ⟨some 26, .mov (.t 25), none, false⟩, ⟨some 27, .faddr 4 (.t 3), some (26, false), false⟩, ⟨some 28, .load false 1 (.t 27), some (26, false), false⟩, ⟨some 29, .len 1 (.t 28), some (26, false), false⟩, ⟨some 30, .bin .gtr (.t 29) (.c (.int .i64 4096)), some (26, false), false⟩, ⟨some 31, .pick (.t 26) (.c (.bool true)) (.t 30), none, false⟩, ⟨some 32, .mov (.t 31), none, false⟩, ⟨some 33, .faddr 5 (.t 3), some (32, false), false⟩, ⟨some 34, .load false 1 (.t 33), some (32, false), false⟩, ⟨some 35, .len 3 (.t 34), some (32, false), false⟩, ⟨some 36, .faddr 0 (.t 2), some (32, false), false⟩, ⟨some 37, .load false 1 (.t 36), some (32, false), false⟩, ⟨some 38, .len 3 (.t 37), some (32, false), false⟩, ⟨some 39, .bin .neq (.t 35) (.t 38), some (32, false), false⟩, ⟨some 40, .pick (.t 32) (.c (.bool true)) (.t 39), none, false⟩, ⟨some 41, .mov (.t 40), none, false⟩, ⟨some 42, .load true 6 (.t 7), some (41, false), false⟩, ⟨some 43, .call (.c (.func 30 [] [])) [.t 42], some (41, false), false⟩, ⟨some 44, .un .not (.t 43), some (41, false), false⟩, ⟨some 45, .pick (.t 41) (.c (.bool true)) (.t 44), none, false⟩] [3, 5, 7, 45]) (.cond (.t 45) (.seq (.reg [⟨some 4, .mov (.c (.bool false)), none, false⟩] [4]) .ret) .skip)) (.seq (.reg [⟨some 46, .faddr 4 (.t 3), none, false⟩, ⟨some 47, .load false 1 (.t 46), none, false⟩, ⟨some 48, .call (.c (.func 31 [] [])) [.t 47], none, false⟩, ⟨some 8, .mov (.t 48), none, false⟩] [3, 5, 7, 8]) (.seq (.reg [⟨some 49, .mov (.t 8), none, false⟩, ⟨some 50, .call (.c (.func 32 [] [])) [.t 49], none, false⟩] [3, 5, 7, 8]) (.seq (.seq (.reg [⟨some 51, .load true 6 (.t 3), none, false⟩, ⟨some 52, .mov (.t 8), none, false⟩, ⟨some 53, .call (.c (.func 33 [] [])) [.t 51, .t 52], none, false⟩, ⟨some 54, .un .not (.t 53), none, false⟩] [3, 5, 7, 54]) (.cond (.t 54) (.seq (.reg [⟨some 4, .mov (.c (.bool false)), none, false⟩] [4]) .ret) .skip)) (.seq (.seq (.reg [⟨some 9, .mov (.c (.int .i64 1)), none, false⟩] [3, 5, 7, 9]) (.block 0 (.loop lp10_0))) (.seq (.reg [⟨some 4, .mov (.c (.bool true)), none, false⟩] [4]) .ret))))))))
def x10 : XF := ⟨2, b10, [.t 4]⟩
def h10 : Yl := fun id => match id with
  | 0 => [2, 3]
  | 1 => [2, 3, 5, 6]
  | 2 => [2, 3, 5, 6, 7]
  | 3 => [3, 5, 7, 45]
  | 4 => [4]
  | 5 => [3, 5, 7, 8]
  | 6 => [3, 5, 7, 8]
  | 7 => [3, 5, 7, 54]
  | 8 => [4]
  | 9 => [3, 5, 7, 9]
  | 10 => [3, 5, 7, 9, 58]
  | 11 => [3, 5, 7, 9]
  | 12 => [3, 5, 7, 9, 10]
  | 13 => [3, 5, 7, 9, 85]
  | 14 => [4]
  | 15 => [4]
  | _ => []
theorem cv10 : cvF Tryz.prog h10 Tryz.f10 = some x10 := by kernel_rfl

/-- winnower/bitset.Same -/
def lp11_0 : XC := .seq (.reg [⟨some 14, .bin .lss (.t 13) (.t 12), none, false⟩] [2, 3, 12, 13, 14]) (.seq (.cond (.t 14) .skip (.exit 0)) (.seq (.block 1 (.seq (.reg [⟨some 15, .mov (.t 13), none, false⟩, ⟨some 5, .mov (.t 15), none, false⟩] [2, 3, 5, 12, 13]) (.seq (.reg [⟨some 16, .load true 1 (.t 2), none, false⟩, ⟨some 17, .mov (.t 5), none, false⟩, ⟨some 18, .call (.c (.func 35 [] [])) [.t 16, .t 17], none, true⟩, ⟨some 19, .load true 1 (.t 3), none, false⟩, ⟨some 20, .mov (.t 5), none, false⟩, ⟨some 21, .call (.c (.func 35 [] [])) [.t 19, .t 20], none, false⟩, ⟨some 22, .bin .neq (.t 18) (.t 21), none, false⟩] [2, 3, 12, 13, 22]) (.cond (.t 22) (.seq (.reg [⟨some 4, .mov (.c (.bool false)), none, false⟩] [4]) .ret) .skip)))) (.reg [⟨some 23, .bin .add (.t 13) (.c (.int .i64 1)), none, false⟩, ⟨some 13, .mov (.t 23), none, false⟩] [2, 3, 12, 13])))
def b11 : XC := .seq (.reg [⟨some 2, .box 38 (.t 0), none, false⟩, ⟨some 3, .box 38 (.t 1), none, false⟩, ⟨some 4, .mov (.c (.bool false)), none, false⟩] [2, 3]) (.seq (.seq (.reg [⟨some 6, .faddr 0 (.t 2), none, false⟩, ⟨some 7, .load false 1 (.t 6), none, false⟩, ⟨some 8, .len 1 (.t 7), none, false⟩, ⟨some 9, .faddr 0 (.t 3), none, false⟩, ⟨some 10, .load false 1 (.t 9), none, false⟩, ⟨some 11, .len 1 (.t 10), none, false⟩, ⟨some 12, .mmx true [.t 8, .t 11], none, false⟩, ⟨some 13, .mov (.c (.int .i64 0)), none, false⟩] [2, 3, 12, 13]) (.block 0 (.loop lp11_0))) (.seq (.reg [⟨some 4, .mov (.c (.bool true)), none, false⟩] [4]) .ret))
def x11 : XF := ⟨2, b11, [.t 4]⟩
def h11 : Yl := fun id => match id with
  | 0 => [2, 3]
  | 1 => [2, 3, 12, 13]
  | 2 => [2, 3, 12, 13, 14]
  | 3 => [2, 3, 5, 12, 13]
  | 4 => [2, 3, 12, 13, 22]
  | 5 => [4]
  | 6 => [2, 3, 12, 13]
  | 7 => [4]
  | _ => []
theorem cv11 : cvF Tryz.prog h11 Tryz.f11 = some x11 := by kernel_rfl

/-- winnower/filter.Sealed -/
def b12 : XC := .seq (.reg [⟨some 3, .box 29 (.t 1), none, false⟩, ⟨some 4, .alloc 38 [.nils], none, false⟩] [0, 3, 4]) (.seq (.reg [⟨some 6, .faddr 4 (.t 3), none, false⟩, ⟨some 7, .load false 1 (.t 6), none, false⟩, ⟨some 8, .len 1 (.t 7), none, false⟩, ⟨some 5, .alloc 3 [.int .i64 0], none, false⟩, ⟨none, .store 1 (.t 5) (.t 8), none, false⟩] [0, 3, 4, 5]) (.seq (.seq (.reg [⟨some 9, .faddr 5 (.t 3), none, false⟩, ⟨some 10, .load false 1 (.t 9), none, false⟩, ⟨some 11, .mkfn 37 [] [.t 5], none, false⟩, ⟨some 12, .call (.c (.func 36 [] [])) [.t 10, .t 11], none, false⟩] [0, 3, 4, 5, 12]) (.cond (.t 12) (.seq (.reg [⟨some 13, .build [.nils] [], none, false⟩, ⟨none, .store 1 (.t 4) (.t 13), none, false⟩] [4]) .ret) .skip)) (.seq (.reg [⟨some 14, .mov (.t 0), none, false⟩, ⟨some 15, .load false 1 (.t 5), none, false⟩, ⟨some 16, .load true 6 (.t 3), none, false⟩, ⟨some 17, .mkfn 40 [.t 16] [], none, false⟩, ⟨some 18, .call (.c (.func 39 [] [])) [.t 14, .t 15, .t 17], none, false⟩, ⟨none, .store 1 (.t 4) (.t 18), none, false⟩] [4]) .ret)))
def x12 : XF := ⟨2, b12, [.cell 4 true 1]⟩
def h12 : Yl := fun id => match id with
  | 0 => [0, 3, 4]
  | 1 => [0, 3, 4, 5]
  | 2 => [0, 3, 4, 5, 12]
  | 3 => [4]
  | 4 => [4]
  | _ => []
theorem cv12 : cvF Tryz.prog h12 Tryz.f12 = some x12 := by kernel_rfl

/-- winnower/filter.Rows -/
def b13 : XC := .seq (.reg [⟨some 4, .alloc 38 [.nils], none, false⟩] [0, 1, 4]) (.seq (.reg [⟨some 5, .mov (.t 0), none, false⟩, ⟨some 6, .mov (.t 1), none, false⟩, ⟨some 7, .len 1 (.t 6), none, false⟩, ⟨some 8, .mov (.t 1), none, false⟩, ⟨some 9, .mkfn 41 [.t 8] [], none, false⟩, ⟨some 10, .call (.c (.func 39 [] [])) [.t 5, .t 7, .t 9], none, false⟩, ⟨none, .store 1 (.t 4) (.t 10), none, false⟩] [4]) .ret)
def x13 : XF := ⟨2, b13, [.cell 4 true 1]⟩
def h13 : Yl := fun id => match id with
  | 0 => [0, 1, 4]
  | 1 => [4]
  | _ => []
theorem cv13 : cvF Tryz.prog h13 Tryz.f13 = some x13 := by kernel_rfl

/-- winnower/seal.Rows -/
def lp14_0 : XC := .seq (.reg [⟨some 24, .bin .lss (.t 23) (.t 22), none, false⟩] [1, 5, 22, 23, 24]) (.seq (.cond (.t 24) .skip (.exit 0)) (.seq (.block 1 (.seq (.reg [⟨some 25, .mov (.t 23), none, false⟩, ⟨some 6, .mov (.t 25), none, false⟩] [1, 5, 6, 22, 23]) (.reg [⟨some 26, .mov (.t 5), none, false⟩, ⟨some 27, .load true 6 (.t 1), none, false⟩, ⟨some 28, .mov (.t 6), none, false⟩, ⟨some 29, .call (.c (.func 17 [] [])) [.t 27, .t 28], none, false⟩, ⟨some 30, .mkslice true 45 1 [.t 29], none, false⟩, ⟨some 31, .app 45 1 24 (.t 26) (.t 30), none, false⟩, ⟨some 5, .mov (.t 31), none, false⟩] [1, 5, 22, 23]))) (.reg [⟨some 32, .bin .add (.t 23) (.c (.int .i64 1)), none, false⟩, ⟨some 23, .mov (.t 32), none, false⟩] [1, 5, 22, 23])))
def b14 : XC := .seq (.reg [⟨some 1, .box 29 (.t 0), none, false⟩, ⟨some 2, .mov (.c .nils), none, false⟩] [1]) (.seq (.seq (.reg [⟨some 8, .load true 6 (.t 1), none, false⟩, ⟨some 9, .call (.c (.func 28 [] [])) [.t 8], none, false⟩, ⟨some 7, .mov (.t 9), none, false⟩, ⟨some 10, .ext (.t 7) 0, none, false⟩, ⟨some 11, .ext (.t 7) 1, none, false⟩, ⟨some 3, .mov (.t 10), none, false⟩, ⟨some 4, .mov (.t 11), none, false⟩] [1, 3, 4]) (.seq (.reg [⟨some 12, .mov (.t 4), none, false⟩, ⟨some 13, .mov (.t 12), none, false⟩, ⟨some 14, .faddr 5 (.t 1), some (13, true), false⟩, ⟨some 15, .load false 1 (.t 14), some (13, true), false⟩, ⟨some 16, .len 3 (.t 15), some (13, true), false⟩, ⟨some 17, .bin .gtr (.t 16) (.c (.int .i64 0)), some (13, true), false⟩, ⟨some 18, .pick (.t 13) (.t 17) (.c (.bool false)), none, false⟩] [1, 3, 18]) (.cond (.t 18) (.seq (.reg [⟨some 19, .mov (.t 3), none, false⟩, ⟨some 2, .mov (.t 19), none, false⟩] [2]) .ret) .skip))) (.seq (.reg [⟨some 5, .mov (.c .nils), none, false⟩] [1, 5]) (.seq (.seq (.reg [⟨some 20, .faddr 4 (.t 1), none, false⟩, ⟨some 21, .load false 1 (.t 20), none, false⟩, ⟨some 22, .len 1 (.t 21), none, false⟩, ⟨some 23, .mov (.c (.int .i64 0)), none, false⟩] [1, 5, 22, 23]) (.block 0 (.loop lp14_0))) (.seq (.reg [⟨some 33, .mov (.t 5), none, false⟩, ⟨some 2, .mov (.t 33), none, false⟩] [2]) .ret))))
def x14 : XF := ⟨1, b14, [.t 2]⟩
def h14 : Yl := fun id => match id with
  | 0 => [1]
  | 1 => [1, 3, 4]
  | 2 => [1, 3, 18]
  | 3 => [2]
  | 4 => [1, 5]
  | 5 => [1, 5, 22, 23]
  | 6 => [1, 5, 22, 23, 24]
  | 7 => [1, 5, 6, 22, 23]
  | 8 => [1, 5, 22, 23]
  | 9 => [1, 5, 22, 23]
  | 10 => [2]
  | _ => []
theorem cv14 : cvF Tryz.prog h14 Tryz.f14 = some x14 := by kernel_rfl

/-- winnower/seal.Row -/
def lp17_0 : XC := .seq (.reg [⟨some 23, .bin .lss (.t 22) (.t 21), none, false⟩] [1, 5, 20, 21, 22, 23]) (.seq (.cond (.t 23) .skip (.exit 0)) (.seq (.block 1 (.seq (.reg [⟨some 24, .iaddr 3 (.t 20) (.t 22), none, false⟩, ⟨some 25, .load true 3 (.t 24), none, false⟩, ⟨some 7, .alloc 61 [.int .i64 0, .nils, .nils], none, false⟩, ⟨none, .store 3 (.t 7) (.t 25), none, false⟩] [1, 5, 7, 20, 21, 22]) (.seq (.reg [⟨some 27, .load true 3 (.t 7), none, false⟩, ⟨some 28, .mov (.t 1), none, false⟩, ⟨some 29, .call (.c (.func 44 [] [])) [.t 27, .t 28], none, false⟩, ⟨some 26, .mov (.t 29), none, false⟩, ⟨some 30, .ext (.t 26) 0, none, false⟩, ⟨some 31, .ext (.t 26) 1, none, false⟩, ⟨some 8, .alloc 51 [.int .i64 0, .int .i64 0, .str ⟨#[]⟩, .bool false], none, false⟩, ⟨none, .store 4 (.t 8) (.t 30), none, false⟩, ⟨some 9, .mov (.t 31), none, false⟩] [1, 5, 8, 9, 20, 21, 22]) (.seq (.seq (.reg [⟨some 32, .mov (.t 9), none, false⟩, ⟨some 33, .un .not (.t 32), none, false⟩] [1, 5, 8, 20, 21, 22, 33]) (.cond (.t 33) (.seq (.reg [⟨some 4, .mov (.c .nils), none, false⟩] [4]) .ret) .skip)) (.reg [⟨some 34, .mov (.t 5), none, false⟩, ⟨some 35, .load true 4 (.t 8), none, false⟩, ⟨some 36, .mkslice true 51 4 [.t 35], none, false⟩, ⟨some 37, .app 51 4 40 (.t 34) (.t 36), none, false⟩, ⟨some 5, .mov (.t 37), none, false⟩] [1, 5, 20, 21, 22]))))) (.reg [⟨some 38, .bin .add (.t 22) (.c (.int .i64 1)), none, false⟩, ⟨some 22, .mov (.t 38), none, false⟩] [1, 5, 20, 21, 22])))
def b17 : XC := .seq (.reg [⟨some 2, .box 29 (.t 0), none, false⟩, ⟨some 4, .mov (.c .nils), none, false⟩] [1, 2]) (.seq (.seq (.reg [⟨some 10, .mov (.t 1), none, false⟩, ⟨some 11, .bin .lss (.t 10) (.c (.int .i64 0)), none, false⟩, ⟨some 12, .mov (.t 11), none, false⟩, ⟨some 13, .mov (.t 1), some (12, false), false⟩, ⟨some 14, .faddr 4 (.t 2), some (12, false), false⟩, ⟨some 15, .load false 1 (.t 14), some (12, false), false⟩, ⟨some 16, .len 1 (.t 15), some (12, false), false⟩, ⟨some 17, .bin .geq (.t 13) (.t 16), some (12, false), false⟩, ⟨some 18, .pick (.t 12) (.c (.bool true)) (.t 17), none, false⟩] [1, 2, 18]) (.cond (.t 18) (.seq (.reg [⟨some 4, .mov (.c .nils), none, false⟩] [4]) .ret) .skip)) (.seq (.reg [⟨some 5, .mov (.c .nils), none, false⟩] [1, 2, 5]) (.seq (.seq (.reg [⟨some 19, .faddr 5 (.t 2), none, false⟩, ⟨some 20, .load false 1 (.t 19), none, false⟩, ⟨some 21, .len 3 (.t 20), none, false⟩, ⟨some 22, .mov (.c (.int .i64 0)), none, false⟩] [1, 5, 20, 21, 22]) (.block 0 (.loop lp17_0))) (.seq (.reg [⟨some 39, .mov (.t 5), none, false⟩, ⟨some 4, .mov (.t 39), none, false⟩] [4]) .ret))))
def x17 : XF := ⟨2, b17, [.t 4]⟩
def h17 : Yl := fun id => match id with
  | 0 => [1, 2]
  | 1 => [1, 2, 18]
  | 2 => [4]
  | 3 => [1, 2, 5]
  | 4 => [1, 5, 20, 21, 22]
  | 5 => [1, 5, 20, 21, 22, 23]
  | 6 => [1, 5, 7, 20, 21, 22]
  | 7 => [1, 5, 8, 9, 20, 21, 22]
  | 8 => [1, 5, 8, 20, 21, 22, 33]
  | 9 => [4]
  | 10 => [1, 5, 20, 21, 22]
  | 11 => [1, 5, 20, 21, 22]
  | 12 => [4]
  | _ => []
theorem cv17 : cvF Tryz.prog h17 Tryz.f17 = some x17 := by kernel_rfl

/-- winnower/winnowerlaw17.n -/
def b23 : XC := .seq (.reg [⟨some 2, .alloc 51 [.int .i64 0, .int .i64 0, .str ⟨#[]⟩, .bool false], none, false⟩] [0, 2]) (.seq (.reg [⟨some 3, .mov (.t 0), none, false⟩, ⟨some 4, .build [.int .i64 0, .int .i64 0, .str ⟨#[]⟩, .bool false] [(0, (1, .c (.int .i64 1))), (1, (1, .t 3))], none, false⟩, ⟨none, .store 4 (.t 2) (.t 4), none, false⟩] [2]) .ret)
def x23 : XF := ⟨1, b23, [.cell 2 true 4]⟩
def h23 : Yl := fun id => match id with
  | 0 => [0, 2]
  | 1 => [2]
  | _ => []
theorem cv23 : cvF Tryz.prog h23 Tryz.f23 = some x23 := by kernel_rfl

/-- winnower/winnowerref01.Ints -/
def lp24_0 : XC := .seq (.seq (.reg [⟨some 11, .mov (.t 5), none, false⟩, ⟨some 12, .mov (.t 0), none, false⟩, ⟨some 13, .len 1 (.t 12), none, false⟩, ⟨some 14, .bin .lss (.t 11) (.t 13), none, false⟩] [0, 1, 5, 14]) (.cond (.t 14) .skip (.exit 0))) (.seq (.block 1 (.seq (.reg [⟨some 17, .mov (.t 0), none, false⟩, ⟨some 18, .mov (.t 5), none, false⟩, ⟨some 19, .iaddr 1 (.t 17) (.t 18), none, false⟩, ⟨some 20, .load false 1 (.t 19), none, false⟩, ⟨some 21, .mov (.t 1), none, false⟩, ⟨some 22, .mov (.t 5), none, false⟩, ⟨some 23, .iaddr 1 (.t 21) (.t 22), none, false⟩, ⟨some 24, .load false 1 (.t 23), none, false⟩, ⟨some 25, .bin .neq (.t 20) (.t 24), none, false⟩] [0, 1, 5, 25]) (.cond (.t 25) (.seq (.reg [⟨some 4, .mov (.c (.bool false)), none, false⟩] [4]) .ret) .skip))) (.reg [⟨some 15, .mov (.t 5), none, false⟩, ⟨some 16, .bin .add (.t 15) (.c (.int .i64 1)), none, false⟩, ⟨some 5, .mov (.t 16), none, false⟩] [0, 1, 5]))
def b24 : XC := .seq (.reg [⟨some 4, .mov (.c (.bool false)), none, false⟩] [0, 1]) (.seq (.seq (.reg [⟨some 6, .mov (.t 0), none, false⟩, ⟨some 7, .len 1 (.t 6), none, false⟩, ⟨some 8, .mov (.t 1), none, false⟩, ⟨some 9, .len 1 (.t 8), none, false⟩, ⟨some 10, .bin .neq (.t 7) (.t 9), none, false⟩] [0, 1, 10]) (.cond (.t 10) (.seq (.reg [⟨some 4, .mov (.c (.bool false)), none, false⟩] [4]) .ret) .skip)) (.seq (.seq (.reg [⟨some 5, .mov (.c (.int .i64 0)), none, false⟩] [0, 1, 5]) (.block 0 (.loop lp24_0))) (.seq (.reg [⟨some 4, .mov (.c (.bool true)), none, false⟩] [4]) .ret)))
def x24 : XF := ⟨2, b24, [.t 4]⟩
def h24 : Yl := fun id => match id with
  | 0 => [0, 1]
  | 1 => [0, 1, 10]
  | 2 => [4]
  | 3 => [0, 1, 5]
  | 4 => [0, 1, 5, 14]
  | 5 => [0, 1, 5]
  | 6 => [0, 1, 5, 25]
  | 7 => [4]
  | 8 => [4]
  | _ => []
theorem cv24 : cvF Tryz.prog h24 Tryz.f24 = some x24 := by kernel_rfl

/-- winnower/filter.Holds -/
def b26 : XC := .seq (.reg [⟨some 4, .mov (.c (.bool false)), none, false⟩] [0, 1]) (.seq (.reg [⟨some 5, .mov (.t 0), none, false⟩, ⟨some 6, .mov (.t 1), none, false⟩, ⟨some 7, .mkslice true 45 1 [.t 6], none, false⟩, ⟨some 8, .call (.c (.func 13 [] [])) [.t 5, .t 7], none, false⟩, ⟨some 9, .call (.c (.func 53 [] [])) [.t 8, .c (.int .i64 0)], none, false⟩, ⟨some 4, .mov (.t 9), none, false⟩] [4]) .ret)
def x26 : XF := ⟨2, b26, [.t 4]⟩
def h26 : Yl := fun id => match id with
  | 0 => [0, 1]
  | 1 => [4]
  | _ => []
theorem cv26 : cvF Tryz.prog h26 Tryz.f26 = some x26 := by kernel_rfl

/-- winnower/winnowerref10.Light -/
def lp27_0 : XC := .seq (.seq (.reg [⟨some 14, .mov (.t 3), none, false⟩, ⟨some 15, .faddr 1 (.t 1), none, false⟩, ⟨some 16, .load false 1 (.t 15), none, false⟩, ⟨some 17, .len 4 (.t 16), none, false⟩, ⟨some 18, .bin .lss (.t 14) (.t 17), none, false⟩] [1, 3, 18]) (.cond (.t 18) .skip (.exit 0))) (.seq (.block 1 (.seq (.reg [⟨some 21, .faddr 1 (.t 1), none, false⟩, ⟨some 22, .load false 1 (.t 21), none, false⟩, ⟨some 23, .mov (.t 3), none, false⟩, ⟨some 24, .iaddr 4 (.t 22) (.t 23), none, false⟩, ⟨some 25, .faddr 2 (.t 24), none, false⟩, ⟨some 26, .load false 1 (.t 25), none, false⟩, ⟨some 27, .lens (.t 26), none, false⟩, ⟨some 28, .bin .gtr (.t 27) (.c (.int .i64 300)), none, false⟩] [1, 3, 28]) (.cond (.t 28) (.seq (.reg [⟨some 2, .mov (.c (.bool false)), none, false⟩] [2]) .ret) .skip))) (.reg [⟨some 19, .mov (.t 3), none, false⟩, ⟨some 20, .bin .add (.t 19) (.c (.int .i64 1)), none, false⟩, ⟨some 3, .mov (.t 20), none, false⟩] [1, 3]))
def b27 : XC := .seq (.reg [⟨some 1, .box 61 (.t 0), none, false⟩, ⟨some 2, .mov (.c (.bool false)), none, false⟩] [1]) (.seq (.seq (.reg [⟨some 4, .faddr 1 (.t 1), none, false⟩, ⟨some 5, .load false 1 (.t 4), none, false⟩, ⟨some 6, .len 4 (.t 5), none, false⟩, ⟨some 7, .bin .gtr (.t 6) (.c (.int .i64 200)), none, false⟩, ⟨some 8, .mov (.t 7), none, false⟩, ⟨some 9, .faddr 2 (.t 1), some (8, false), false⟩, ⟨some 10, .load false 1 (.t 9), some (8, false), false⟩, ⟨some 11, .len 1 (.t 10), some (8, false), false⟩, ⟨some 12, .bin .gtr (.t 11) (.c (.int .i64 200)), some (8, false), false⟩, ⟨some 13, .pick (.t 8) (.c (.bool true)) (.t 12), none, false⟩] [1, 13]) (.cond (.t 13) (.seq (.reg [⟨some 2, .mov (.c (.bool false)), none, false⟩] [2]) .ret) .skip)) (.seq (.seq (.reg [⟨some 3, .mov (.c (.int .i64 0)), none, false⟩] [1, 3]) (.block 0 (.loop lp27_0))) (.seq (.reg [⟨some 2, .mov (.c (.bool true)), none, false⟩] [2]) .ret)))
def x27 : XF := ⟨1, b27, [.t 2]⟩
def h27 : Yl := fun id => match id with
  | 0 => [1]
  | 1 => [1, 13]
  | 2 => [2]
  | 3 => [1, 3]
  | 4 => [1, 3, 18]
  | 5 => [1, 3]
  | 6 => [1, 3, 28]
  | 7 => [2]
  | 8 => [2]
  | _ => []
theorem cv27 : cvF Tryz.prog h27 Tryz.f27 = some x27 := by kernel_rfl

/-- winnower/seal.whole -/
def lp28_0 : XC := .seq (.reg [⟨some 11, .bin .lss (.t 10) (.t 9), none, false⟩] [1, 4, 8, 9, 10, 11]) (.seq (.cond (.t 11) .skip (.exit 0)) (.seq (.block 1 (.seq (.reg [⟨some 12, .iaddr 3 (.t 8) (.t 10), none, false⟩, ⟨some 13, .load true 3 (.t 12), none, false⟩, ⟨some 6, .alloc 61 [.int .i64 0, .nils, .nils], none, false⟩, ⟨none, .store 3 (.t 6) (.t 13), none, false⟩] [1, 4, 6, 8, 9, 10]) (.seq (.seq (.reg [⟨some 14, .load true 3 (.t 6), none, false⟩, ⟨some 15, .call (.c (.func 38 [] [])) [.t 14], none, false⟩, ⟨some 16, .un .not (.t 15), none, false⟩] [1, 4, 6, 8, 9, 10, 16]) (.cond (.t 16) (.seq (.reg [⟨some 2, .mov (.c .nils), none, false⟩, ⟨some 3, .mov (.c (.bool false)), none, false⟩] [2, 3]) .ret) .skip)) (.reg [⟨some 17, .mov (.t 4), none, false⟩, ⟨some 18, .load true 3 (.t 6), none, false⟩, ⟨some 19, .call (.c (.func 54 [] [])) [.t 18], none, false⟩, ⟨some 20, .mkslice true 45 1 [.t 19], none, false⟩, ⟨some 21, .app 45 1 24 (.t 17) (.t 20), none, false⟩, ⟨some 4, .mov (.t 21), none, false⟩] [1, 4, 8, 9, 10])))) (.reg [⟨some 22, .bin .add (.t 10) (.c (.int .i64 1)), none, false⟩, ⟨some 10, .mov (.t 22), none, false⟩] [1, 4, 8, 9, 10])))
def b28 : XC := .seq (.reg [⟨some 1, .box 29 (.t 0), none, false⟩, ⟨some 2, .mov (.c .nils), none, false⟩, ⟨some 3, .mov (.c (.bool false)), none, false⟩] [1]) (.seq (.reg [⟨some 4, .mov (.c .nils), none, false⟩] [1, 4]) (.seq (.seq (.reg [⟨some 7, .faddr 5 (.t 1), none, false⟩, ⟨some 8, .load false 1 (.t 7), none, false⟩, ⟨some 9, .len 3 (.t 8), none, false⟩, ⟨some 10, .mov (.c (.int .i64 0)), none, false⟩] [1, 4, 8, 9, 10]) (.block 0 (.loop lp28_0))) (.seq (.reg [⟨some 23, .mov (.t 4), none, false⟩, ⟨some 24, .faddr 4 (.t 1), none, false⟩, ⟨some 25, .load false 1 (.t 24), none, false⟩, ⟨some 26, .len 1 (.t 25), none, false⟩, ⟨some 27, .call (.c (.func 55 [] [])) [.t 23, .t 26], none, false⟩, ⟨some 28, .ext (.t 27) 0, none, false⟩, ⟨some 29, .ext (.t 27) 1, none, false⟩, ⟨some 2, .mov (.t 28), none, false⟩, ⟨some 3, .mov (.t 29), none, false⟩] [2, 3]) .ret)))
def x28 : XF := ⟨1, b28, [.t 2, .t 3]⟩
def h28 : Yl := fun id => match id with
  | 0 => [1]
  | 1 => [1, 4]
  | 2 => [1, 4, 8, 9, 10]
  | 3 => [1, 4, 8, 9, 10, 11]
  | 4 => [1, 4, 6, 8, 9, 10]
  | 5 => [1, 4, 6, 8, 9, 10, 16]
  | 6 => [2, 3]
  | 7 => [1, 4, 8, 9, 10]
  | 8 => [1, 4, 8, 9, 10]
  | 9 => [2, 3]
  | _ => []
theorem cv28 : cvF Tryz.prog h28 Tryz.f28 = some x28 := by kernel_rfl

/-- winnower/seal.head -/
def b29 : XC := .seq (.reg [⟨some 1, .box 29 (.t 0), none, false⟩, ⟨some 2, .mov (.c (.bool false)), none, false⟩] [1]) (.seq (.reg [⟨some 4, .faddr 0 (.t 1), none, false⟩, ⟨some 5, .load false 1 (.t 4), none, false⟩, ⟨some 6, .bin .geq (.t 5) (.c (.int .i64 0)), none, false⟩, ⟨some 7, .mov (.t 6), none, false⟩, ⟨some 8, .faddr 0 (.t 1), some (7, true), false⟩, ⟨some 9, .load false 1 (.t 8), some (7, true), false⟩, ⟨some 10, .bin .lss (.t 9) (.c (.int .i64 4)), some (7, true), false⟩, ⟨some 11, .pick (.t 7) (.t 10) (.c (.bool false)), none, false⟩, ⟨some 12, .mov (.t 11), none, false⟩, ⟨some 13, .faddr 1 (.t 1), some (12, true), false⟩, ⟨some 14, .load false 1 (.t 13), some (12, true), false⟩, ⟨some 15, .bin .geq (.t 14) (.c (.int .i64 1)), some (12, true), false⟩, ⟨some 16, .pick (.t 12) (.t 15) (.c (.bool false)), none, false⟩, ⟨some 17, .mov (.t 16), none, false⟩, ⟨some 18, .faddr 1 (.t 1), some (17, true), false⟩, ⟨some 19, .load false 1 (.t 18), some (17, true), false⟩, ⟨some 20, .bin .leq (.t 19) (.c (.int .i64 1073741824)), some (17, true), false⟩, ⟨some 21, .pick (.t 17) (.t 20) (.c (.bool false)), none, false⟩, ⟨some 3, .mov (.t 21), none, false⟩] [1, 3]) (.seq (.reg [⟨some 22, .mov (.t 3), none, false⟩, ⟨some 23, .mov (.t 22), none, false⟩, ⟨some 24, .faddr 2 (.t 1), some (23, true), false⟩, ⟨some 25, .load false 1 (.t 24), some (23, true), false⟩, ⟨some 26, .bin .geq (.t 25) (.c (.int .i64 0)), some (23, true), false⟩, ⟨some 27, .pick (.t 23) (.t 26) (.c (.bool false)), none, false⟩, ⟨some 28, .mov (.t 27), none, false⟩, ⟨some 29, .faddr 3 (.t 1), some (28, true), false⟩, ⟨some 30, .load false 1 (.t 29), some (28, true), false⟩, ⟨some 31, .faddr 2 (.t 1), some (28, true), false⟩, ⟨some 32, .load false 1 (.t 31), some (28, true), false⟩, ⟨some 33, .bin .geq (.t 30) (.t 32), some (28, true), false⟩, ⟨some 34, .pick (.t 28) (.t 33) (.c (.bool false)), none, false⟩, ⟨some 35, .mov (.t 34), none, false⟩, ⟨some 36, .faddr 3 (.t 1), some (35, true), false⟩, ⟨some 37, .load false 1 (.t 36), some (35, true), false⟩, ⟨some 38, .bin .leq (.t 37) (.c (.int .i64 1099511627776)), some (35, true), false⟩, ⟨some 39, .pick (.t 35) (.t 38) (.c (.bool false)), none, false⟩, ⟨some 2, .mov (.t 39), none, false⟩] [2]) .ret))
def x29 : XF := ⟨1, b29, [.t 2]⟩
def h29 : Yl := fun id => match id with
  | 0 => [1]
  | 1 => [1, 3]
  | 2 => [2]
  | _ => []
theorem cv29 : cvF Tryz.prog h29 Tryz.f29 = some x29 := by kernel_rfl

/-- (winnower/seal.sorter).fit -/
def b30 : XC := .seq (.reg [⟨some 1, .box 67 (.t 0), none, false⟩, ⟨some 2, .mov (.c (.bool false)), none, false⟩] [1]) (.seq (.reg [⟨some 3, .faddr 0 (.t 1), none, false⟩, ⟨some 4, .load true 5 (.t 3), none, false⟩, ⟨some 5, .call (.c (.func 56 [] [])) [.t 4], none, false⟩, ⟨some 6, .mov (.t 5), none, false⟩, ⟨some 7, .faddr 5 (.t 1), some (6, true), false⟩, ⟨some 8, .load false 1 (.t 7), some (6, true), false⟩, ⟨some 9, .mkfn 58 [] [.t 1], some (6, true), false⟩, ⟨some 10, .call (.c (.func 57 [] [])) [.t 8, .t 9], some (6, true), false⟩, ⟨some 11, .un .not (.t 10), some (6, true), false⟩, ⟨some 12, .pick (.t 6) (.t 11) (.c (.bool false)), none, false⟩, ⟨some 2, .mov (.t 12), none, false⟩] [2]) .ret)
def x30 : XF := ⟨1, b30, [.t 2]⟩
def h30 : Yl := fun id => match id with
  | 0 => [1]
  | 1 => [2]
  | _ => []
theorem cv30 : cvF Tryz.prog h30 Tryz.f30 = some x30 := by kernel_rfl

/-- slices.Clone[[]int,int] -/
def b31 : XC := .seq (.reg [⟨some 2, .mov (.c .nils), none, false⟩] [0]) (.seq (.seq (.reg [⟨some 3, .mov (.t 0), none, false⟩, ⟨some 4, .YE 2 false (.t 3) (.c .nils), none, false⟩] [0, 4]) (.cond (.t 4) (.seq (.reg [⟨some 2, .mov (.c .nils), none, false⟩] [2]) .ret) .skip)) (.seq (.reg [⟨some 5, .mkslice true 3 1 [], none, false⟩, ⟨some 6, .mov (.t 0), none, false⟩, ⟨some 7, .app 3 1 8 (.t 5) (.t 6), none, false⟩, ⟨some 2, .mov (.t 7), none, false⟩] [2]) .ret))
def x31 : XF := ⟨1, b31, [.t 2]⟩
def h31 : Yl := fun id => match id with
  | 0 => [0]
  | 1 => [0, 4]
  | 2 => [2]
  | 3 => [2]
  | _ => []
theorem cv31 : cvF Tryz.prog h31 Tryz.f31 = some x31 := by kernel_rfl

/-- winnower/seal.rises -/
def lp33_0 : XC := .seq (.reg [⟨some 10, .bin .lss (.t 9) (.t 8), none, false⟩] [1, 2, 7, 8, 9, 10]) (.seq (.cond (.t 10) .skip (.exit 0)) (.seq (.block 1 (.seq (.reg [⟨some 11, .mov (.t 9), none, false⟩, ⟨some 12, .iaddr 1 (.t 7) (.t 9), none, false⟩, ⟨some 13, .load false 1 (.t 12), none, false⟩, ⟨some 5, .mov (.t 11), none, false⟩, ⟨some 6, .mov (.t 13), none, false⟩] [1, 2, 5, 6, 7, 8, 9]) (.seq (.reg [⟨some 14, .mov (.t 6), none, false⟩, ⟨some 15, .faddr 2 (.t 2), none, false⟩, ⟨some 16, .load false 1 (.t 15), none, false⟩, ⟨some 17, .bin .lss (.t 14) (.t 16), none, false⟩, ⟨some 18, .mov (.t 17), none, false⟩, ⟨some 19, .mov (.t 6), some (18, false), false⟩, ⟨some 20, .faddr 3 (.t 2), some (18, false), false⟩, ⟨some 21, .load false 1 (.t 20), some (18, false), false⟩, ⟨some 22, .bin .geq (.t 19) (.t 21), some (18, false), false⟩, ⟨some 23, .pick (.t 18) (.c (.bool true)) (.t 22), none, false⟩, ⟨some 24, .mov (.t 23), none, false⟩, ⟨some 25, .mov (.t 5), some (24, false), false⟩, ⟨some 26, .bin .gtr (.t 25) (.c (.int .i64 0)), some (24, false), false⟩, ⟨some 27, .mov (.t 26), some (24, false), false⟩, ⟨some 28, .mov (.t 6), some (27, true), false⟩, ⟨some 29, .mov (.t 1), some (27, true), false⟩, ⟨some 30, .mov (.t 5), some (27, true), false⟩, ⟨some 31, .bin .sub (.t 30) (.c (.int .i64 1)), some (27, true), false⟩, ⟨some 32, .iaddr 1 (.t 29) (.t 31), some (27, true), false⟩, ⟨some 33, .load false 1 (.t 32), some (27, true), false⟩, ⟨some 34, .bin .leq (.t 28) (.t 33), some (27, true), false⟩, ⟨some 35, .pick (.t 27) (.t 34) (.c (.bool false)), some (24, false), false⟩, ⟨some 36, .pick (.t 24) (.c (.bool true)) (.t 35), none, false⟩] [1, 2, 7, 8, 9, 36]) (.cond (.t 36) (.seq (.reg [⟨some 4, .mov (.c (.bool false)), none, false⟩] [4]) .ret) .skip)))) (.reg [⟨some 37, .bin .add (.t 9) (.c (.int .i64 1)), none, false⟩, ⟨some 9, .mov (.t 37), none, false⟩] [1, 2, 7, 8, 9])))
def b33 : XC := .seq (.reg [⟨some 2, .box 29 (.t 0), none, false⟩, ⟨some 4, .mov (.c (.bool false)), none, false⟩] [1, 2]) (.seq (.seq (.reg [⟨some 7, .mov (.t 1), none, false⟩, ⟨some 8, .len 1 (.t 7), none, false⟩, ⟨some 9, .mov (.c (.int .i64 0)), none, false⟩] [1, 2, 7, 8, 9]) (.block 0 (.loop lp33_0))) (.seq (.reg [⟨some 4, .mov (.c (.bool true)), none, false⟩] [4]) .ret))
def x33 : XF := ⟨2, b33, [.t 4]⟩
def h33 : Yl := fun id => match id with
  | 0 => [1, 2]
  | 1 => [1, 2, 7, 8, 9]
  | 2 => [1, 2, 7, 8, 9, 10]
  | 3 => [1, 2, 5, 6, 7, 8, 9]
  | 4 => [1, 2, 7, 8, 9, 36]
  | 5 => [4]
  | 6 => [1, 2, 7, 8, 9]
  | 7 => [4]
  | _ => []
theorem cv33 : cvF Tryz.prog h33 Tryz.f33 = some x33 := by kernel_rfl

/-- (winnower/seal.sorter).order -/
def b34 : XC := .seq (.reg [⟨some 3, .box 67 (.t 0), none, false⟩, ⟨some 6, .mov (.c (.int .i64 0)), none, false⟩] [1, 2, 3]) (.seq (.seq (.reg [⟨some 7, .faddr 0 (.t 3), none, false⟩, ⟨some 8, .faddr 4 (.t 7), none, false⟩, ⟨some 9, .load false 1 (.t 8), none, false⟩, ⟨some 10, .bin .lss (.t 9) (.c (.int .i64 0)), none, false⟩] [1, 2, 3, 10]) (.cond (.t 10) (.seq (.reg [⟨some 6, .mov (.c (.int .i64 0)), none, false⟩] [6]) .ret) .skip)) (.seq (.reg [⟨some 11, .faddr 5 (.t 3), none, false⟩, ⟨some 12, .load false 1 (.t 11), none, false⟩, ⟨some 13, .mov (.t 1), none, false⟩, ⟨some 14, .iaddr 1 (.t 12) (.t 13), none, false⟩, ⟨some 15, .load false 1 (.t 14), none, false⟩, ⟨some 16, .faddr 0 (.t 3), none, false⟩, ⟨some 17, .faddr 4 (.t 16), none, false⟩, ⟨some 18, .load false 1 (.t 17), none, false⟩, ⟨some 19, .iaddr 4 (.t 15) (.t 18), none, false⟩, ⟨some 20, .load true 4 (.t 19), none, false⟩, ⟨some 21, .faddr 5 (.t 3), none, false⟩, ⟨some 22, .load false 1 (.t 21), none, false⟩, ⟨some 23, .mov (.t 2), none, false⟩, ⟨some 24, .iaddr 1 (.t 22) (.t 23), none, false⟩, ⟨some 25, .load false 1 (.t 24), none, false⟩, ⟨some 26, .faddr 0 (.t 3), none, false⟩, ⟨some 27, .faddr 4 (.t 26), none, false⟩, ⟨some 28, .load false 1 (.t 27), none, false⟩, ⟨some 29, .iaddr 4 (.t 25) (.t 28), none, false⟩, ⟨some 30, .load true 4 (.t 29), none, false⟩, ⟨some 31, .call (.c (.func 62 [] [])) [.t 20, .t 30], none, false⟩, ⟨some 6, .mov (.t 31), none, false⟩] [6]) .ret))
def x34 : XF := ⟨3, b34, [.t 6]⟩
def h34 : Yl := fun id => match id with
  | 0 => [1, 2, 3]
  | 1 => [1, 2, 3, 10]
  | 2 => [6]
  | 3 => [6]
  | _ => []
theorem cv34 : cvF Tryz.prog h34 Tryz.f34 = some x34 := by kernel_rfl

/-- (winnower/bitset.Set).at -/
def b35 : XC := .seq (.reg [⟨some 2, .box 38 (.t 0), none, false⟩, ⟨some 4, .mov (.c (.int .u64 0)), none, false⟩] [1, 2]) (.seq (.seq (.reg [⟨some 5, .mov (.t 1), none, false⟩, ⟨some 6, .faddr 0 (.t 2), none, false⟩, ⟨some 7, .load false 1 (.t 6), none, false⟩, ⟨some 8, .len 1 (.t 7), none, false⟩, ⟨some 9, .bin .lss (.t 5) (.t 8), none, false⟩] [1, 2, 9]) (.cond (.t 9) (.seq (.reg [⟨some 10, .faddr 0 (.t 2), none, false⟩, ⟨some 11, .load false 1 (.t 10), none, false⟩, ⟨some 12, .mov (.t 1), none, false⟩, ⟨some 13, .iaddr 1 (.t 11) (.t 12), none, false⟩, ⟨some 14, .load false 1 (.t 13), none, false⟩, ⟨some 4, .mov (.t 14), none, false⟩] [4]) .ret) .skip)) (.seq (.reg [⟨some 4, .mov (.c (.int .u64 0)), none, false⟩] [4]) .ret))
def x35 : XF := ⟨2, b35, [.t 4]⟩
def h35 : Yl := fun id => match id with
  | 0 => [1, 2]
  | 1 => [1, 2, 9]
  | 2 => [4]
  | 3 => [4]
  | _ => []
theorem cv35 : cvF Tryz.prog h35 Tryz.f35 = some x35 := by kernel_rfl

/-- slices.ContainsFunc[[]winnower/api.Column,winnower/api.Column] -/
def b36 : XC := .seq (.reg [⟨some 4, .mov (.c (.bool false)), none, false⟩] [0, 1]) (.seq (.reg [⟨some 5, .mov (.t 0), none, false⟩, ⟨some 6, .mov (.t 1), none, false⟩, ⟨some 7, .call (.c (.func 63 [] [])) [.t 5, .t 6], none, false⟩, ⟨some 8, .bin .geq (.t 7) (.c (.int .i64 0)), none, false⟩, ⟨some 4, .mov (.t 8), none, false⟩] [4]) .ret)
def x36 : XF := ⟨2, b36, [.t 4]⟩
def h36 : Yl := fun id => match id with
  | 0 => [0, 1]
  | 1 => [4]
  | _ => []
theorem cv36 : cvF Tryz.prog h36 Tryz.f36 = some x36 := by kernel_rfl

/-- winnower/filter.Sealed$1 -/
def b37 : XC := .seq (.reg [⟨some 2, .box 61 (.t 0), none, false⟩, ⟨some 3, .mov (.c (.bool false)), none, false⟩] [1, 2]) (.seq (.reg [⟨some 4, .faddr 0 (.t 2), none, false⟩, ⟨some 5, .load false 1 (.t 4), none, false⟩, ⟨some 6, .load false 1 (.t 1), none, false⟩, ⟨some 7, .bin .neq (.t 5) (.t 6), none, false⟩, ⟨some 8, .mov (.t 7), none, false⟩, ⟨some 9, .load true 3 (.t 2), some (8, false), false⟩, ⟨some 10, .call (.c (.func 38 [] [])) [.t 9], some (8, false), false⟩, ⟨some 11, .un .not (.t 10), some (8, false), false⟩, ⟨some 12, .pick (.t 8) (.c (.bool true)) (.t 11), none, false⟩, ⟨some 3, .mov (.t 12), none, false⟩] [3]) .ret)
def x37 : XF := ⟨2, b37, [.t 3]⟩
def h37 : Yl := fun id => match id with
  | 0 => [1, 2]
  | 1 => [3]
  | _ => []
theorem cv37 : cvF Tryz.prog h37 Tryz.f37 = some x37 := by kernel_rfl

/-- winnower/column.May -/
def b38 : XC := .seq (.reg [⟨some 1, .box 61 (.t 0), none, false⟩, ⟨some 2, .mov (.c (.bool false)), none, false⟩] [1]) (.seq (.reg [⟨some 6, .load true 3 (.t 1), none, false⟩, ⟨some 7, .call (.c (.func 64 [] [])) [.t 6], none, false⟩, ⟨some 5, .mov (.t 7), none, false⟩, ⟨some 8, .ext (.t 5) 0, none, false⟩, ⟨some 9, .ext (.t 5) 1, none, false⟩, ⟨some 3, .mov (.t 8), none, false⟩, ⟨some 4, .mov (.t 9), none, false⟩] [4]) (.seq (.reg [⟨some 10, .mov (.t 4), none, false⟩, ⟨some 2, .mov (.t 10), none, false⟩] [2]) .ret))
def x38 : XF := ⟨1, b38, [.t 2]⟩
def h38 : Yl := fun id => match id with
  | 0 => [1]
  | 1 => [4]
  | 2 => [2]
  | _ => []
theorem cv38 : cvF Tryz.prog h38 Tryz.f38 = some x38 := by kernel_rfl

/-- winnower/filter.sets -/
def lp39_0 : XC := .seq (.reg [⟨some 21, .bin .lss (.t 20) (.t 19), none, false⟩] [1, 2, 6, 7, 8, 18, 19, 20, 21]) (.seq (.cond (.t 21) .skip (.exit 0)) (.seq (.block 1 (.seq (.reg [⟨some 22, .iaddr 8 (.t 18) (.t 20), none, false⟩, ⟨some 23, .load true 8 (.t 22), none, false⟩, ⟨some 10, .alloc 54 [.int .i64 0, .int .i64 0, .int .i64 0, .int .i64 0, .str ⟨#[]⟩, .bool false, .int .i64 0, .int .i64 0], none, false⟩, ⟨none, .store 8 (.t 10) (.t 23), none, false⟩] [1, 2, 6, 7, 8, 10, 18, 19, 20]) (.seq (.reg [⟨some 11, .alloc 38 [.nils], none, false⟩] [1, 2, 6, 7, 8, 10, 11, 18, 19, 20]) (.seq (.block 2 (.seq (.reg [⟨some 25, .faddr 0 (.t 10), none, false⟩, ⟨some 26, .load false 1 (.t 25), none, false⟩, ⟨some 27, .bin .eql (.t 26) (.c (.int .i64 0)), none, false⟩, ⟨some 24, .mov (.t 27), none, false⟩] [1, 2, 6, 7, 8, 10, 11, 18, 19, 20, 24]) (.cond (.t 24) (.reg [⟨some 28, .mov (.t 1), none, false⟩, ⟨some 29, .call (.c (.func 65 [] [])) [.t 28], none, false⟩, ⟨none, .store 1 (.t 11) (.t 29), none, false⟩] [1, 2, 6, 7, 8, 11, 18, 19, 20]) (.seq (.reg [⟨some 31, .faddr 0 (.t 10), none, false⟩, ⟨some 32, .load false 1 (.t 31), none, false⟩, ⟨some 33, .bin .geq (.t 32) (.c (.int .i64 1)), none, false⟩, ⟨some 34, .mov (.t 33), none, false⟩, ⟨some 35, .faddr 0 (.t 10), some (34, true), false⟩, ⟨some 36, .load false 1 (.t 35), some (34, true), false⟩, ⟨some 37, .bin .leq (.t 36) (.c (.int .i64 7)), some (34, true), false⟩, ⟨some 38, .pick (.t 34) (.t 37) (.c (.bool false)), none, false⟩, ⟨some 30, .mov (.t 38), none, false⟩] [1, 2, 6, 7, 8, 10, 11, 18, 19, 20, 30]) (.cond (.t 30) (.reg [⟨some 39, .mov (.t 2), none, false⟩, ⟨some 40, .load true 8 (.t 10), none, false⟩, ⟨some 41, .call (.t 39) [.t 40], none, false⟩, ⟨none, .store 1 (.t 11) (.t 41), none, false⟩] [1, 2, 6, 7, 8, 11, 18, 19, 20]) (.seq (.reg [⟨some 43, .faddr 0 (.t 10), none, false⟩, ⟨some 44, .load false 1 (.t 43), none, false⟩, ⟨some 45, .bin .eql (.t 44) (.c (.int .i64 10)), none, false⟩, ⟨some 46, .mov (.t 45), none, false⟩, ⟨some 47, .mov (.t 8), some (46, true), false⟩, ⟨some 48, .faddr 6 (.t 10), some (46, true), false⟩, ⟨some 49, .load false 1 (.t 48), some (46, true), false⟩, ⟨some 50, .call (.t 47) [.t 49], some (46, true), false⟩, ⟨some 51, .pick (.t 46) (.t 50) (.c (.bool false)), none, false⟩, ⟨some 42, .mov (.t 51), none, false⟩] [1, 2, 6, 7, 8, 10, 11, 18, 19, 20, 42]) (.cond (.t 42) (.reg [⟨some 52, .load false 1 (.t 7), none, false⟩, ⟨some 53, .faddr 6 (.t 10), none, false⟩, ⟨some 54, .load false 1 (.t 53), none, false⟩, ⟨some 55, .iaddr 1 (.t 52) (.t 54), none, false⟩, ⟨some 56, .load true 1 (.t 55), none, false⟩, ⟨some 57, .mov (.t 1), none, false⟩, ⟨some 58, .call (.c (.func 67 [] [])) [.t 56, .t 57], none, false⟩, ⟨none, .store 1 (.t 11) (.t 58), none, false⟩] [1, 2, 6, 7, 8, 11, 18, 19, 20]) (.seq (.reg [⟨some 60, .faddr 0 (.t 10), none, false⟩, ⟨some 61, .load false 1 (.t 60), none, false⟩, ⟨some 62, .bin .eql (.t 61) (.c (.int .i64 8)), none, false⟩, ⟨some 63, .mov (.t 62), none, false⟩, ⟨some 64, .mov (.t 8), some (63, true), false⟩, ⟨some 65, .faddr 6 (.t 10), some (63, true), false⟩, ⟨some 66, .load false 1 (.t 65), some (63, true), false⟩, ⟨some 67, .call (.t 64) [.t 66], some (63, true), false⟩, ⟨some 68, .pick (.t 63) (.t 67) (.c (.bool false)), none, false⟩, ⟨some 69, .mov (.t 68), none, false⟩, ⟨some 70, .mov (.t 8), some (69, true), false⟩, ⟨some 71, .faddr 7 (.t 10), some (69, true), false⟩, ⟨some 72, .load false 1 (.t 71), some (69, true), false⟩, ⟨some 73, .call (.t 70) [.t 72], some (69, true), false⟩, ⟨some 74, .pick (.t 69) (.t 73) (.c (.bool false)), none, false⟩, ⟨some 59, .mov (.t 74), none, false⟩] [1, 2, 6, 7, 8, 10, 11, 18, 19, 20, 59]) (.cond (.t 59) (.reg [⟨some 75, .load false 1 (.t 7), none, false⟩, ⟨some 76, .faddr 6 (.t 10), none, false⟩, ⟨some 77, .load false 1 (.t 76), none, false⟩, ⟨some 78, .iaddr 1 (.t 75) (.t 77), none, false⟩, ⟨some 79, .load true 1 (.t 78), none, false⟩, ⟨some 80, .load false 1 (.t 7), none, false⟩, ⟨some 81, .faddr 7 (.t 10), none, false⟩, ⟨some 82, .load false 1 (.t 81), none, false⟩, ⟨some 83, .iaddr 1 (.t 80) (.t 82), none, false⟩, ⟨some 84, .load true 1 (.t 83), none, false⟩, ⟨some 85, .call (.c (.func 68 [] [])) [.t 79, .t 84], none, false⟩, ⟨none, .store 1 (.t 11) (.t 85), none, false⟩] [1, 2, 6, 7, 8, 11, 18, 19, 20]) (.seq (.reg [⟨some 87, .faddr 0 (.t 10), none, false⟩, ⟨some 88, .load false 1 (.t 87), none, false⟩, ⟨some 89, .bin .eql (.t 88) (.c (.int .i64 9)), none, false⟩, ⟨some 90, .mov (.t 89), none, false⟩, ⟨some 91, .mov (.t 8), some (90, true), false⟩, ⟨some 92, .faddr 6 (.t 10), some (90, true), false⟩, ⟨some 93, .load false 1 (.t 92), some (90, true), false⟩, ⟨some 94, .call (.t 91) [.t 93], some (90, true), false⟩, ⟨some 95, .pick (.t 90) (.t 94) (.c (.bool false)), none, false⟩, ⟨some 96, .mov (.t 95), none, false⟩, ⟨some 97, .mov (.t 8), some (96, true), false⟩, ⟨some 98, .faddr 7 (.t 10), some (96, true), false⟩, ⟨some 99, .load false 1 (.t 98), some (96, true), false⟩, ⟨some 100, .call (.t 97) [.t 99], some (96, true), false⟩, ⟨some 101, .pick (.t 96) (.t 100) (.c (.bool false)), none, false⟩, ⟨some 86, .mov (.t 101), none, false⟩] [1, 2, 6, 7, 8, 10, 11, 18, 19, 20, 86]) (.cond (.t 86) (.reg [⟨some 102, .load false 1 (.t 7), none, false⟩, ⟨some 103, .faddr 6 (.t 10), none, false⟩, ⟨some 104, .load false 1 (.t 103), none, false⟩, ⟨some 105, .iaddr 1 (.t 102) (.t 104), none, false⟩, ⟨some 106, .load true 1 (.t 105), none, false⟩, ⟨some 107, .load false 1 (.t 7), none, false⟩, ⟨some 108, .faddr 7 (.t 10), none, false⟩, ⟨some 109, .load false 1 (.t 108), none, false⟩, ⟨some 110, .iaddr 1 (.t 107) (.t 109), none, false⟩, ⟨some 111, .load true 1 (.t 110), none, false⟩, ⟨some 112, .call (.c (.func 69 [] [])) [.t 106, .t 111], none, false⟩, ⟨none, .store 1 (.t 11) (.t 112), none, false⟩] [1, 2, 6, 7, 8, 11, 18, 19, 20]) .skip))))))))))) (.reg [⟨some 113, .load false 1 (.t 7), none, false⟩, ⟨some 114, .load true 1 (.t 11), none, false⟩, ⟨some 115, .mkslice true 38 1 [.t 114], none, false⟩, ⟨some 116, .app 38 1 24 (.t 113) (.t 115), none, false⟩, ⟨none, .store 1 (.t 7) (.t 116), none, false⟩] [1, 2, 6, 7, 8, 18, 19, 20]))))) (.reg [⟨some 117, .bin .add (.t 20) (.c (.int .i64 1)), none, false⟩, ⟨some 20, .mov (.t 117), none, false⟩] [1, 2, 6, 7, 8, 18, 19, 20])))
def b39 : XC := .seq (.reg [⟨some 6, .alloc 38 [.nils], none, false⟩] [0, 1, 2, 6]) (.seq (.seq (.reg [⟨some 12, .mov (.t 0), none, false⟩, ⟨some 13, .len 8 (.t 12), none, false⟩, ⟨some 14, .bin .eql (.t 13) (.c (.int .i64 0)), none, false⟩] [0, 1, 2, 6, 14]) (.cond (.t 14) (.seq (.reg [⟨some 15, .mov (.t 1), none, false⟩, ⟨some 16, .call (.c (.func 65 [] [])) [.t 15], none, false⟩, ⟨none, .store 1 (.t 6) (.t 16), none, false⟩] [6]) .ret) .skip)) (.seq (.reg [⟨some 7, .alloc 104 [.nils], none, false⟩] [0, 1, 2, 6, 7]) (.seq (.reg [⟨some 17, .mkfn 66 [] [.t 7], none, false⟩, ⟨some 8, .mov (.t 17), none, false⟩] [0, 1, 2, 6, 7, 8]) (.seq (.seq (.reg [⟨some 18, .mov (.t 0), none, false⟩, ⟨some 19, .len 8 (.t 18), none, false⟩, ⟨some 20, .mov (.c (.int .i64 0)), none, false⟩] [1, 2, 6, 7, 8, 18, 19, 20]) (.block 0 (.loop lp39_0))) (.seq (.reg [⟨some 118, .load false 1 (.t 7), none, false⟩, ⟨some 119, .load false 1 (.t 7), none, false⟩, ⟨some 120, .len 1 (.t 119), none, false⟩, ⟨some 121, .bin .sub (.t 120) (.c (.int .i64 1)), none, false⟩, ⟨some 122, .iaddr 1 (.t 118) (.t 121), none, false⟩, ⟨some 123, .load true 1 (.t 122), none, false⟩, ⟨none, .store 1 (.t 6) (.t 123), none, false⟩] [6]) .ret)))))
def x39 : XF := ⟨3, b39, [.cell 6 true 1]⟩
def h39 : Yl := fun id => match id with
  | 0 => [0, 1, 2, 6]
  | 1 => [0, 1, 2, 6, 14]
  | 2 => [6]
  | 3 => [0, 1, 2, 6, 7]
  | 4 => [0, 1, 2, 6, 7, 8]
  | 5 => [1, 2, 6, 7, 8, 18, 19, 20]
  | 6 => [1, 2, 6, 7, 8, 18, 19, 20, 21]
  | 7 => [1, 2, 6, 7, 8, 10, 18, 19, 20]
  | 8 => [1, 2, 6, 7, 8, 10, 11, 18, 19, 20]
  | 9 => [1, 2, 6, 7, 8, 10, 11, 18, 19, 20, 24]
  | 10 => [1, 2, 6, 7, 8, 11, 18, 19, 20]
  | 11 => [1, 2, 6, 7, 8, 10, 11, 18, 19, 20, 30]
  | 12 => [1, 2, 6, 7, 8, 11, 18, 19, 20]
  | 13 => [1, 2, 6, 7, 8, 10, 11, 18, 19, 20, 42]
  | 14 => [1, 2, 6, 7, 8, 11, 18, 19, 20]
  | 15 => [1, 2, 6, 7, 8, 10, 11, 18, 19, 20, 59]
  | 16 => [1, 2, 6, 7, 8, 11, 18, 19, 20]
  | 17 => [1, 2, 6, 7, 8, 10, 11, 18, 19, 20, 86]
  | 18 => [1, 2, 6, 7, 8, 11, 18, 19, 20]
  | 19 => [1, 2, 6, 7, 8, 18, 19, 20]
  | 20 => [1, 2, 6, 7, 8, 18, 19, 20]
  | 21 => [6]
  | _ => []
theorem cv39 : cvF Tryz.prog h39 Tryz.f39 = some x39 := by kernel_rfl

/-- (winnower/filter.sealed).leaf -/
def b40 : XC := .seq (.reg [⟨some 2, .box 77 (.t 0), none, false⟩, ⟨some 3, .box 54 (.t 1), none, false⟩, ⟨some 4, .alloc 38 [.nils], none, false⟩] [2, 3, 4]) (.seq (.seq (.reg [⟨some 12, .faddr 1 (.t 3), none, false⟩, ⟨some 13, .load false 1 (.t 12), none, false⟩, ⟨some 14, .bin .lss (.t 13) (.c (.int .i64 0)), none, false⟩, ⟨some 15, .mov (.t 14), none, false⟩, ⟨some 16, .faddr 1 (.t 3), some (15, false), false⟩, ⟨some 17, .load false 1 (.t 16), some (15, false), false⟩, ⟨some 18, .faddr 5 (.t 2), some (15, false), false⟩, ⟨some 19, .load false 1 (.t 18), some (15, false), false⟩, ⟨some 20, .len 3 (.t 19), some (15, false), false⟩, ⟨some 21, .bin .geq (.t 17) (.t 20), some (15, false), false⟩, ⟨some 22, .pick (.t 15) (.c (.bool true)) (.t 21), none, false⟩] [2, 3, 4, 22]) (.cond (.t 22) (.seq (.reg [⟨some 23, .build [.nils] [], none, false⟩, ⟨none, .store 1 (.t 4) (.t 23), none, false⟩] [4]) .ret) .skip)) (.seq (.reg [⟨some 24, .faddr 5 (.t 2), none, false⟩, ⟨some 25, .load false 1 (.t 24), none, false⟩, ⟨some 26, .faddr 1 (.t 3), none, false⟩, ⟨some 27, .load false 1 (.t 26), none, false⟩, ⟨some 28, .iaddr 3 (.t 25) (.t 27), none, false⟩, ⟨some 29, .load true 3 (.t 28), none, false⟩, ⟨some 5, .alloc 61 [.int .i64 0, .nils, .nils], none, false⟩, ⟨none, .store 3 (.t 5) (.t 29), none, false⟩] [3, 4, 5]) (.seq (.reg [⟨some 31, .faddr 1 (.t 5), none, false⟩, ⟨some 32, .load false 1 (.t 31), none, false⟩, ⟨some 33, .call (.c (.func 70 [] [])) [.t 32], none, false⟩, ⟨some 30, .mov (.t 33), none, false⟩, ⟨some 34, .ext (.t 30) 0, none, false⟩, ⟨some 35, .ext (.t 30) 1, none, false⟩, ⟨some 6, .mov (.t 34), none, false⟩, ⟨some 7, .mov (.t 35), none, false⟩] [3, 4, 5, 6, 7]) (.seq (.seq (.reg [⟨some 36, .faddr 0 (.t 3), none, false⟩, ⟨some 37, .load false 1 (.t 36), none, false⟩, ⟨some 38, .bin .eql (.t 37) (.c (.int .i64 7)), none, false⟩] [3, 4, 5, 6, 7, 38]) (.cond (.t 38) (.seq (.reg [⟨some 39, .load true 3 (.t 5), none, false⟩, ⟨some 40, .mov (.t 6), none, false⟩, ⟨some 41, .mov (.t 7), none, false⟩, ⟨some 42, .call (.c (.func 71 [] [])) [.t 39, .t 40, .t 41], none, false⟩, ⟨none, .store 1 (.t 4) (.t 42), none, false⟩] [4]) .ret) .skip)) (.seq (.seq (.reg [⟨some 43, .faddr 2 (.t 3), none, false⟩, ⟨some 44, .load true 4 (.t 43), none, false⟩, ⟨some 45, .call (.c (.func 72 [] [])) [.t 44], none, false⟩, ⟨some 46, .un .not (.t 45), none, false⟩] [3, 4, 5, 7, 46]) (.cond (.t 46) (.seq (.reg [⟨some 47, .load true 3 (.t 5), none, false⟩, ⟨some 48, .call (.c (.func 54 [] [])) [.t 47], none, true⟩, ⟨some 49, .faddr 1 (.t 3), none, false⟩, ⟨some 50, .load false 1 (.t 49), none, false⟩, ⟨some 51, .call (.c (.func 73 [] [])) [.t 48, .t 50], none, true⟩, ⟨some 52, .load true 8 (.t 3), none, false⟩, ⟨some 53, .call (.c (.func 41 [] [])) [.t 51, .t 52], none, false⟩, ⟨none, .store 1 (.t 4) (.t 53), none, false⟩] [4]) .ret) .skip)) (.seq (.reg [⟨some 55, .faddr 1 (.t 5), none, false⟩, ⟨some 56, .load false 1 (.t 55), none, false⟩, ⟨some 57, .faddr 2 (.t 3), none, false⟩, ⟨some 58, .load true 4 (.t 57), none, false⟩, ⟨some 59, .call (.c (.func 74 [] [])) [.t 56, .t 58], none, false⟩, ⟨some 54, .mov (.t 59), none, false⟩, ⟨some 60, .ext (.t 54) 0, none, false⟩, ⟨some 61, .ext (.t 54) 1, none, false⟩, ⟨some 8, .mov (.t 60), none, false⟩, ⟨some 9, .mov (.t 61), none, false⟩] [3, 4, 5, 7, 8, 9]) (.seq (.reg [⟨some 62, .mov (.t 8), none, false⟩, ⟨some 10, .mov (.t 62), none, false⟩] [3, 4, 5, 7, 8, 9, 10]) (.seq (.seq (.reg [⟨some 63, .mov (.t 9), none, false⟩] [3, 4, 5, 7, 8, 10, 63]) (.cond (.t 63) (.reg [⟨some 64, .mov (.t 10), none, false⟩, ⟨some 65, .bin .add (.t 64) (.c (.int .i64 1)), none, false⟩, ⟨some 10, .mov (.t 65), none, false⟩] [3, 4, 5, 7, 8, 10]) .skip)) (.seq (.reg [⟨some 66, .mov (.t 8), none, false⟩, ⟨some 67, .mov (.t 7), none, false⟩, ⟨some 68, .mmx true [.t 66, .t 67], none, false⟩, ⟨some 69, .mov (.t 10), none, false⟩, ⟨some 70, .mov (.t 7), none, false⟩, ⟨some 71, .mmx true [.t 69, .t 70], none, false⟩, ⟨some 8, .mov (.t 68), none, false⟩, ⟨some 10, .mov (.t 71), none, false⟩] [3, 4, 5, 7, 8, 10]) (.seq (.reg [⟨some 72, .faddr 1 (.t 5), none, false⟩, ⟨some 73, .load false 1 (.t 72), none, false⟩, ⟨some 74, .len 4 (.t 73), none, false⟩, ⟨some 11, .mov (.t 74), none, false⟩] [3, 4, 5, 7, 8, 10, 11]) (.seq (.seq (.reg [⟨some 75, .faddr 0 (.t 3), none, false⟩, ⟨some 76, .load false 1 (.t 75), none, false⟩] [4, 5, 7, 8, 10, 11, 76]) (.block 0 (.seq (.reg [⟨some 78, .bin .eql (.t 76) (.c (.int .i64 1)), none, false⟩, ⟨some 77, .mov (.t 78), none, false⟩] [4, 5, 7, 8, 10, 11, 76, 77]) (.cond (.t 77) (.seq (.reg [⟨some 79, .load true 3 (.t 5), none, false⟩, ⟨some 80, .mov (.t 8), none, false⟩, ⟨some 81, .mov (.t 10), none, false⟩, ⟨some 82, .call (.c (.func 71 [] [])) [.t 79, .t 80, .t 81], none, false⟩, ⟨none, .store 1 (.t 4) (.t 82), none, false⟩] [4]) .ret) (.seq (.reg [⟨some 84, .bin .eql (.t 76) (.c (.int .i64 2)), none, false⟩, ⟨some 83, .mov (.t 84), none, false⟩] [4, 5, 7, 8, 10, 11, 76, 83]) (.cond (.t 83) (.seq (.reg [⟨some 85, .load true 3 (.t 5), none, false⟩, ⟨some 86, .mov (.t 7), none, false⟩, ⟨some 87, .mov (.t 8), none, false⟩, ⟨some 88, .call (.c (.func 71 [] [])) [.t 85, .t 86, .t 87], none, true⟩, ⟨some 89, .load true 3 (.t 5), none, false⟩, ⟨some 90, .mov (.t 10), none, false⟩, ⟨some 91, .mov (.t 11), none, false⟩, ⟨some 92, .call (.c (.func 71 [] [])) [.t 89, .t 90, .t 91], none, false⟩, ⟨some 93, .call (.c (.func 69 [] [])) [.t 88, .t 92], none, false⟩, ⟨none, .store 1 (.t 4) (.t 93), none, false⟩] [4]) .ret) (.seq (.reg [⟨some 95, .bin .eql (.t 76) (.c (.int .i64 3)), none, false⟩, ⟨some 94, .mov (.t 95), none, false⟩] [4, 5, 7, 8, 10, 11, 76, 94]) (.cond (.t 94) (.seq (.reg [⟨some 96, .load true 3 (.t 5), none, false⟩, ⟨some 97, .mov (.t 7), none, false⟩, ⟨some 98, .mov (.t 8), none, false⟩, ⟨some 99, .call (.c (.func 71 [] [])) [.t 96, .t 97, .t 98], none, false⟩, ⟨none, .store 1 (.t 4) (.t 99), none, false⟩] [4]) .ret) (.seq (.reg [⟨some 101, .bin .eql (.t 76) (.c (.int .i64 4)), none, false⟩, ⟨some 100, .mov (.t 101), none, false⟩] [4, 5, 7, 8, 10, 11, 76, 100]) (.cond (.t 100) (.seq (.reg [⟨some 102, .load true 3 (.t 5), none, false⟩, ⟨some 103, .mov (.t 7), none, false⟩, ⟨some 104, .mov (.t 10), none, false⟩, ⟨some 105, .call (.c (.func 71 [] [])) [.t 102, .t 103, .t 104], none, false⟩, ⟨none, .store 1 (.t 4) (.t 105), none, false⟩] [4]) .ret) (.seq (.reg [⟨some 107, .bin .eql (.t 76) (.c (.int .i64 5)), none, false⟩, ⟨some 106, .mov (.t 107), none, false⟩] [4, 5, 8, 10, 11, 106]) (.cond (.t 106) (.seq (.reg [⟨some 108, .load true 3 (.t 5), none, false⟩, ⟨some 109, .mov (.t 10), none, false⟩, ⟨some 110, .mov (.t 11), none, false⟩, ⟨some 111, .call (.c (.func 71 [] [])) [.t 108, .t 109, .t 110], none, false⟩, ⟨none, .store 1 (.t 4) (.t 111), none, false⟩] [4]) .ret) .skip)))))))))))) (.seq (.reg [⟨some 112, .load true 3 (.t 5), none, false⟩, ⟨some 113, .mov (.t 8), none, false⟩, ⟨some 114, .mov (.t 11), none, false⟩, ⟨some 115, .call (.c (.func 71 [] [])) [.t 112, .t 113, .t 114], none, false⟩, ⟨none, .store 1 (.t 4) (.t 115), none, false⟩] [4]) .ret))))))))))))
def x40 : XF := ⟨2, b40, [.cell 4 true 1]⟩
def h40 : Yl := fun id => match id with
  | 0 => [2, 3, 4]
  | 1 => [2, 3, 4, 22]
  | 2 => [4]
  | 3 => [3, 4, 5]
  | 4 => [3, 4, 5, 6, 7]
  | 5 => [3, 4, 5, 6, 7, 38]
  | 6 => [4]
  | 7 => [3, 4, 5, 7, 46]
  | 8 => [4]
  | 9 => [3, 4, 5, 7, 8, 9]
  | 10 => [3, 4, 5, 7, 8, 9, 10]
  | 11 => [3, 4, 5, 7, 8, 10, 63]
  | 12 => [3, 4, 5, 7, 8, 10]
  | 13 => [3, 4, 5, 7, 8, 10]
  | 14 => [3, 4, 5, 7, 8, 10, 11]
  | 15 => [4, 5, 7, 8, 10, 11, 76]
  | 16 => [4, 5, 7, 8, 10, 11, 76, 77]
  | 17 => [4]
  | 18 => [4, 5, 7, 8, 10, 11, 76, 83]
  | 19 => [4]
  | 20 => [4, 5, 7, 8, 10, 11, 76, 94]
  | 21 => [4]
  | 22 => [4, 5, 7, 8, 10, 11, 76, 100]
  | 23 => [4]
  | 24 => [4, 5, 8, 10, 11, 106]
  | 25 => [4]
  | 26 => [4]
  | _ => []
theorem cv40 : cvF Tryz.prog h40 Tryz.f40 = some x40 := by kernel_rfl

/-- (winnower/filter.batch).leaf -/
def lp41_0 : XC := .seq (.reg [⟨some 11, .bin .lss (.t 10) (.t 9), none, false⟩] [3, 4, 5, 8, 9, 10, 11]) (.seq (.cond (.t 11) .skip (.exit 0)) (.seq (.block 1 (.seq (.reg [⟨some 12, .mov (.t 10), none, false⟩, ⟨some 13, .iaddr 1 (.t 8) (.t 10), none, false⟩, ⟨some 14, .load false 1 (.t 13), none, false⟩, ⟨some 6, .mov (.t 12), none, false⟩, ⟨some 7, .mov (.t 14), none, false⟩] [3, 4, 5, 6, 7, 8, 9, 10]) (.seq (.reg [⟨some 15, .faddr 1 (.t 3), none, false⟩, ⟨some 16, .load false 1 (.t 15), none, false⟩, ⟨some 17, .bin .geq (.t 16) (.c (.int .i64 0)), none, false⟩, ⟨some 18, .mov (.t 17), none, false⟩, ⟨some 19, .faddr 1 (.t 3), some (18, true), false⟩, ⟨some 20, .load false 1 (.t 19), some (18, true), false⟩, ⟨some 21, .mov (.t 7), some (18, true), false⟩, ⟨some 22, .len 4 (.t 21), some (18, true), false⟩, ⟨some 23, .bin .lss (.t 20) (.t 22), some (18, true), false⟩, ⟨some 24, .pick (.t 18) (.t 23) (.c (.bool false)), none, false⟩, ⟨some 25, .mov (.t 24), none, false⟩, ⟨some 26, .load true 8 (.t 3), some (25, true), false⟩, ⟨some 27, .mov (.t 7), some (25, true), false⟩, ⟨some 28, .faddr 1 (.t 3), some (25, true), false⟩, ⟨some 29, .load false 1 (.t 28), some (25, true), false⟩, ⟨some 30, .iaddr 4 (.t 27) (.t 29), some (25, true), false⟩, ⟨some 31, .load true 4 (.t 30), some (25, true), false⟩, ⟨some 32, .call (.c (.func 75 [] [])) [.t 26, .t 31], some (25, true), false⟩, ⟨some 33, .pick (.t 25) (.t 32) (.c (.bool false)), none, false⟩] [3, 4, 5, 6, 8, 9, 10, 33]) (.cond (.t 33) (.reg [⟨some 34, .mov (.t 5), none, false⟩, ⟨some 35, .mov (.t 6), none, false⟩, ⟨some 36, .mkslice true 3 1 [.t 35], none, false⟩, ⟨some 37, .app 3 1 8 (.t 34) (.t 36), none, false⟩, ⟨some 5, .mov (.t 37), none, false⟩] [3, 4, 5, 8, 9, 10]) .skip)))) (.reg [⟨some 38, .bin .add (.t 10) (.c (.int .i64 1)), none, false⟩, ⟨some 10, .mov (.t 38), none, false⟩] [3, 4, 5, 8, 9, 10])))
def b41 : XC := .seq (.reg [⟨some 3, .box 54 (.t 1), none, false⟩, ⟨some 4, .alloc 38 [.nils], none, false⟩] [0, 3, 4]) (.seq (.reg [⟨some 5, .mov (.c .nils), none, false⟩] [0, 3, 4, 5]) (.seq (.seq (.reg [⟨some 8, .mov (.t 0), none, false⟩, ⟨some 9, .len 1 (.t 8), none, false⟩, ⟨some 10, .mov (.c (.int .i64 0)), none, false⟩] [3, 4, 5, 8, 9, 10]) (.block 0 (.loop lp41_0))) (.seq (.reg [⟨some 39, .mov (.t 5), none, false⟩, ⟨some 40, .call (.c (.func 76 [] [])) [.t 39], none, false⟩, ⟨none, .store 1 (.t 4) (.t 40), none, false⟩] [4]) .ret)))
def x41 : XF := ⟨2, b41, [.cell 4 true 1]⟩
def h41 : Yl := fun id => match id with
  | 0 => [0, 3, 4]
  | 1 => [0, 3, 4, 5]
  | 2 => [3, 4, 5, 8, 9, 10]
  | 3 => [3, 4, 5, 8, 9, 10, 11]
  | 4 => [3, 4, 5, 6, 7, 8, 9, 10]
  | 5 => [3, 4, 5, 6, 8, 9, 10, 33]
  | 6 => [3, 4, 5, 8, 9, 10]
  | 7 => [3, 4, 5, 8, 9, 10]
  | 8 => [4]
  | _ => []
theorem cv41 : cvF Tryz.prog h41 Tryz.f41 = some x41 := by kernel_rfl

/-- winnower/column.At -/
def b44 : XC := .seq (.reg [⟨some 2, .box 61 (.t 0), none, false⟩, ⟨some 4, .alloc 51 [.int .i64 0, .int .i64 0, .str ⟨#[]⟩, .bool false], none, false⟩, ⟨some 5, .mov (.c (.bool false)), none, false⟩] [1, 2, 4]) (.seq (.seq (.reg [⟨some 6, .mov (.t 1), none, false⟩, ⟨some 7, .bin .lss (.t 6) (.c (.int .i64 0)), none, false⟩, ⟨some 8, .mov (.t 7), none, false⟩, ⟨some 9, .mov (.t 1), some (8, false), false⟩, ⟨some 10, .faddr 0 (.t 2), some (8, false), false⟩, ⟨some 11, .load false 1 (.t 10), some (8, false), false⟩, ⟨some 12, .bin .geq (.t 9) (.t 11), some (8, false), false⟩, ⟨some 13, .pick (.t 8) (.c (.bool true)) (.t 12), none, false⟩, ⟨some 14, .mov (.t 13), none, false⟩, ⟨some 15, .load true 3 (.t 2), some (14, false), false⟩, ⟨some 16, .call (.c (.func 38 [] [])) [.t 15], some (14, false), false⟩, ⟨some 17, .un .not (.t 16), some (14, false), false⟩, ⟨some 18, .pick (.t 14) (.c (.bool true)) (.t 17), none, false⟩] [1, 2, 4, 18]) (.cond (.t 18) (.seq (.reg [⟨some 19, .build [.int .i64 0, .int .i64 0, .str ⟨#[]⟩, .bool false] [], none, false⟩, ⟨none, .store 4 (.t 4) (.t 19), none, false⟩, ⟨some 5, .mov (.c (.bool false)), none, false⟩] [4, 5]) .ret) .skip)) (.seq (.reg [⟨some 20, .faddr 1 (.t 2), none, false⟩, ⟨some 21, .load false 1 (.t 20), none, false⟩, ⟨some 22, .faddr 2 (.t 2), none, false⟩, ⟨some 23, .load false 1 (.t 22), none, false⟩, ⟨some 24, .mov (.t 1), none, false⟩, ⟨some 25, .faddr 1 (.t 2), none, false⟩, ⟨some 26, .load false 1 (.t 25), none, false⟩, ⟨some 27, .len 4 (.t 26), none, false⟩, ⟨some 28, .call (.c (.func 80 [] [])) [.t 27], none, true⟩, ⟨some 29, .call (.c (.func 79 [] [])) [.t 23, .t 24, .t 28], none, true⟩, ⟨some 30, .iaddr 4 (.t 21) (.t 29), none, false⟩, ⟨some 31, .load true 4 (.t 30), none, false⟩, ⟨none, .store 4 (.t 4) (.t 31), none, false⟩, ⟨some 5, .mov (.c (.bool true)), none, false⟩] [4, 5]) .ret))
def x44 : XF := ⟨2, b44, [.cell 4 true 4, .t 5]⟩
def h44 : Yl := fun id => match id with
  | 0 => [1, 2, 4]
  | 1 => [1, 2, 4, 18]
  | 2 => [4, 5]
  | 3 => [4, 5]
  | _ => []
theorem cv44 : cvF Tryz.prog h44 Tryz.f44 = some x44 := by kernel_rfl

/-- (winnower/bitset.Set).Has -/
def b53 : XC := .seq (.reg [⟨some 2, .box 38 (.t 0), none, false⟩, ⟨some 4, .mov (.c (.bool false)), none, false⟩] [1, 2]) (.seq (.reg [⟨some 5, .mov (.t 1), none, false⟩, ⟨some 6, .call (.c (.func 89 [] [])) [.t 5], none, false⟩, ⟨some 7, .mov (.t 6), none, false⟩, ⟨some 8, .load true 1 (.t 2), some (7, true), false⟩, ⟨some 9, .mov (.t 1), some (7, true), false⟩, ⟨some 10, .bin .quo (.t 9) (.c (.int .i64 64)), some (7, true), false⟩, ⟨some 11, .call (.c (.func 35 [] [])) [.t 8, .t 10], some (7, true), false⟩, ⟨some 12, .mov (.t 1), some (7, true), false⟩, ⟨some 13, .bin .rem (.t 12) (.c (.int .i64 64)), some (7, true), false⟩, ⟨some 14, .bin .shr (.t 11) (.t 13), some (7, true), false⟩, ⟨some 15, .bin .and (.t 14) (.c (.int .u64 1)), some (7, true), false⟩, ⟨some 16, .bin .eql (.t 15) (.c (.int .u64 1)), some (7, true), false⟩, ⟨some 17, .pick (.t 7) (.t 16) (.c (.bool false)), none, false⟩, ⟨some 4, .mov (.t 17), none, false⟩] [4]) .ret)
def x53 : XF := ⟨2, b53, [.t 4]⟩
def h53 : Yl := fun id => match id with
  | 0 => [1, 2]
  | 1 => [4]
  | _ => []
theorem cv53 : cvF Tryz.prog h53 Tryz.f53 = some x53 := by kernel_rfl

/-- winnower/column.Values -/
def lp54_0 : XC := .seq (.reg [⟨some 18, .bin .lss (.t 17) (.t 16), none, false⟩] [1, 5, 15, 16, 17, 18]) (.seq (.cond (.t 18) .skip (.exit 0)) (.seq (.block 1 (.seq (.reg [⟨some 19, .iaddr 1 (.t 15) (.t 17), none, false⟩, ⟨some 20, .load false 1 (.t 19), none, false⟩, ⟨some 7, .mov (.t 20), none, false⟩] [1, 5, 7, 15, 16, 17]) (.reg [⟨some 21, .mov (.t 5), none, false⟩, ⟨some 22, .faddr 1 (.t 1), none, false⟩, ⟨some 23, .load false 1 (.t 22), none, false⟩, ⟨some 24, .mov (.t 7), none, false⟩, ⟨some 25, .iaddr 4 (.t 23) (.t 24), none, false⟩, ⟨some 26, .load true 4 (.t 25), none, false⟩, ⟨some 27, .mkslice true 51 4 [.t 26], none, false⟩, ⟨some 28, .app 51 4 40 (.t 21) (.t 27), none, false⟩, ⟨some 5, .mov (.t 28), none, false⟩] [1, 5, 15, 16, 17]))) (.reg [⟨some 29, .bin .add (.t 17) (.c (.int .i64 1)), none, false⟩, ⟨some 17, .mov (.t 29), none, false⟩] [1, 5, 15, 16, 17])))
def b54 : XC := .seq (.reg [⟨some 1, .box 61 (.t 0), none, false⟩, ⟨some 2, .mov (.c .nils), none, false⟩] [1]) (.seq (.reg [⟨some 9, .load true 3 (.t 1), none, false⟩, ⟨some 10, .call (.c (.func 64 [] [])) [.t 9], none, false⟩, ⟨some 8, .mov (.t 10), none, false⟩, ⟨some 11, .ext (.t 8) 0, none, false⟩, ⟨some 12, .ext (.t 8) 1, none, false⟩, ⟨some 3, .mov (.t 11), none, false⟩, ⟨some 4, .mov (.t 12), none, false⟩] [1, 3, 4]) (.seq (.seq (.reg [⟨some 13, .mov (.t 4), none, false⟩, ⟨some 14, .un .not (.t 13), none, false⟩] [1, 3, 14]) (.cond (.t 14) (.seq (.reg [⟨some 2, .mov (.c .nils), none, false⟩] [2]) .ret) .skip)) (.seq (.reg [⟨some 5, .mov (.c .nils), none, false⟩] [1, 3, 5]) (.seq (.seq (.reg [⟨some 15, .mov (.t 3), none, false⟩, ⟨some 16, .len 1 (.t 15), none, false⟩, ⟨some 17, .mov (.c (.int .i64 0)), none, false⟩] [1, 5, 15, 16, 17]) (.block 0 (.loop lp54_0))) (.seq (.reg [⟨some 30, .mov (.t 5), none, false⟩, ⟨some 2, .mov (.t 30), none, false⟩] [2]) .ret)))))
def x54 : XF := ⟨1, b54, [.t 2]⟩
def h54 : Yl := fun id => match id with
  | 0 => [1]
  | 1 => [1, 3, 4]
  | 2 => [1, 3, 14]
  | 3 => [2]
  | 4 => [1, 3, 5]
  | 5 => [1, 5, 15, 16, 17]
  | 6 => [1, 5, 15, 16, 17, 18]
  | 7 => [1, 5, 7, 15, 16, 17]
  | 8 => [1, 5, 15, 16, 17]
  | 9 => [1, 5, 15, 16, 17]
  | 10 => [2]
  | _ => []
theorem cv54 : cvF Tryz.prog h54 Tryz.f54 = some x54 := by kernel_rfl

/-- winnower/seal.across -/
def lp55_1 : XC := .seq (.reg [⟨some 26, .bin .lss (.t 25) (.t 24), none, false⟩] [1, 6, 13, 14, 15, 23, 24, 25, 26]) (.seq (.cond (.t 26) .skip (.exit 2)) (.seq (.block 3 (.seq (.reg [⟨some 27, .mov (.t 25), none, false⟩, ⟨some 28, .iaddr 4 (.t 23) (.t 25), none, false⟩, ⟨some 29, .load true 4 (.t 28), none, false⟩, ⟨some 10, .alloc 51 [.int .i64 0, .int .i64 0, .str ⟨#[]⟩, .bool false], none, false⟩, ⟨some 9, .mov (.t 27), none, false⟩, ⟨none, .store 4 (.t 10) (.t 29), none, false⟩] [1, 6, 9, 10, 13, 14, 15, 23, 24, 25]) (.reg [⟨some 30, .mov (.t 6), none, false⟩, ⟨some 31, .mov (.t 9), none, false⟩, ⟨some 32, .mov (.t 6), none, false⟩, ⟨some 33, .mov (.t 9), none, false⟩, ⟨some 34, .iaddr 1 (.t 32) (.t 33), none, false⟩, ⟨some 35, .load false 1 (.t 34), none, false⟩, ⟨some 36, .load true 4 (.t 10), none, false⟩, ⟨some 37, .mkslice true 51 4 [.t 36], none, true⟩, ⟨some 38, .app 51 4 40 (.t 35) (.t 37), none, false⟩, ⟨some 39, .iaddr 1 (.t 30) (.t 31), none, false⟩, ⟨none, .store 1 (.t 39) (.t 38), none, false⟩] [1, 6, 13, 14, 15, 23, 24, 25]))) (.reg [⟨some 40, .bin .add (.t 25) (.c (.int .i64 1)), none, false⟩, ⟨some 25, .mov (.t 40), none, false⟩] [1, 6, 13, 14, 15, 23, 24, 25])))
def lp55_0 : XC := .seq (.reg [⟨some 16, .bin .lss (.t 15) (.t 14), none, false⟩] [1, 6, 13, 14, 15, 16]) (.seq (.cond (.t 16) .skip (.exit 0)) (.seq (.block 1 (.seq (.reg [⟨some 17, .iaddr 1 (.t 13) (.t 15), none, false⟩, ⟨some 18, .load false 1 (.t 17), none, false⟩, ⟨some 8, .mov (.t 18), none, false⟩] [1, 6, 8, 13, 14, 15]) (.seq (.seq (.reg [⟨some 19, .mov (.t 8), none, false⟩, ⟨some 20, .len 4 (.t 19), none, false⟩, ⟨some 21, .mov (.t 1), none, false⟩, ⟨some 22, .bin .neq (.t 20) (.t 21), none, false⟩] [1, 6, 8, 13, 14, 15, 22]) (.cond (.t 22) (.seq (.reg [⟨some 4, .mov (.c .nils), none, false⟩, ⟨some 5, .mov (.c (.bool false)), none, false⟩] [4, 5]) .ret) .skip)) (.seq (.reg [⟨some 23, .mov (.t 8), none, false⟩, ⟨some 24, .len 4 (.t 23), none, false⟩, ⟨some 25, .mov (.c (.int .i64 0)), none, false⟩] [1, 6, 13, 14, 15, 23, 24, 25]) (.block 2 (.loop lp55_1)))))) (.reg [⟨some 41, .bin .add (.t 15) (.c (.int .i64 1)), none, false⟩, ⟨some 15, .mov (.t 41), none, false⟩] [1, 6, 13, 14, 15])))
def b55 : XC := .seq (.reg [⟨some 4, .mov (.c .nils), none, false⟩, ⟨some 5, .mov (.c (.bool false)), none, false⟩] [0, 1]) (.seq (.reg [⟨some 11, .mov (.t 1), none, false⟩, ⟨some 12, .make 45 1 24 .nils (.t 11) (.t 11), none, false⟩, ⟨some 6, .mov (.t 12), none, false⟩] [0, 1, 6]) (.seq (.seq (.reg [⟨some 13, .mov (.t 0), none, false⟩, ⟨some 14, .len 1 (.t 13), none, false⟩, ⟨some 15, .mov (.c (.int .i64 0)), none, false⟩] [1, 6, 13, 14, 15]) (.block 0 (.loop lp55_0))) (.seq (.reg [⟨some 42, .mov (.t 6), none, false⟩, ⟨some 4, .mov (.t 42), none, false⟩, ⟨some 5, .mov (.c (.bool true)), none, false⟩] [4, 5]) .ret)))
def x55 : XF := ⟨2, b55, [.t 4, .t 5]⟩
def h55 : Yl := fun id => match id with
  | 0 => [0, 1]
  | 1 => [0, 1, 6]
  | 2 => [1, 6, 13, 14, 15]
  | 3 => [1, 6, 13, 14, 15, 16]
  | 4 => [1, 6, 8, 13, 14, 15]
  | 5 => [1, 6, 8, 13, 14, 15, 22]
  | 6 => [4, 5]
  | 7 => [1, 6, 13, 14, 15, 23, 24, 25]
  | 8 => [1, 6, 13, 14, 15, 23, 24, 25, 26]
  | 9 => [1, 6, 9, 10, 13, 14, 15, 23, 24, 25]
  | 10 => [1, 6, 13, 14, 15, 23, 24, 25]
  | 11 => [1, 6, 13, 14, 15, 23, 24, 25]
  | 12 => [1, 6, 13, 14, 15]
  | 13 => [4, 5]
  | _ => []
theorem cv55 : cvF Tryz.prog h55 Tryz.f55 = some x55 := by kernel_rfl

/-- winnower/schema.May -/
def lp56_0 : XC := .seq (.reg [⟨some 9, .bin .lss (.t 8) (.t 7), none, false⟩] [1, 6, 7, 8, 9]) (.seq (.cond (.t 9) .skip (.exit 0)) (.seq (.block 1 (.seq (.reg [⟨some 10, .mov (.t 8), none, false⟩, ⟨some 11, .iaddr 3 (.t 6) (.t 8), none, false⟩, ⟨some 12, .load true 3 (.t 11), none, false⟩, ⟨some 4, .alloc 63 [.str ⟨#[]⟩, .int .i64 0, .bool false], none, false⟩, ⟨some 3, .mov (.t 10), none, false⟩, ⟨none, .store 3 (.t 4) (.t 12), none, false⟩] [1, 3, 4, 6, 7, 8]) (.seq (.reg [⟨some 13, .faddr 0 (.t 4), none, false⟩, ⟨some 14, .load false 1 (.t 13), none, false⟩, ⟨some 15, .call (.c (.func 90 [] [])) [.t 14], none, false⟩, ⟨some 16, .un .not (.t 15), none, false⟩, ⟨some 17, .mov (.t 16), none, false⟩, ⟨some 18, .faddr 1 (.t 4), some (17, false), false⟩, ⟨some 19, .load false 1 (.t 18), some (17, false), false⟩, ⟨some 20, .bin .lss (.t 19) (.c (.int .i64 1)), some (17, false), false⟩, ⟨some 21, .pick (.t 17) (.c (.bool true)) (.t 20), none, false⟩, ⟨some 22, .mov (.t 21), none, false⟩, ⟨some 23, .faddr 1 (.t 4), some (22, false), false⟩, ⟨some 24, .load false 1 (.t 23), some (22, false), false⟩, ⟨some 25, .bin .gtr (.t 24) (.c (.int .i64 3)), some (22, false), false⟩, ⟨some 26, .pick (.t 22) (.c (.bool true)) (.t 25), none, false⟩, ⟨some 27, .mov (.t 26), none, false⟩, ⟨some 28, .load true 5 (.t 1), some (27, false), false⟩, ⟨some 29, .faddr 0 (.t 4), some (27, false), false⟩, ⟨some 30, .load false 1 (.t 29), some (27, false), false⟩, ⟨some 31, .call (.c (.func 91 [] [])) [.t 28, .t 30], some (27, false), false⟩, ⟨some 32, .mov (.t 3), some (27, false), false⟩, ⟨some 33, .bin .neq (.t 31) (.t 32), some (27, false), false⟩, ⟨some 34, .pick (.t 27) (.c (.bool true)) (.t 33), none, false⟩] [1, 6, 7, 8, 34]) (.cond (.t 34) (.seq (.reg [⟨some 2, .mov (.c (.bool false)), none, false⟩] [2]) .ret) .skip)))) (.reg [⟨some 35, .bin .add (.t 8) (.c (.int .i64 1)), none, false⟩, ⟨some 8, .mov (.t 35), none, false⟩] [1, 6, 7, 8])))
def b56 : XC := .seq (.reg [⟨some 1, .box 25 (.t 0), none, false⟩, ⟨some 2, .mov (.c (.bool false)), none, false⟩] [1]) (.seq (.seq (.reg [⟨some 5, .faddr 0 (.t 1), none, false⟩, ⟨some 6, .load false 1 (.t 5), none, false⟩, ⟨some 7, .len 3 (.t 6), none, false⟩, ⟨some 8, .mov (.c (.int .i64 0)), none, false⟩] [1, 6, 7, 8]) (.block 0 (.loop lp56_0))) (.seq (.reg [⟨some 36, .faddr 0 (.t 1), none, false⟩, ⟨some 37, .load false 1 (.t 36), none, false⟩, ⟨some 38, .len 3 (.t 37), none, false⟩, ⟨some 39, .bin .geq (.t 38) (.c (.int .i64 1)), none, false⟩, ⟨some 40, .mov (.t 39), none, false⟩, ⟨some 41, .faddr 0 (.t 1), some (40, true), false⟩, ⟨some 42, .load false 1 (.t 41), some (40, true), false⟩, ⟨some 43, .len 3 (.t 42), some (40, true), false⟩, ⟨some 44, .bin .leq (.t 43) (.c (.int .i64 8)), some (40, true), false⟩, ⟨some 45, .pick (.t 40) (.t 44) (.c (.bool false)), none, false⟩, ⟨some 46, .mov (.t 45), none, false⟩, ⟨some 47, .load true 5 (.t 1), some (46, true), false⟩, ⟨some 48, .call (.c (.func 92 [] [])) [.t 47], some (46, true), false⟩, ⟨some 49, .pick (.t 46) (.t 48) (.c (.bool false)), none, false⟩, ⟨some 50, .mov (.t 49), none, false⟩, ⟨some 51, .faddr 4 (.t 1), some (50, true), false⟩, ⟨some 52, .load false 1 (.t 51), some (50, true), false⟩, ⟨some 53, .bin .geq (.t 52) (.c (.int .i64 (-1))), some (50, true), false⟩, ⟨some 54, .pick (.t 50) (.t 53) (.c (.bool false)), none, false⟩, ⟨some 55, .mov (.t 54), none, false⟩, ⟨some 56, .faddr 4 (.t 1), some (55, true), false⟩, ⟨some 57, .load false 1 (.t 56), some (55, true), false⟩, ⟨some 58, .faddr 0 (.t 1), some (55, true), false⟩, ⟨some 59, .load false 1 (.t 58), some (55, true), false⟩, ⟨some 60, .len 3 (.t 59), some (55, true), false⟩, ⟨some 61, .bin .lss (.t 57) (.t 60), some (55, true), false⟩, ⟨some 62, .pick (.t 55) (.t 61) (.c (.bool false)), none, false⟩, ⟨some 2, .mov (.t 62), none, false⟩] [2]) .ret))
def x56 : XF := ⟨1, b56, [.t 2]⟩
def h56 : Yl := fun id => match id with
  | 0 => [1]
  | 1 => [1, 6, 7, 8]
  | 2 => [1, 6, 7, 8, 9]
  | 3 => [1, 3, 4, 6, 7, 8]
  | 4 => [1, 6, 7, 8, 34]
  | 5 => [2]
  | 6 => [1, 6, 7, 8]
  | 7 => [2]
  | _ => []
theorem cv56 : cvF Tryz.prog h56 Tryz.f56 = some x56 := by kernel_rfl

/-- slices.ContainsFunc[[][]winnower/api.Value,[]winnower/api.Value] -/
def b57 : XC := .seq (.reg [⟨some 4, .mov (.c (.bool false)), none, false⟩] [0, 1]) (.seq (.reg [⟨some 5, .mov (.t 0), none, false⟩, ⟨some 6, .mov (.t 1), none, false⟩, ⟨some 7, .call (.c (.func 93 [] [])) [.t 5, .t 6], none, false⟩, ⟨some 8, .bin .geq (.t 7) (.c (.int .i64 0)), none, false⟩, ⟨some 4, .mov (.t 8), none, false⟩] [4]) .ret)
def x57 : XF := ⟨2, b57, [.t 4]⟩
def h57 : Yl := fun id => match id with
  | 0 => [0, 1]
  | 1 => [4]
  | _ => []
theorem cv57 : cvF Tryz.prog h57 Tryz.f57 = some x57 := by kernel_rfl

/-- (winnower/seal.sorter).fit$1 -/
def b58 : XC := .seq (.reg [⟨some 3, .mov (.c (.bool false)), none, false⟩] [0, 1]) (.seq (.reg [⟨some 4, .faddr 0 (.t 1), none, false⟩, ⟨some 5, .load true 5 (.t 4), none, false⟩, ⟨some 6, .mov (.t 0), none, false⟩, ⟨some 7, .call (.c (.func 59 [] [])) [.t 5, .t 6], none, false⟩, ⟨some 8, .un .not (.t 7), none, false⟩, ⟨some 3, .mov (.t 8), none, false⟩] [3]) .ret)
def x58 : XF := ⟨2, b58, [.t 3]⟩
def h58 : Yl := fun id => match id with
  | 0 => [0, 1]
  | 1 => [3]
  | _ => []
theorem cv58 : cvF Tryz.prog h58 Tryz.f58 = some x58 := by kernel_rfl

/-- winnower/schema.Fits -/
def lp59_0 : XC := .seq (.reg [⟨some 22, .bin .lss (.t 21) (.t 20), none, false⟩] [1, 19, 20, 21, 22]) (.seq (.cond (.t 22) .skip (.exit 0)) (.seq (.block 1 (.seq (.reg [⟨some 23, .mov (.t 21), none, false⟩, ⟨some 24, .iaddr 3 (.t 19) (.t 21), none, false⟩, ⟨some 25, .load true 3 (.t 24), none, false⟩, ⟨some 6, .alloc 63 [.str ⟨#[]⟩, .int .i64 0, .bool false], none, false⟩, ⟨some 5, .mov (.t 23), none, false⟩, ⟨none, .store 3 (.t 6) (.t 25), none, false⟩] [1, 5, 6, 19, 20, 21]) (.seq (.reg [⟨some 26, .load true 3 (.t 6), none, false⟩, ⟨some 27, .mov (.t 1), none, false⟩, ⟨some 28, .mov (.t 5), none, false⟩, ⟨some 29, .iaddr 4 (.t 27) (.t 28), none, false⟩, ⟨some 30, .load true 4 (.t 29), none, false⟩, ⟨some 31, .call (.c (.func 94 [] [])) [.t 26, .t 30], none, false⟩, ⟨some 32, .un .not (.t 31), none, false⟩] [1, 19, 20, 21, 32]) (.cond (.t 32) (.seq (.reg [⟨some 4, .mov (.c (.bool false)), none, false⟩] [4]) .ret) .skip)))) (.reg [⟨some 33, .bin .add (.t 21) (.c (.int .i64 1)), none, false⟩, ⟨some 21, .mov (.t 33), none, false⟩] [1, 19, 20, 21])))
def b59 : XC := .seq (.reg [⟨some 2, .box 25 (.t 0), none, false⟩, ⟨some 4, .mov (.c (.bool false)), none, false⟩] [1, 2]) (.seq (.seq (.reg [⟨some 7, .load true 5 (.t 2), none, false⟩, ⟨some 8, .call (.c (.func 56 [] [])) [.t 7], none, false⟩, ⟨some 9, .un .not (.t 8), none, false⟩, ⟨some 10, .mov (.t 9), none, false⟩, ⟨some 11, .mov (.t 1), some (10, false), false⟩, ⟨some 12, .len 4 (.t 11), some (10, false), false⟩, ⟨some 13, .faddr 0 (.t 2), some (10, false), false⟩, ⟨some 14, .load false 1 (.t 13), some (10, false), false⟩, ⟨some 15, .len 3 (.t 14), some (10, false), false⟩, ⟨some 16, .bin .neq (.t 12) (.t 15), some (10, false), false⟩, ⟨some 17, .pick (.t 10) (.c (.bool true)) (.t 16), none, false⟩] [1, 2, 17]) (.cond (.t 17) (.seq (.reg [⟨some 4, .mov (.c (.bool false)), none, false⟩] [4]) .ret) .skip)) (.seq (.seq (.reg [⟨some 18, .faddr 0 (.t 2), none, false⟩, ⟨some 19, .load false 1 (.t 18), none, false⟩, ⟨some 20, .len 3 (.t 19), none, false⟩, ⟨some 21, .mov (.c (.int .i64 0)), none, false⟩] [1, 19, 20, 21]) (.block 0 (.loop lp59_0))) (.seq (.reg [⟨some 4, .mov (.c (.bool true)), none, false⟩] [4]) .ret)))
def x59 : XF := ⟨2, b59, [.t 4]⟩
def h59 : Yl := fun id => match id with
  | 0 => [1, 2]
  | 1 => [1, 2, 17]
  | 2 => [4]
  | 3 => [1, 19, 20, 21]
  | 4 => [1, 19, 20, 21, 22]
  | 5 => [1, 5, 6, 19, 20, 21]
  | 6 => [1, 19, 20, 21, 32]
  | 7 => [4]
  | 8 => [1, 19, 20, 21]
  | 9 => [4]
  | _ => []
theorem cv59 : cvF Tryz.prog h59 Tryz.f59 = some x59 := by kernel_rfl

/-- winnower/value.Order -/
def b62 : XC := .seq (.reg [⟨some 2, .box 51 (.t 0), none, false⟩, ⟨some 3, .box 51 (.t 1), none, false⟩, ⟨some 4, .mov (.c (.int .i64 0)), none, false⟩] [2, 3]) (.seq (.block 0 (.seq (.reg [⟨some 6, .faddr 0 (.t 2), none, false⟩, ⟨some 7, .load false 1 (.t 6), none, false⟩, ⟨some 8, .faddr 0 (.t 3), none, false⟩, ⟨some 9, .load false 1 (.t 8), none, false⟩, ⟨some 10, .bin .neq (.t 7) (.t 9), none, false⟩, ⟨some 5, .mov (.t 10), none, false⟩] [2, 3, 5]) (.cond (.t 5) (.seq (.reg [⟨some 11, .faddr 0 (.t 2), none, false⟩, ⟨some 12, .load false 1 (.t 11), none, false⟩, ⟨some 13, .faddr 0 (.t 3), none, false⟩, ⟨some 14, .load false 1 (.t 13), none, false⟩, ⟨some 15, .call (.c (.func 106 [] [])) [.t 12, .t 14], none, false⟩, ⟨some 4, .mov (.t 15), none, false⟩] [4]) .ret) (.seq (.reg [⟨some 17, .faddr 0 (.t 2), none, false⟩, ⟨some 18, .load false 1 (.t 17), none, false⟩, ⟨some 19, .bin .eql (.t 18) (.c (.int .i64 1)), none, false⟩, ⟨some 16, .mov (.t 19), none, false⟩] [2, 3, 16]) (.cond (.t 16) (.seq (.reg [⟨some 20, .faddr 1 (.t 2), none, false⟩, ⟨some 21, .load false 1 (.t 20), none, false⟩, ⟨some 22, .faddr 1 (.t 3), none, false⟩, ⟨some 23, .load false 1 (.t 22), none, false⟩, ⟨some 24, .call (.c (.func 106 [] [])) [.t 21, .t 23], none, false⟩, ⟨some 4, .mov (.t 24), none, false⟩] [4]) .ret) (.seq (.reg [⟨some 26, .faddr 0 (.t 2), none, false⟩, ⟨some 27, .load false 1 (.t 26), none, false⟩, ⟨some 28, .bin .eql (.t 27) (.c (.int .i64 2)), none, false⟩, ⟨some 25, .mov (.t 28), none, false⟩] [2, 3, 25]) (.cond (.t 25) (.seq (.reg [⟨some 29, .faddr 2 (.t 2), none, false⟩, ⟨some 30, .load false 1 (.t 29), none, false⟩, ⟨some 31, .faddr 2 (.t 3), none, false⟩, ⟨some 32, .load false 1 (.t 31), none, false⟩, ⟨some 33, .call (.c (.func 107 [] [])) [.t 30, .t 32], none, false⟩, ⟨some 4, .mov (.t 33), none, false⟩] [4]) .ret) (.seq (.reg [⟨some 35, .faddr 0 (.t 2), none, false⟩, ⟨some 36, .load false 1 (.t 35), none, false⟩, ⟨some 37, .bin .eql (.t 36) (.c (.int .i64 3)), none, false⟩, ⟨some 34, .mov (.t 37), none, false⟩] [2, 3, 34]) (.cond (.t 34) (.seq (.reg [⟨some 38, .faddr 3 (.t 2), none, false⟩, ⟨some 39, .load false 1 (.t 38), none, false⟩, ⟨some 40, .call (.c (.func 108 [] [])) [.t 39], none, true⟩, ⟨some 41, .faddr 3 (.t 3), none, false⟩, ⟨some 42, .load false 1 (.t 41), none, false⟩, ⟨some 43, .call (.c (.func 108 [] [])) [.t 42], none, false⟩, ⟨some 44, .call (.c (.func 106 [] [])) [.t 40, .t 43], none, false⟩, ⟨some 4, .mov (.t 44), none, false⟩] [4]) .ret) .skip))))))))) (.seq (.reg [⟨some 4, .mov (.c (.int .i64 0)), none, false⟩] [4]) .ret))
def x62 : XF := ⟨2, b62, [.t 4]⟩
def h62 : Yl := fun id => match id with
  | 0 => [2, 3]
  | 1 => [2, 3, 5]
  | 2 => [4]
  | 3 => [2, 3, 16]
  | 4 => [4]
  | 5 => [2, 3, 25]
  | 6 => [4]
  | 7 => [2, 3, 34]
  | 8 => [4]
  | 9 => [4]
  | _ => []
theorem cv62 : cvF Tryz.prog h62 Tryz.f62 = some x62 := by kernel_rfl

/-- slices.IndexFunc[[]winnower/api.Column,winnower/api.Column] -/
def lp63_0 : XC := .seq (.reg [⟨some 9, .bin .lss (.t 8) (.t 7), none, false⟩] [0, 1, 7, 8, 9]) (.seq (.cond (.t 9) .skip (.exit 0)) (.seq (.block 1 (.seq (.reg [⟨some 10, .mov (.t 8), none, false⟩, ⟨some 5, .mov (.t 10), none, false⟩] [0, 1, 5, 7, 8]) (.seq (.reg [⟨some 11, .mov (.t 1), none, false⟩, ⟨some 12, .mov (.t 0), none, false⟩, ⟨some 13, .mov (.t 5), none, false⟩, ⟨some 14, .iaddr 3 (.t 12) (.t 13), none, false⟩, ⟨some 15, .load true 3 (.t 14), none, false⟩, ⟨some 16, .call (.t 11) [.t 15], none, false⟩] [0, 1, 5, 7, 8, 16]) (.cond (.t 16) (.seq (.reg [⟨some 17, .mov (.t 5), none, false⟩, ⟨some 4, .mov (.t 17), none, false⟩] [4]) .ret) .skip)))) (.reg [⟨some 18, .bin .add (.t 8) (.c (.int .i64 1)), none, false⟩, ⟨some 8, .mov (.t 18), none, false⟩] [0, 1, 7, 8])))
def b63 : XC := .seq (.reg [⟨some 4, .mov (.c (.int .i64 0)), none, false⟩] [0, 1]) (.seq (.seq (.reg [⟨some 6, .mov (.t 0), none, false⟩, ⟨some 7, .len 3 (.t 6), none, false⟩, ⟨some 8, .mov (.c (.int .i64 0)), none, false⟩] [0, 1, 7, 8]) (.block 0 (.loop lp63_0))) (.seq (.reg [⟨some 4, .mov (.c (.int .i64 (-1))), none, false⟩] [4]) .ret))
def x63 : XF := ⟨2, b63, [.t 4]⟩
def h63 : Yl := fun id => match id with
  | 0 => [0, 1]
  | 1 => [0, 1, 7, 8]
  | 2 => [0, 1, 7, 8, 9]
  | 3 => [0, 1, 5, 7, 8]
  | 4 => [0, 1, 5, 7, 8, 16]
  | 5 => [4]
  | 6 => [0, 1, 7, 8]
  | 7 => [4]
  | _ => []
theorem cv63 : cvF Tryz.prog h63 Tryz.f63 = some x63 := by kernel_rfl

/-- winnower/column.ids -/
def lp64_0 : XC := .seq (.reg [⟨some 39, .bin .lss (.t 38) (.t 37), none, false⟩] [1, 4, 5, 6, 36, 37, 38, 39]) (.seq (.cond (.t 39) .skip (.exit 0)) (.seq (.block 1 (.seq (.reg [⟨some 40, .iaddr 1 (.t 36) (.t 38), none, false⟩, ⟨some 41, .load false 1 (.t 40), none, false⟩, ⟨some 8, .mov (.t 41), none, false⟩] [1, 4, 5, 6, 8, 36, 37, 38]) (.seq (.seq (.reg [⟨some 42, .mov (.t 8), none, false⟩, ⟨some 43, .faddr 1 (.t 1), none, false⟩, ⟨some 44, .load false 1 (.t 43), none, false⟩, ⟨some 45, .len 4 (.t 44), none, false⟩, ⟨some 46, .bin .geq (.t 42) (.t 45), none, false⟩] [1, 4, 5, 6, 8, 36, 37, 38, 46]) (.cond (.t 46) (.seq (.reg [⟨some 2, .mov (.c .nils), none, false⟩, ⟨some 3, .mov (.c (.bool false)), none, false⟩] [2, 3]) .ret) .skip)) (.reg [⟨some 47, .mov (.t 6), none, false⟩, ⟨some 48, .mov (.t 8), none, false⟩, ⟨none, .mset false [1] (.t 47) (.t 48) (.c (.bool true)), none, false⟩] [1, 4, 5, 6, 36, 37, 38])))) (.reg [⟨some 49, .bin .add (.t 38) (.c (.int .i64 1)), none, false⟩, ⟨some 38, .mov (.t 49), none, false⟩] [1, 4, 5, 6, 36, 37, 38])))
def b64 : XC := .seq (.reg [⟨some 1, .box 61 (.t 0), none, false⟩, ⟨some 2, .mov (.c .nils), none, false⟩, ⟨some 3, .mov (.c (.bool false)), none, false⟩] [1]) (.seq (.seq (.reg [⟨some 9, .faddr 0 (.t 1), none, false⟩, ⟨some 10, .load false 1 (.t 9), none, false⟩, ⟨some 11, .bin .lss (.t 10) (.c (.int .i64 0)), none, false⟩, ⟨some 12, .mov (.t 11), none, false⟩, ⟨some 13, .faddr 0 (.t 1), some (12, false), false⟩, ⟨some 14, .load false 1 (.t 13), some (12, false), false⟩, ⟨some 15, .bin .gtr (.t 14) (.c (.int .i64 4096)), some (12, false), false⟩, ⟨some 16, .pick (.t 12) (.c (.bool true)) (.t 15), none, false⟩, ⟨some 17, .mov (.t 16), none, false⟩, ⟨some 18, .faddr 1 (.t 1), some (17, false), false⟩, ⟨some 19, .load false 1 (.t 18), some (17, false), false⟩, ⟨some 20, .call (.c (.func 109 [] [])) [.t 19], some (17, false), false⟩, ⟨some 21, .un .not (.t 20), some (17, false), false⟩, ⟨some 22, .pick (.t 17) (.c (.bool true)) (.t 21), none, false⟩] [1, 22]) (.cond (.t 22) (.seq (.reg [⟨some 2, .mov (.c .nils), none, false⟩, ⟨some 3, .mov (.c (.bool false)), none, false⟩] [2, 3]) .ret) .skip)) (.seq (.reg [⟨some 24, .faddr 2 (.t 1), none, false⟩, ⟨some 25, .load false 1 (.t 24), none, false⟩, ⟨some 26, .faddr 0 (.t 1), none, false⟩, ⟨some 27, .load false 1 (.t 26), none, false⟩, ⟨some 28, .faddr 1 (.t 1), none, false⟩, ⟨some 29, .load false 1 (.t 28), none, false⟩, ⟨some 30, .len 4 (.t 29), none, false⟩, ⟨some 31, .call (.c (.func 80 [] [])) [.t 30], none, true⟩, ⟨some 32, .call (.c (.func 110 [] [])) [.t 25, .t 27, .t 31], none, false⟩, ⟨some 23, .mov (.t 32), none, false⟩, ⟨some 33, .ext (.t 23) 0, none, false⟩, ⟨some 34, .ext (.t 23) 1, none, false⟩, ⟨some 4, .mov (.t 33), none, false⟩, ⟨some 5, .mov (.t 34), none, false⟩] [1, 4, 5]) (.seq (.reg [⟨some 35, .mkmap none, none, false⟩, ⟨some 6, .mov (.t 35), none, false⟩] [1, 4, 5, 6]) (.seq (.seq (.reg [⟨some 36, .mov (.t 4), none, false⟩, ⟨some 37, .len 1 (.t 36), none, false⟩, ⟨some 38, .mov (.c (.int .i64 0)), none, false⟩] [1, 4, 5, 6, 36, 37, 38]) (.block 0 (.loop lp64_0))) (.seq (.reg [⟨some 50, .mov (.t 4), none, false⟩, ⟨some 51, .mov (.t 5), none, false⟩, ⟨some 52, .bin .eql (.t 51) (.c (.int .i64 0)), none, false⟩, ⟨some 53, .mov (.t 52), none, false⟩, ⟨some 54, .mov (.t 6), some (53, true), false⟩, ⟨some 55, .mlen (.t 54), some (53, true), false⟩, ⟨some 56, .faddr 1 (.t 1), some (53, true), false⟩, ⟨some 57, .load false 1 (.t 56), some (53, true), false⟩, ⟨some 58, .len 4 (.t 57), some (53, true), false⟩, ⟨some 59, .bin .eql (.t 55) (.t 58), some (53, true), false⟩, ⟨some 60, .pick (.t 53) (.t 59) (.c (.bool false)), none, false⟩, ⟨some 2, .mov (.t 50), none, false⟩, ⟨some 3, .mov (.t 60), none, false⟩] [2, 3]) .ret)))))
def x64 : XF := ⟨1, b64, [.t 2, .t 3]⟩
def h64 : Yl := fun id => match id with
  | 0 => [1]
  | 1 => [1, 22]
  | 2 => [2, 3]
  | 3 => [1, 4, 5]
  | 4 => [1, 4, 5, 6]
  | 5 => [1, 4, 5, 6, 36, 37, 38]
  | 6 => [1, 4, 5, 6, 36, 37, 38, 39]
  | 7 => [1, 4, 5, 6, 8, 36, 37, 38]
  | 8 => [1, 4, 5, 6, 8, 36, 37, 38, 46]
  | 9 => [2, 3]
  | 10 => [1, 4, 5, 6, 36, 37, 38]
  | 11 => [1, 4, 5, 6, 36, 37, 38]
  | 12 => [2, 3]
  | _ => []
theorem cv64 : cvF Tryz.prog h64 Tryz.f64 = some x64 := by kernel_rfl

/-- winnower/bitset.Upto -/
def b65 : XC := .seq (.reg [⟨some 1, .box 3 (.t 0), none, false⟩, ⟨some 2, .alloc 38 [.nils], none, false⟩] [1, 2]) (.seq (.reg [⟨some 3, .load false 1 (.t 1), none, false⟩, ⟨some 4, .mmx true [.t 3, .c (.int .i64 0)], none, false⟩, ⟨some 5, .mmx false [.t 4, .c (.int .i64 65536)], none, false⟩, ⟨none, .store 1 (.t 1) (.t 5), none, false⟩] [1, 2]) (.seq (.reg [⟨some 6, .load false 1 (.t 1), none, false⟩, ⟨some 7, .bin .add (.t 6) (.c (.int .i64 64)), none, false⟩, ⟨some 8, .bin .sub (.t 7) (.c (.int .i64 1)), none, false⟩, ⟨some 9, .bin .quo (.t 8) (.c (.int .i64 64)), none, false⟩, ⟨some 10, .mkfn 112 [] [.t 1], none, false⟩, ⟨some 11, .call (.c (.func 111 [] [])) [.t 9, .t 10], none, false⟩, ⟨none, .store 1 (.t 2) (.t 11), none, false⟩] [2]) .ret))
def x65 : XF := ⟨1, b65, [.cell 2 true 1]⟩
def h65 : Yl := fun id => match id with
  | 0 => [1, 2]
  | 1 => [1, 2]
  | 2 => [2]
  | _ => []
theorem cv65 : cvF Tryz.prog h65 Tryz.f65 = some x65 := by kernel_rfl

/-- winnower/filter.sets$1 -/
def b66 : XC := .seq (.reg [⟨some 3, .mov (.c (.bool false)), none, false⟩] [0, 1]) (.seq (.reg [⟨some 4, .mov (.t 0), none, false⟩, ⟨some 5, .bin .geq (.t 4) (.c (.int .i64 0)), none, false⟩, ⟨some 6, .mov (.t 5), none, false⟩, ⟨some 7, .mov (.t 0), some (6, true), false⟩, ⟨some 8, .load false 1 (.t 1), some (6, true), false⟩, ⟨some 9, .len 1 (.t 8), some (6, true), false⟩, ⟨some 10, .bin .lss (.t 7) (.t 9), some (6, true), false⟩, ⟨some 11, .pick (.t 6) (.t 10) (.c (.bool false)), none, false⟩, ⟨some 3, .mov (.t 11), none, false⟩] [3]) .ret)
def x66 : XF := ⟨2, b66, [.t 3]⟩
def h66 : Yl := fun id => match id with
  | 0 => [0, 1]
  | 1 => [3]
  | _ => []
theorem cv66 : cvF Tryz.prog h66 Tryz.f66 = some x66 := by kernel_rfl

/-- (winnower/bitset.Set).Not -/
def b67 : XC := .seq (.reg [⟨some 2, .box 38 (.t 0), none, false⟩, ⟨some 4, .alloc 38 [.nils], none, false⟩] [1, 2, 4]) (.seq (.reg [⟨some 6, .mov (.t 1), none, false⟩, ⟨some 7, .call (.c (.func 65 [] [])) [.t 6], none, false⟩, ⟨some 5, .alloc 38 [.nils], none, false⟩, ⟨none, .store 1 (.t 5) (.t 7), none, false⟩] [2, 4, 5]) (.seq (.reg [⟨some 8, .faddr 0 (.t 5), none, false⟩, ⟨some 9, .load false 1 (.t 8), none, false⟩, ⟨some 10, .len 1 (.t 9), none, false⟩, ⟨some 11, .mkfn 113 [] [.t 5, .t 2], none, false⟩, ⟨some 12, .call (.c (.func 111 [] [])) [.t 10, .t 11], none, false⟩, ⟨none, .store 1 (.t 4) (.t 12), none, false⟩] [4]) .ret))
def x67 : XF := ⟨2, b67, [.cell 4 true 1]⟩
def h67 : Yl := fun id => match id with
  | 0 => [1, 2, 4]
  | 1 => [2, 4, 5]
  | 2 => [4]
  | _ => []
theorem cv67 : cvF Tryz.prog h67 Tryz.f67 = some x67 := by kernel_rfl

/-- (winnower/bitset.Set).And -/
def b68 : XC := .seq (.reg [⟨some 2, .box 38 (.t 0), none, false⟩, ⟨some 3, .box 38 (.t 1), none, false⟩, ⟨some 4, .alloc 38 [.nils], none, false⟩] [2, 3, 4]) (.seq (.reg [⟨some 5, .faddr 0 (.t 2), none, false⟩, ⟨some 6, .load false 1 (.t 5), none, false⟩, ⟨some 7, .len 1 (.t 6), none, false⟩, ⟨some 8, .faddr 0 (.t 3), none, false⟩, ⟨some 9, .load false 1 (.t 8), none, false⟩, ⟨some 10, .len 1 (.t 9), none, false⟩, ⟨some 11, .mmx false [.t 7, .t 10], none, false⟩, ⟨some 12, .mkfn 114 [] [.t 2, .t 3], none, false⟩, ⟨some 13, .call (.c (.func 111 [] [])) [.t 11, .t 12], none, false⟩, ⟨none, .store 1 (.t 4) (.t 13), none, false⟩] [4]) .ret)
def x68 : XF := ⟨2, b68, [.cell 4 true 1]⟩
def h68 : Yl := fun id => match id with
  | 0 => [2, 3, 4]
  | 1 => [4]
  | _ => []
theorem cv68 : cvF Tryz.prog h68 Tryz.f68 = some x68 := by kernel_rfl

/-- (winnower/bitset.Set).Or -/
def b69 : XC := .seq (.reg [⟨some 2, .box 38 (.t 0), none, false⟩, ⟨some 3, .box 38 (.t 1), none, false⟩, ⟨some 4, .alloc 38 [.nils], none, false⟩] [2, 3, 4]) (.seq (.reg [⟨some 5, .faddr 0 (.t 2), none, false⟩, ⟨some 6, .load false 1 (.t 5), none, false⟩, ⟨some 7, .len 1 (.t 6), none, false⟩, ⟨some 8, .faddr 0 (.t 3), none, false⟩, ⟨some 9, .load false 1 (.t 8), none, false⟩, ⟨some 10, .len 1 (.t 9), none, false⟩, ⟨some 11, .mmx true [.t 7, .t 10], none, false⟩, ⟨some 12, .mkfn 115 [] [.t 2, .t 3], none, false⟩, ⟨some 13, .call (.c (.func 111 [] [])) [.t 11, .t 12], none, false⟩, ⟨none, .store 1 (.t 4) (.t 13), none, false⟩] [4]) .ret)
def x69 : XF := ⟨2, b69, [.cell 4 true 1]⟩
def h69 : Yl := fun id => match id with
  | 0 => [2, 3, 4]
  | 1 => [4]
  | _ => []
theorem cv69 : cvF Tryz.prog h69 Tryz.f69 = some x69 := by kernel_rfl

/-- winnower/filter.span -/
def b70 : XC := .seq (.reg [⟨some 2, .mov (.c (.int .i64 0)), none, false⟩, ⟨some 3, .mov (.c (.int .i64 0)), none, false⟩] [0]) (.seq (.seq (.reg [⟨some 4, .mov (.t 0), none, false⟩, ⟨some 5, .len 4 (.t 4), none, false⟩, ⟨some 6, .bin .gtr (.t 5) (.c (.int .i64 0)), none, false⟩, ⟨some 7, .mov (.t 6), none, false⟩, ⟨some 8, .mov (.t 0), some (7, true), false⟩, ⟨some 9, .iaddr 4 (.t 8) (.c (.int .i64 0)), some (7, true), false⟩, ⟨some 10, .faddr 0 (.t 9), some (7, true), false⟩, ⟨some 11, .load false 1 (.t 10), some (7, true), false⟩, ⟨some 12, .bin .eql (.t 11) (.c (.int .i64 0)), some (7, true), false⟩, ⟨some 13, .pick (.t 7) (.t 12) (.c (.bool false)), none, false⟩] [13]) (.cond (.t 13) (.seq (.reg [⟨some 2, .mov (.c (.int .i64 0)), none, false⟩, ⟨some 3, .mov (.c (.int .i64 1)), none, false⟩] [2, 3]) .ret) .skip)) (.seq (.reg [⟨some 2, .mov (.c (.int .i64 0)), none, false⟩, ⟨some 3, .mov (.c (.int .i64 0)), none, false⟩] [2, 3]) .ret))
def x70 : XF := ⟨1, b70, [.t 2, .t 3]⟩
def h70 : Yl := fun id => match id with
  | 0 => [0]
  | 1 => [13]
  | 2 => [2, 3]
  | 3 => [2, 3]
  | _ => []
theorem cv70 : cvF Tryz.prog h70 Tryz.f70 = some x70 := by kernel_rfl

/-- winnower/column.Range -/
def b71 : XC := .seq (.reg [⟨some 3, .box 61 (.t 0), none, false⟩, ⟨some 4, .box 3 (.t 1), none, false⟩, ⟨some 5, .box 3 (.t 2), none, false⟩, ⟨some 6, .alloc 38 [.nils], none, false⟩] [3, 4, 5, 6]) (.seq (.reg [⟨some 7, .load true 3 (.t 3), none, false⟩, ⟨some 8, .mkfn 117 [] [.t 4, .t 5], none, false⟩, ⟨some 9, .call (.c (.func 116 [] [])) [.t 7, .t 8], none, false⟩, ⟨none, .store 1 (.t 6) (.t 9), none, false⟩] [6]) .ret)
def x71 : XF := ⟨3, b71, [.cell 6 true 1]⟩
def h71 : Yl := fun id => match id with
  | 0 => [3, 4, 5, 6]
  | 1 => [6]
  | _ => []
theorem cv71 : cvF Tryz.prog h71 Tryz.f71 = some x71 := by kernel_rfl

/-- winnower/value.May -/
def b72 : XC := .seq (.reg [⟨some 1, .box 51 (.t 0), none, false⟩, ⟨some 2, .mov (.c (.bool false)), none, false⟩] [1]) (.seq (.reg [⟨some 4, .faddr 0 (.t 1), none, false⟩, ⟨some 5, .load false 1 (.t 4), none, false⟩, ⟨some 6, .build [.int .i64 0, .int .i64 0, .str ⟨#[]⟩, .bool false] [(0, (1, .t 5))], none, false⟩, ⟨some 3, .alloc 51 [.int .i64 0, .int .i64 0, .str ⟨#[]⟩, .bool false], none, false⟩, ⟨none, .store 4 (.t 3) (.t 6), none, false⟩] [1, 3]) (.seq (.seq (.reg [⟨some 7, .faddr 0 (.t 1), none, false⟩, ⟨some 8, .load false 1 (.t 7), none, false⟩] [1, 3, 8]) (.block 0 (.seq (.block 5 (.seq (.block 4 (.seq (.block 3 (.seq (.block 2 (.seq (.block 1 (.seq (.seq (.seq (.reg [⟨some 10, .bin .eql (.t 8) (.c (.int .i64 1)), none, false⟩, ⟨some 9, .mov (.t 10), none, false⟩] [1, 3, 8, 9]) (.cond (.t 9) (.exit 1) .skip)) (.seq (.seq (.reg [⟨some 12, .bin .eql (.t 8) (.c (.int .i64 2)), none, false⟩, ⟨some 11, .mov (.t 12), none, false⟩] [1, 3, 8, 11]) (.cond (.t 11) (.exit 2) .skip)) (.seq (.seq (.reg [⟨some 14, .bin .eql (.t 8) (.c (.int .i64 3)), none, false⟩, ⟨some 13, .mov (.t 14), none, false⟩] [1, 3, 8, 13]) (.cond (.t 13) (.exit 3) .skip)) (.seq (.reg [⟨some 16, .bin .eql (.t 8) (.c (.int .i64 0)), none, false⟩, ⟨some 15, .mov (.t 16), none, false⟩] [1, 3, 15]) (.cond (.t 15) (.exit 4) .skip))))) (.exit 5))) (.seq (.reg [⟨some 17, .faddr 1 (.t 1), none, false⟩, ⟨some 18, .load false 1 (.t 17), none, false⟩, ⟨some 19, .faddr 1 (.t 3), none, false⟩, ⟨none, .store 1 (.t 19) (.t 18), none, false⟩] [1, 3]) (.exit 0)))) (.seq (.seq (.reg [⟨some 20, .faddr 2 (.t 1), none, false⟩, ⟨some 21, .load false 1 (.t 20), none, false⟩, ⟨some 22, .faddr 2 (.t 3), none, false⟩, ⟨none, .store 1 (.t 22) (.t 21), none, false⟩] [1, 3]) (.seq (.reg [⟨some 23, .faddr 2 (.t 1), none, false⟩, ⟨some 24, .load false 1 (.t 23), none, false⟩, ⟨some 25, .lens (.t 24), none, false⟩, ⟨some 26, .bin .gtr (.t 25) (.c (.int .i64 64)), none, false⟩] [1, 3, 26]) (.cond (.t 26) (.seq (.reg [⟨some 2, .mov (.c (.bool false)), none, false⟩] [2]) .ret) .skip))) (.exit 0)))) (.reg [⟨some 27, .faddr 3 (.t 1), none, false⟩, ⟨some 28, .load false 1 (.t 27), none, false⟩, ⟨some 29, .faddr 3 (.t 3), none, false⟩, ⟨none, .store 1 (.t 29) (.t 28), none, false⟩] [1, 3]))) (.seq (.exit 0) (.exit 0)))) (.seq (.seq (.reg [⟨some 2, .mov (.c (.bool false)), none, false⟩] [2]) .ret) (.exit 0))))) (.seq (.reg [⟨some 30, .load true 4 (.t 1), none, false⟩, ⟨some 31, .load true 4 (.t 3), none, false⟩, ⟨some 32, .eqa [1, 1, 2, 0] false (.t 30) (.t 31), none, false⟩, ⟨some 2, .mov (.t 32), none, false⟩] [2]) .ret)))
def x72 : XF := ⟨1, b72, [.t 2]⟩
def h72 : Yl := fun id => match id with
  | 0 => [1]
  | 1 => [1, 3]
  | 2 => [1, 3, 8]
  | 3 => [1, 3, 8, 9]
  | 4 => [1, 3, 8, 11]
  | 5 => [1, 3, 8, 13]
  | 6 => [1, 3, 15]
  | 7 => [1, 3]
  | 8 => [1, 3]
  | 9 => [1, 3, 26]
  | 10 => [2]
  | 11 => [1, 3]
  | 12 => [2]
  | 13 => [2]
  | _ => []
theorem cv72 : cvF Tryz.prog h72 Tryz.f72 = some x72 := by kernel_rfl

/-- winnower/filter.across -/
def lp73_0 : XC := .seq (.reg [⟨some 12, .bin .lss (.t 11) (.t 10), none, false⟩] [1, 5, 9, 10, 11, 12]) (.seq (.cond (.t 12) .skip (.exit 0)) (.seq (.block 1 (.seq (.reg [⟨some 13, .iaddr 4 (.t 9) (.t 11), none, false⟩, ⟨some 14, .load true 4 (.t 13), none, false⟩, ⟨some 7, .alloc 51 [.int .i64 0, .int .i64 0, .str ⟨#[]⟩, .bool false], none, false⟩, ⟨none, .store 4 (.t 7) (.t 14), none, false⟩] [1, 5, 7, 9, 10, 11]) (.seq (.reg [⟨some 15, .mov (.t 1), none, false⟩, ⟨some 16, .bin .add (.t 15) (.c (.int .i64 1)), none, false⟩, ⟨some 17, .make 51 4 40 (.agg [.int .i64 0, .int .i64 0, .str ⟨#[]⟩, .bool false]) (.t 16) (.t 16), none, false⟩, ⟨some 8, .mov (.t 17), none, false⟩] [1, 5, 7, 8, 9, 10, 11]) (.seq (.reg [⟨some 18, .mov (.t 8), none, false⟩, ⟨some 19, .mov (.t 1), none, false⟩, ⟨some 20, .load true 4 (.t 7), none, false⟩, ⟨some 21, .iaddr 4 (.t 18) (.t 19), none, false⟩, ⟨none, .store 4 (.t 21) (.t 20), none, false⟩] [1, 5, 8, 9, 10, 11]) (.reg [⟨some 22, .mov (.t 5), none, false⟩, ⟨some 23, .mov (.t 8), none, false⟩, ⟨some 24, .mkslice true 45 1 [.t 23], none, false⟩, ⟨some 25, .app 45 1 24 (.t 22) (.t 24), none, false⟩, ⟨some 5, .mov (.t 25), none, false⟩] [1, 5, 9, 10, 11]))))) (.reg [⟨some 26, .bin .add (.t 11) (.c (.int .i64 1)), none, false⟩, ⟨some 11, .mov (.t 26), none, false⟩] [1, 5, 9, 10, 11])))
def b73 : XC := .seq (.reg [⟨some 4, .mov (.c .nils), none, false⟩] [0, 1]) (.seq (.reg [⟨some 5, .mov (.c .nils), none, false⟩] [0, 1, 5]) (.seq (.seq (.reg [⟨some 9, .mov (.t 0), none, false⟩, ⟨some 10, .len 4 (.t 9), none, false⟩, ⟨some 11, .mov (.c (.int .i64 0)), none, false⟩] [1, 5, 9, 10, 11]) (.block 0 (.loop lp73_0))) (.seq (.reg [⟨some 27, .mov (.t 5), none, false⟩, ⟨some 4, .mov (.t 27), none, false⟩] [4]) .ret)))
def x73 : XF := ⟨2, b73, [.t 4]⟩
def h73 : Yl := fun id => match id with
  | 0 => [0, 1]
  | 1 => [0, 1, 5]
  | 2 => [1, 5, 9, 10, 11]
  | 3 => [1, 5, 9, 10, 11, 12]
  | 4 => [1, 5, 7, 9, 10, 11]
  | 5 => [1, 5, 7, 8, 9, 10, 11]
  | 6 => [1, 5, 8, 9, 10, 11]
  | 7 => [1, 5, 9, 10, 11]
  | 8 => [1, 5, 9, 10, 11]
  | 9 => [4]
  | _ => []
theorem cv73 : cvF Tryz.prog h73 Tryz.f73 = some x73 := by kernel_rfl

/-- winnower/dict.Search -/
def b74 : XC := .seq (.reg [⟨some 3, .box 51 (.t 1), none, false⟩, ⟨some 4, .mov (.c (.int .i64 0)), none, false⟩, ⟨some 5, .mov (.c (.bool false)), none, false⟩] [0, 3]) (.seq (.seq (.reg [⟨some 6, .mov (.t 0), none, false⟩, ⟨some 7, .call (.c (.func 109 [] [])) [.t 6], none, false⟩, ⟨some 8, .un .not (.t 7), none, false⟩, ⟨some 9, .mov (.t 8), none, false⟩, ⟨some 10, .load true 4 (.t 3), some (9, false), false⟩, ⟨some 11, .call (.c (.func 72 [] [])) [.t 10], some (9, false), false⟩, ⟨some 12, .un .not (.t 11), some (9, false), false⟩, ⟨some 13, .pick (.t 9) (.c (.bool true)) (.t 12), none, false⟩] [0, 3, 13]) (.cond (.t 13) (.seq (.reg [⟨some 4, .mov (.c (.int .i64 0)), none, false⟩, ⟨some 5, .mov (.c (.bool false)), none, false⟩] [4, 5]) .ret) .skip)) (.seq (.reg [⟨some 14, .mov (.t 0), none, false⟩, ⟨some 15, .load true 4 (.t 3), none, false⟩, ⟨some 16, .call (.c (.func 118 [] [])) [.t 14, .t 15], none, false⟩, ⟨some 17, .ext (.t 16) 0, none, false⟩, ⟨some 18, .ext (.t 16) 1, none, false⟩, ⟨some 4, .mov (.t 17), none, false⟩, ⟨some 5, .mov (.t 18), none, false⟩] [4, 5]) .ret))
def x74 : XF := ⟨2, b74, [.t 4, .t 5]⟩
def h74 : Yl := fun id => match id with
  | 0 => [0, 3]
  | 1 => [0, 3, 13]
  | 2 => [4, 5]
  | 3 => [4, 5]
  | _ => []
theorem cv74 : cvF Tryz.prog h74 Tryz.f74 = some x74 := by kernel_rfl

/-- winnower/filter.one -/
def b75 : XC := .seq (.reg [⟨some 2, .box 54 (.t 0), none, false⟩, ⟨some 3, .box 51 (.t 1), none, false⟩, ⟨some 4, .mov (.c (.bool false)), none, false⟩] [2, 3]) (.seq (.seq (.reg [⟨some 6, .faddr 0 (.t 2), none, false⟩, ⟨some 7, .load false 1 (.t 6), none, false⟩, ⟨some 8, .bin .eql (.t 7) (.c (.int .i64 7)), none, false⟩, ⟨some 9, .mov (.t 8), none, false⟩, ⟨some 10, .faddr 0 (.t 3), some (9, false), false⟩, ⟨some 11, .load false 1 (.t 10), some (9, false), false⟩, ⟨some 12, .bin .eql (.t 11) (.c (.int .i64 0)), some (9, false), false⟩, ⟨some 13, .pick (.t 9) (.c (.bool true)) (.t 12), none, false⟩] [2, 3, 13]) (.cond (.t 13) (.seq (.reg [⟨some 14, .faddr 0 (.t 2), none, false⟩, ⟨some 15, .load false 1 (.t 14), none, false⟩, ⟨some 16, .bin .eql (.t 15) (.c (.int .i64 7)), none, false⟩, ⟨some 17, .mov (.t 16), none, false⟩, ⟨some 18, .faddr 0 (.t 3), some (17, true), false⟩, ⟨some 19, .load false 1 (.t 18), some (17, true), false⟩, ⟨some 20, .bin .eql (.t 19) (.c (.int .i64 0)), some (17, true), false⟩, ⟨some 21, .pick (.t 17) (.t 20) (.c (.bool false)), none, false⟩, ⟨some 4, .mov (.t 21), none, false⟩] [4]) .ret) .skip)) (.seq (.reg [⟨some 22, .load true 4 (.t 3), none, false⟩, ⟨some 23, .faddr 2 (.t 2), none, false⟩, ⟨some 24, .load true 4 (.t 23), none, false⟩, ⟨some 25, .call (.c (.func 62 [] [])) [.t 22, .t 24], none, false⟩, ⟨some 5, .mov (.t 25), none, false⟩] [2, 5]) (.seq (.seq (.reg [⟨some 26, .faddr 0 (.t 2), none, false⟩, ⟨some 27, .load false 1 (.t 26), none, false⟩] [5, 27]) (.block 0 (.seq (.reg [⟨some 29, .bin .eql (.t 27) (.c (.int .i64 1)), none, false⟩, ⟨some 28, .mov (.t 29), none, false⟩] [5, 27, 28]) (.cond (.t 28) (.seq (.reg [⟨some 30, .mov (.t 5), none, false⟩, ⟨some 31, .bin .eql (.t 30) (.c (.int .i64 0)), none, false⟩, ⟨some 4, .mov (.t 31), none, false⟩] [4]) .ret) (.seq (.reg [⟨some 33, .bin .eql (.t 27) (.c (.int .i64 2)), none, false⟩, ⟨some 32, .mov (.t 33), none, false⟩] [5, 27, 32]) (.cond (.t 32) (.seq (.reg [⟨some 34, .mov (.t 5), none, false⟩, ⟨some 35, .bin .neq (.t 34) (.c (.int .i64 0)), none, false⟩, ⟨some 4, .mov (.t 35), none, false⟩] [4]) .ret) (.seq (.reg [⟨some 37, .bin .eql (.t 27) (.c (.int .i64 3)), none, false⟩, ⟨some 36, .mov (.t 37), none, false⟩] [5, 27, 36]) (.cond (.t 36) (.seq (.reg [⟨some 38, .mov (.t 5), none, false⟩, ⟨some 39, .bin .lss (.t 38) (.c (.int .i64 0)), none, false⟩, ⟨some 4, .mov (.t 39), none, false⟩] [4]) .ret) (.seq (.reg [⟨some 41, .bin .eql (.t 27) (.c (.int .i64 4)), none, false⟩, ⟨some 40, .mov (.t 41), none, false⟩] [5, 27, 40]) (.cond (.t 40) (.seq (.reg [⟨some 42, .mov (.t 5), none, false⟩, ⟨some 43, .bin .leq (.t 42) (.c (.int .i64 0)), none, false⟩, ⟨some 4, .mov (.t 43), none, false⟩] [4]) .ret) (.seq (.reg [⟨some 45, .bin .eql (.t 27) (.c (.int .i64 5)), none, false⟩, ⟨some 44, .mov (.t 45), none, false⟩] [5, 27, 44]) (.cond (.t 44) (.seq (.reg [⟨some 46, .mov (.t 5), none, false⟩, ⟨some 47, .bin .gtr (.t 46) (.c (.int .i64 0)), none, false⟩, ⟨some 4, .mov (.t 47), none, false⟩] [4]) .ret) (.seq (.reg [⟨some 49, .bin .eql (.t 27) (.c (.int .i64 6)), none, false⟩, ⟨some 48, .mov (.t 49), none, false⟩] [5, 48]) (.cond (.t 48) (.seq (.reg [⟨some 50, .mov (.t 5), none, false⟩, ⟨some 51, .bin .geq (.t 50) (.c (.int .i64 0)), none, false⟩, ⟨some 4, .mov (.t 51), none, false⟩] [4]) .ret) .skip)))))))))))))) (.seq (.reg [⟨some 4, .mov (.c (.bool false)), none, false⟩] [4]) .ret))))
def x75 : XF := ⟨2, b75, [.t 4]⟩
def h75 : Yl := fun id => match id with
  | 0 => [2, 3]
  | 1 => [2, 3, 13]
  | 2 => [4]
  | 3 => [2, 5]
  | 4 => [5, 27]
  | 5 => [5, 27, 28]
  | 6 => [4]
  | 7 => [5, 27, 32]
  | 8 => [4]
  | 9 => [5, 27, 36]
  | 10 => [4]
  | 11 => [5, 27, 40]
  | 12 => [4]
  | 13 => [5, 27, 44]
  | 14 => [4]
  | 15 => [5, 48]
  | 16 => [4]
  | 17 => [4]
  | _ => []
theorem cv75 : cvF Tryz.prog h75 Tryz.f75 = some x75 := by kernel_rfl

/-- winnower/bitset.Of -/
def lp76_0 : XC := .seq (.reg [⟨some 9, .bin .lss (.t 8) (.t 7), none, false⟩] [2, 3, 6, 7, 8, 9]) (.seq (.cond (.t 9) .skip (.exit 0)) (.seq (.block 1 (.seq (.reg [⟨some 10, .iaddr 1 (.t 6) (.t 8), none, false⟩, ⟨some 11, .load false 1 (.t 10), none, false⟩, ⟨some 5, .mov (.t 11), none, false⟩] [2, 3, 5, 6, 7, 8]) (.seq (.reg [⟨some 12, .mov (.t 5), none, false⟩, ⟨some 13, .call (.c (.func 89 [] [])) [.t 12], none, false⟩] [2, 3, 5, 6, 7, 8, 13]) (.cond (.t 13) (.reg [⟨some 14, .mov (.t 3), none, false⟩, ⟨some 15, .mov (.t 5), none, false⟩, ⟨some 16, .call (.c (.func 119 [] [])) [.t 14, .t 15], none, false⟩, ⟨some 3, .mov (.t 16), none, false⟩] [2, 3, 6, 7, 8]) .skip)))) (.reg [⟨some 17, .bin .add (.t 8) (.c (.int .i64 1)), none, false⟩, ⟨some 8, .mov (.t 17), none, false⟩] [2, 3, 6, 7, 8])))
def b76 : XC := .seq (.reg [⟨some 2, .alloc 38 [.nils], none, false⟩] [0, 2]) (.seq (.reg [⟨some 3, .mov (.c .nils), none, false⟩] [0, 2, 3]) (.seq (.seq (.reg [⟨some 6, .mov (.t 0), none, false⟩, ⟨some 7, .len 1 (.t 6), none, false⟩, ⟨some 8, .mov (.c (.int .i64 0)), none, false⟩] [2, 3, 6, 7, 8]) (.block 0 (.loop lp76_0))) (.seq (.reg [⟨some 18, .mov (.t 3), none, false⟩, ⟨some 19, .build [.nils] [(0, (1, .t 18))], none, false⟩, ⟨none, .store 1 (.t 2) (.t 19), none, false⟩] [2]) .ret)))
def x76 : XF := ⟨1, b76, [.cell 2 true 1]⟩
def h76 : Yl := fun id => match id with
  | 0 => [0, 2]
  | 1 => [0, 2, 3]
  | 2 => [2, 3, 6, 7, 8]
  | 3 => [2, 3, 6, 7, 8, 9]
  | 4 => [2, 3, 5, 6, 7, 8]
  | 5 => [2, 3, 5, 6, 7, 8, 13]
  | 6 => [2, 3, 6, 7, 8]
  | 7 => [2, 3, 6, 7, 8]
  | 8 => [2]
  | _ => []
theorem cv76 : cvF Tryz.prog h76 Tryz.f76 = some x76 := by kernel_rfl

/-- winnower/bits.At -/
def b79 : XC := .seq (.reg [⟨some 6, .mov (.c (.int .i64 0)), none, false⟩] [0, 1, 2]) (.seq (.seq (.reg [⟨some 7, .mov (.t 2), none, false⟩, ⟨some 8, .call (.c (.func 125 [] [])) [.t 7], none, false⟩, ⟨some 9, .un .not (.t 8), none, false⟩, ⟨some 10, .mov (.t 9), none, false⟩, ⟨some 11, .mov (.t 1), some (10, false), false⟩, ⟨some 12, .bin .lss (.t 11) (.c (.int .i64 0)), some (10, false), false⟩, ⟨some 13, .pick (.t 10) (.c (.bool true)) (.t 12), none, false⟩, ⟨some 14, .mov (.t 13), none, false⟩, ⟨some 15, .mov (.t 1), some (14, false), false⟩, ⟨some 16, .bin .gtr (.t 15) (.c (.int .i64 1099511627776)), some (14, false), false⟩, ⟨some 17, .pick (.t 14) (.c (.bool true)) (.t 16), none, false⟩, ⟨some 18, .mov (.t 17), none, false⟩, ⟨some 19, .mov (.t 1), some (18, false), false⟩, ⟨some 20, .bin .add (.t 19) (.c (.int .i64 1)), some (18, false), false⟩, ⟨some 21, .mov (.t 2), some (18, false), false⟩, ⟨some 22, .bin .mul (.t 20) (.t 21), some (18, false), false⟩, ⟨some 23, .mov (.t 0), some (18, false), false⟩, ⟨some 24, .len 1 (.t 23), some (18, false), false⟩, ⟨some 25, .bin .mul (.c (.int .i64 8)) (.t 24), some (18, false), false⟩, ⟨some 26, .bin .gtr (.t 22) (.t 25), some (18, false), false⟩, ⟨some 27, .pick (.t 18) (.c (.bool true)) (.t 26), none, false⟩] [0, 1, 2, 27]) (.cond (.t 27) (.seq (.reg [⟨some 6, .mov (.c (.int .i64 0)), none, false⟩] [6]) .ret) .skip)) (.seq (.reg [⟨some 28, .mov (.t 0), none, false⟩, ⟨some 29, .mov (.t 1), none, false⟩, ⟨some 30, .mov (.t 2), none, false⟩, ⟨some 31, .call (.c (.func 126 [] [])) [.t 28, .t 29, .t 30], none, false⟩, ⟨some 6, .mov (.t 31), none, false⟩] [6]) .ret))
def x79 : XF := ⟨3, b79, [.t 6]⟩
def h79 : Yl := fun id => match id with
  | 0 => [0, 1, 2]
  | 1 => [0, 1, 2, 27]
  | 2 => [6]
  | 3 => [6]
  | _ => []
theorem cv79 : cvF Tryz.prog h79 Tryz.f79 = some x79 := by kernel_rfl

/-- winnower/column.width -/
def b80 : XC := .seq (.reg [⟨some 2, .mov (.c (.int .i64 0)), none, false⟩] [0]) (.seq (.reg [⟨some 3, .mov (.t 0), none, false⟩, ⟨some 4, .bin .sub (.t 3) (.c (.int .i64 1)), none, false⟩, ⟨some 5, .call (.c (.func 127 [] [])) [.t 4], none, false⟩, ⟨some 2, .mov (.t 5), none, false⟩] [2]) .ret)
def x80 : XF := ⟨1, b80, [.t 2]⟩
def h80 : Yl := fun id => match id with
  | 0 => [0]
  | 1 => [2]
  | _ => []
theorem cv80 : cvF Tryz.prog h80 Tryz.f80 = some x80 := by kernel_rfl

/-- winnower/bitset.may -/
def b89 : XC := .seq (.reg [⟨some 2, .mov (.c (.bool false)), none, false⟩] [0]) (.seq (.reg [⟨some 3, .mov (.t 0), none, false⟩, ⟨some 4, .bin .geq (.t 3) (.c (.int .i64 0)), none, false⟩, ⟨some 5, .mov (.t 4), none, false⟩, ⟨some 6, .mov (.t 0), some (5, true), false⟩, ⟨some 7, .bin .lss (.t 6) (.c (.int .i64 65536)), some (5, true), false⟩, ⟨some 8, .pick (.t 5) (.t 7) (.c (.bool false)), none, false⟩, ⟨some 2, .mov (.t 8), none, false⟩] [2]) .ret)
def x89 : XF := ⟨1, b89, [.t 2]⟩
def h89 : Yl := fun id => match id with
  | 0 => [0]
  | 1 => [2]
  | _ => []
theorem cv89 : cvF Tryz.prog h89 Tryz.f89 = some x89 := by kernel_rfl

/-- winnower/schema.name -/
def b90 : XC := .seq (.reg [⟨some 2, .mov (.c (.bool false)), none, false⟩] [0]) (.seq (.reg [⟨some 3, .mov (.t 0), none, false⟩, ⟨some 4, .lens (.t 3), none, false⟩, ⟨some 5, .bin .geq (.t 4) (.c (.int .i64 1)), none, false⟩, ⟨some 6, .mov (.t 5), none, false⟩, ⟨some 7, .mov (.t 0), some (6, true), false⟩, ⟨some 8, .lens (.t 7), some (6, true), false⟩, ⟨some 9, .bin .leq (.t 8) (.c (.int .i64 16)), some (6, true), false⟩, ⟨some 10, .pick (.t 6) (.t 9) (.c (.bool false)), none, false⟩, ⟨some 11, .mov (.t 10), none, false⟩, ⟨some 12, .mov (.t 0), some (11, true), false⟩, ⟨some 13, .call (.c (.func 132 [] [])) [.t 12, .c (.str ⟨#[97, 98, 99, 100, 101, 102, 103, 104, 105, 106, 107, 108, 109, 110, 111, 112, 113, 114, 115, 116, 117, 118, 119, 120, 121, 122, 48, 49, 50, 51, 52, 53, 54, 55, 56, 57, 95]⟩)], some (11, true), false⟩, ⟨some 14, .bin .eql (.t 13) (.c (.str ⟨#[]⟩)), some (11, true), false⟩, ⟨some 15, .pick (.t 11) (.t 14) (.c (.bool false)), none, false⟩, ⟨some 2, .mov (.t 15), none, false⟩] [2]) .ret)
def x90 : XF := ⟨1, b90, [.t 2]⟩
def h90 : Yl := fun id => match id with
  | 0 => [0]
  | 1 => [2]
  | _ => []
theorem cv90 : cvF Tryz.prog h90 Tryz.f90 = some x90 := by kernel_rfl

/-- winnower/schema.Find -/
def b91 : XC := .seq (.reg [⟨some 2, .box 25 (.t 0), none, false⟩, ⟨some 3, .box 9 (.t 1), none, false⟩, ⟨some 4, .mov (.c (.int .i64 0)), none, false⟩] [2, 3]) (.seq (.reg [⟨some 5, .faddr 0 (.t 2), none, false⟩, ⟨some 6, .load false 1 (.t 5), none, false⟩, ⟨some 7, .mkfn 134 [] [.t 3], none, false⟩, ⟨some 8, .call (.c (.func 133 [] [])) [.t 6, .t 7], none, false⟩, ⟨some 4, .mov (.t 8), none, false⟩] [4]) .ret)
def x91 : XF := ⟨2, b91, [.t 4]⟩
def h91 : Yl := fun id => match id with
  | 0 => [2, 3]
  | 1 => [4]
  | _ => []
theorem cv91 : cvF Tryz.prog h91 Tryz.f91 = some x91 := by kernel_rfl

/-- winnower/schema.keyed -/
def b92 : XC := .seq (.reg [⟨some 1, .box 25 (.t 0), none, false⟩, ⟨some 2, .mov (.c (.bool false)), none, false⟩] [1]) (.seq (.seq (.reg [⟨some 3, .faddr 1 (.t 1), none, false⟩, ⟨some 4, .load false 1 (.t 3), none, false⟩, ⟨some 5, .bin .eql (.t 4) (.c (.int .i64 (-1))), none, false⟩] [1, 5]) (.cond (.t 5) (.seq (.reg [⟨some 6, .faddr 2 (.t 1), none, false⟩, ⟨some 7, .load false 1 (.t 6), none, false⟩, ⟨some 8, .bin .eql (.t 7) (.c (.int .i64 (-1))), none, false⟩, ⟨some 9, .mov (.t 8), none, false⟩, ⟨some 10, .faddr 3 (.t 1), some (9, true), false⟩, ⟨some 11, .load false 1 (.t 10), some (9, true), false⟩, ⟨some 12, .bin .eql (.t 11) (.c (.int .i64 (-1))), some (9, true), false⟩, ⟨some 13, .pick (.t 9) (.t 12) (.c (.bool false)), none, false⟩, ⟨some 2, .mov (.t 13), none, false⟩] [2]) .ret) .skip)) (.seq (.reg [⟨some 14, .load true 5 (.t 1), none, false⟩, ⟨some 15, .faddr 1 (.t 1), none, false⟩, ⟨some 16, .load false 1 (.t 15), none, false⟩, ⟨some 17, .call (.c (.func 135 [] [])) [.t 14, .t 16, .c (.int .i64 0)], none, false⟩, ⟨some 18, .mov (.t 17), none, false⟩, ⟨some 19, .load true 5 (.t 1), some (18, true), false⟩, ⟨some 20, .faddr 2 (.t 1), some (18, true), false⟩, ⟨some 21, .load false 1 (.t 20), some (18, true), false⟩, ⟨some 22, .call (.c (.func 135 [] [])) [.t 19, .t 21, .c (.int .i64 1)], some (18, true), false⟩, ⟨some 23, .pick (.t 18) (.t 22) (.c (.bool false)), none, false⟩, ⟨some 24, .mov (.t 23), none, false⟩, ⟨some 25, .faddr 3 (.t 1), some (24, true), false⟩, ⟨some 26, .load false 1 (.t 25), some (24, true), false⟩, ⟨some 27, .bin .eql (.t 26) (.c (.int .i64 (-1))), some (24, true), false⟩, ⟨some 28, .mov (.t 27), some (24, true), false⟩, ⟨some 29, .load true 5 (.t 1), some (28, false), false⟩, ⟨some 30, .faddr 3 (.t 1), some (28, false), false⟩, ⟨some 31, .load false 1 (.t 30), some (28, false), false⟩, ⟨some 32, .call (.c (.func 135 [] [])) [.t 29, .t 31, .c (.int .i64 3)], some (28, false), false⟩, ⟨some 33, .pick (.t 28) (.c (.bool true)) (.t 32), some (24, true), false⟩, ⟨some 34, .pick (.t 24) (.t 33) (.c (.bool false)), none, false⟩, ⟨some 2, .mov (.t 34), none, false⟩] [2]) .ret))
def x92 : XF := ⟨1, b92, [.t 2]⟩
def h92 : Yl := fun id => match id with
  | 0 => [1]
  | 1 => [1, 5]
  | 2 => [2]
  | 3 => [2]
  | _ => []
theorem cv92 : cvF Tryz.prog h92 Tryz.f92 = some x92 := by kernel_rfl

/-- slices.IndexFunc[[][]winnower/api.Value,[]winnower/api.Value] -/
def lp93_0 : XC := .seq (.reg [⟨some 9, .bin .lss (.t 8) (.t 7), none, false⟩] [0, 1, 7, 8, 9]) (.seq (.cond (.t 9) .skip (.exit 0)) (.seq (.block 1 (.seq (.reg [⟨some 10, .mov (.t 8), none, false⟩, ⟨some 5, .mov (.t 10), none, false⟩] [0, 1, 5, 7, 8]) (.seq (.reg [⟨some 11, .mov (.t 1), none, false⟩, ⟨some 12, .mov (.t 0), none, false⟩, ⟨some 13, .mov (.t 5), none, false⟩, ⟨some 14, .iaddr 1 (.t 12) (.t 13), none, false⟩, ⟨some 15, .load false 1 (.t 14), none, false⟩, ⟨some 16, .call (.t 11) [.t 15], none, false⟩] [0, 1, 5, 7, 8, 16]) (.cond (.t 16) (.seq (.reg [⟨some 17, .mov (.t 5), none, false⟩, ⟨some 4, .mov (.t 17), none, false⟩] [4]) .ret) .skip)))) (.reg [⟨some 18, .bin .add (.t 8) (.c (.int .i64 1)), none, false⟩, ⟨some 8, .mov (.t 18), none, false⟩] [0, 1, 7, 8])))
def b93 : XC := .seq (.reg [⟨some 4, .mov (.c (.int .i64 0)), none, false⟩] [0, 1]) (.seq (.seq (.reg [⟨some 6, .mov (.t 0), none, false⟩, ⟨some 7, .len 1 (.t 6), none, false⟩, ⟨some 8, .mov (.c (.int .i64 0)), none, false⟩] [0, 1, 7, 8]) (.block 0 (.loop lp93_0))) (.seq (.reg [⟨some 4, .mov (.c (.int .i64 (-1))), none, false⟩] [4]) .ret))
def x93 : XF := ⟨2, b93, [.t 4]⟩
def h93 : Yl := fun id => match id with
  | 0 => [0, 1]
  | 1 => [0, 1, 7, 8]
  | 2 => [0, 1, 7, 8, 9]
  | 3 => [0, 1, 5, 7, 8]
  | 4 => [0, 1, 5, 7, 8, 16]
  | 5 => [4]
  | 6 => [0, 1, 7, 8]
  | 7 => [4]
  | _ => []
theorem cv93 : cvF Tryz.prog h93 Tryz.f93 = some x93 := by kernel_rfl

/-- winnower/schema.fits -/
def b94 : XC := .seq (.reg [⟨some 2, .box 63 (.t 0), none, false⟩, ⟨some 3, .box 51 (.t 1), none, false⟩, ⟨some 4, .mov (.c (.bool false)), none, false⟩] [2, 3]) (.seq (.reg [⟨some 5, .load true 4 (.t 3), none, false⟩, ⟨some 6, .call (.c (.func 72 [] [])) [.t 5], none, false⟩, ⟨some 7, .mov (.t 6), none, false⟩, ⟨some 8, .faddr 0 (.t 3), some (7, true), false⟩, ⟨some 9, .load false 1 (.t 8), some (7, true), false⟩, ⟨some 10, .faddr 1 (.t 2), some (7, true), false⟩, ⟨some 11, .load false 1 (.t 10), some (7, true), false⟩, ⟨some 12, .bin .eql (.t 9) (.t 11), some (7, true), false⟩, ⟨some 13, .mov (.t 12), some (7, true), false⟩, ⟨some 14, .faddr 0 (.t 3), some (13, false), false⟩, ⟨some 15, .load false 1 (.t 14), some (13, false), false⟩, ⟨some 16, .bin .eql (.t 15) (.c (.int .i64 0)), some (13, false), false⟩, ⟨some 17, .mov (.t 16), some (13, false), false⟩, ⟨some 18, .faddr 2 (.t 2), some (17, true), false⟩, ⟨some 19, .load false 1 (.t 18), some (17, true), false⟩, ⟨some 20, .pick (.t 17) (.t 19) (.c (.bool false)), some (13, false), false⟩, ⟨some 21, .pick (.t 13) (.c (.bool true)) (.t 20), some (7, true), false⟩, ⟨some 22, .pick (.t 7) (.t 21) (.c (.bool false)), none, false⟩, ⟨some 4, .mov (.t 22), none, false⟩] [4]) .ret)
def x94 : XF := ⟨2, b94, [.t 4]⟩
def h94 : Yl := fun id => match id with
  | 0 => [2, 3]
  | 1 => [4]
  | _ => []
theorem cv94 : cvF Tryz.prog h94 Tryz.f94 = some x94 := by kernel_rfl

/-- math/bits.Len64 -/
def b105 : XC := .seq (.reg [⟨some 2, .mov (.c (.int .i64 0)), none, false⟩] [0, 2]) (.seq (.seq (.reg [⟨some 3, .mov (.t 0), none, false⟩, ⟨some 4, .bin .geq (.t 3) (.c (.int .u64 4294967296)), none, false⟩] [0, 2, 4]) (.cond (.t 4) (.seq (.reg [⟨some 5, .mov (.t 0), none, false⟩, ⟨some 6, .bin .shr (.t 5) (.c (.int .u64 32)), none, false⟩, ⟨some 0, .mov (.t 6), none, false⟩] [0]) (.reg [⟨some 2, .mov (.c (.int .i64 32)), none, false⟩] [0, 2])) .skip)) (.seq (.seq (.reg [⟨some 7, .mov (.t 0), none, false⟩, ⟨some 8, .bin .geq (.t 7) (.c (.int .u64 65536)), none, false⟩] [0, 2, 8]) (.cond (.t 8) (.seq (.reg [⟨some 9, .mov (.t 0), none, false⟩, ⟨some 10, .bin .shr (.t 9) (.c (.int .u64 16)), none, false⟩, ⟨some 0, .mov (.t 10), none, false⟩] [0, 2]) (.reg [⟨some 11, .mov (.t 2), none, false⟩, ⟨some 12, .bin .add (.t 11) (.c (.int .i64 16)), none, false⟩, ⟨some 2, .mov (.t 12), none, false⟩] [0, 2])) .skip)) (.seq (.seq (.reg [⟨some 13, .mov (.t 0), none, false⟩, ⟨some 14, .bin .geq (.t 13) (.c (.int .u64 256)), none, false⟩] [0, 2, 14]) (.cond (.t 14) (.seq (.reg [⟨some 15, .mov (.t 0), none, false⟩, ⟨some 16, .bin .shr (.t 15) (.c (.int .u64 8)), none, false⟩, ⟨some 0, .mov (.t 16), none, false⟩] [0, 2]) (.reg [⟨some 17, .mov (.t 2), none, false⟩, ⟨some 18, .bin .add (.t 17) (.c (.int .i64 8)), none, false⟩, ⟨some 2, .mov (.t 18), none, false⟩] [0, 2])) .skip)) (.seq (.reg [⟨some 19, .mov (.t 2), none, false⟩, ⟨some 20, .mov (.t 0), none, false⟩, ⟨some 21, .toint .u8 (.t 20), none, false⟩, ⟨some 22, .idxs (.c (.str ⟨#[0, 1, 2, 2, 3, 3, 3, 3, 4, 4, 4, 4, 4, 4, 4, 4, 5, 5, 5, 5, 5, 5, 5, 5, 5, 5, 5, 5, 5, 5, 5, 5, 6, 6, 6, 6, 6, 6, 6, 6, 6, 6, 6, 6, 6, 6, 6, 6, 6, 6, 6, 6, 6, 6, 6, 6, 6, 6, 6, 6, 6, 6, 6, 6, 7, 7, 7, 7, 7, 7, 7, 7, 7, 7, 7, 7, 7, 7, 7, 7, 7, 7, 7, 7, 7, 7, 7, 7, 7, 7, 7, 7, 7, 7, 7, 7, 7, 7, 7, 7, 7, 7, 7, 7, 7, 7, 7, 7, 7, 7, 7, 7, 7, 7, 7, 7, 7, 7, 7, 7, 7, 7, 7, 7, 7, 7, 7, 7, 8, 8, 8, 8, 8, 8, 8, 8, 8, 8, 8, 8, 8, 8, 8, 8, 8, 8, 8, 8, 8, 8, 8, 8, 8, 8, 8, 8, 8, 8, 8, 8, 8, 8, 8, 8, 8, 8, 8, 8, 8, 8, 8, 8, 8, 8, 8, 8, 8, 8, 8, 8, 8, 8, 8, 8, 8, 8, 8, 8, 8, 8, 8, 8, 8, 8, 8, 8, 8, 8, 8, 8, 8, 8, 8, 8, 8, 8, 8, 8, 8, 8, 8, 8, 8, 8, 8, 8, 8, 8, 8, 8, 8, 8, 8, 8, 8, 8, 8, 8, 8, 8, 8, 8, 8, 8, 8, 8, 8, 8, 8, 8, 8, 8, 8, 8, 8, 8, 8, 8, 8, 8, 8, 8, 8, 8, 8, 8]⟩)) (.t 21), none, false⟩, ⟨some 23, .toint .i64 (.t 22), none, false⟩, ⟨some 24, .bin .add (.t 19) (.t 23), none, false⟩, ⟨some 2, .mov (.t 24), none, false⟩] [2]) .ret))))
def x105 : XF := ⟨1, b105, [.t 2]⟩
def h105 : Yl := fun id => match id with
  | 0 => [0, 2]
  | 1 => [0, 2, 4]
  | 2 => [0]
  | 3 => [0, 2]
  | 4 => [0, 2, 8]
  | 5 => [0, 2]
  | 6 => [0, 2]
  | 7 => [0, 2, 14]
  | 8 => [0, 2]
  | 9 => [0, 2]
  | 10 => [2]
  | _ => []
theorem cv105 : cvF Tryz.prog h105 Tryz.f105 = some x105 := by kernel_rfl

/-- cmp.Compare[int] -/
def b106 : XC := .seq (.reg [⟨some 4, .mov (.c (.int .i64 0)), none, false⟩] [0, 1]) (.seq (.reg [⟨some 7, .mov (.t 0), none, false⟩, ⟨some 8, .call (.c (.func 141 [] [])) [.t 7], none, false⟩, ⟨some 5, .mov (.t 8), none, false⟩] [0, 1, 5]) (.seq (.reg [⟨some 9, .mov (.t 1), none, false⟩, ⟨some 10, .call (.c (.func 141 [] [])) [.t 9], none, false⟩, ⟨some 6, .mov (.t 10), none, false⟩] [0, 1, 5, 6]) (.seq (.seq (.reg [⟨some 11, .mov (.t 5), none, false⟩] [0, 1, 6, 11]) (.cond (.t 11) (.seq (.seq (.reg [⟨some 12, .mov (.t 6), none, false⟩] [12]) (.cond (.t 12) (.seq (.reg [⟨some 4, .mov (.c (.int .i64 0)), none, false⟩] [4]) .ret) .skip)) (.seq (.reg [⟨some 4, .mov (.c (.int .i64 (-1))), none, false⟩] [4]) .ret)) .skip)) (.seq (.seq (.reg [⟨some 13, .mov (.t 6), none, false⟩] [0, 1, 13]) (.cond (.t 13) (.seq (.reg [⟨some 4, .mov (.c (.int .i64 1)), none, false⟩] [4]) .ret) .skip)) (.seq (.seq (.reg [⟨some 14, .mov (.t 0), none, false⟩, ⟨some 15, .mov (.t 1), none, false⟩, ⟨some 16, .bin .lss (.t 14) (.t 15), none, false⟩] [0, 1, 16]) (.cond (.t 16) (.seq (.reg [⟨some 4, .mov (.c (.int .i64 (-1))), none, false⟩] [4]) .ret) .skip)) (.seq (.seq (.reg [⟨some 17, .mov (.t 0), none, false⟩, ⟨some 18, .mov (.t 1), none, false⟩, ⟨some 19, .bin .gtr (.t 17) (.t 18), none, false⟩] [19]) (.cond (.t 19) (.seq (.reg [⟨some 4, .mov (.c (.int .i64 1)), none, false⟩] [4]) .ret) .skip)) (.seq (.reg [⟨some 4, .mov (.c (.int .i64 0)), none, false⟩] [4]) .ret)))))))
def x106 : XF := ⟨2, b106, [.t 4]⟩
def h106 : Yl := fun id => match id with
  | 0 => [0, 1]
  | 1 => [0, 1, 5]
  | 2 => [0, 1, 5, 6]
  | 3 => [0, 1, 6, 11]
  | 4 => [12]
  | 5 => [4]
  | 6 => [4]
  | 7 => [0, 1, 13]
  | 8 => [4]
  | 9 => [0, 1, 16]
  | 10 => [4]
  | 11 => [19]
  | 12 => [4]
  | 13 => [4]
  | _ => []
theorem cv106 : cvF Tryz.prog h106 Tryz.f106 = some x106 := by kernel_rfl

/-- cmp.Compare[string] -/
def b107 : XC := .seq (.reg [⟨some 4, .mov (.c (.int .i64 0)), none, false⟩] [0, 1]) (.seq (.reg [⟨some 7, .mov (.t 0), none, false⟩, ⟨some 8, .call (.c (.func 142 [] [])) [.t 7], none, false⟩, ⟨some 5, .mov (.t 8), none, false⟩] [0, 1, 5]) (.seq (.reg [⟨some 9, .mov (.t 1), none, false⟩, ⟨some 10, .call (.c (.func 142 [] [])) [.t 9], none, false⟩, ⟨some 6, .mov (.t 10), none, false⟩] [0, 1, 5, 6]) (.seq (.seq (.reg [⟨some 11, .mov (.t 5), none, false⟩] [0, 1, 6, 11]) (.cond (.t 11) (.seq (.seq (.reg [⟨some 12, .mov (.t 6), none, false⟩] [12]) (.cond (.t 12) (.seq (.reg [⟨some 4, .mov (.c (.int .i64 0)), none, false⟩] [4]) .ret) .skip)) (.seq (.reg [⟨some 4, .mov (.c (.int .i64 (-1))), none, false⟩] [4]) .ret)) .skip)) (.seq (.seq (.reg [⟨some 13, .mov (.t 6), none, false⟩] [0, 1, 13]) (.cond (.t 13) (.seq (.reg [⟨some 4, .mov (.c (.int .i64 1)), none, false⟩] [4]) .ret) .skip)) (.seq (.seq (.reg [⟨some 14, .mov (.t 0), none, false⟩, ⟨some 15, .mov (.t 1), none, false⟩, ⟨some 16, .bin .lss (.t 14) (.t 15), none, false⟩] [0, 1, 16]) (.cond (.t 16) (.seq (.reg [⟨some 4, .mov (.c (.int .i64 (-1))), none, false⟩] [4]) .ret) .skip)) (.seq (.seq (.reg [⟨some 17, .mov (.t 0), none, false⟩, ⟨some 18, .mov (.t 1), none, false⟩, ⟨some 19, .bin .gtr (.t 17) (.t 18), none, false⟩] [19]) (.cond (.t 19) (.seq (.reg [⟨some 4, .mov (.c (.int .i64 1)), none, false⟩] [4]) .ret) .skip)) (.seq (.reg [⟨some 4, .mov (.c (.int .i64 0)), none, false⟩] [4]) .ret)))))))
def x107 : XF := ⟨2, b107, [.t 4]⟩
def h107 : Yl := fun id => match id with
  | 0 => [0, 1]
  | 1 => [0, 1, 5]
  | 2 => [0, 1, 5, 6]
  | 3 => [0, 1, 6, 11]
  | 4 => [12]
  | 5 => [4]
  | 6 => [4]
  | 7 => [0, 1, 13]
  | 8 => [4]
  | 9 => [0, 1, 16]
  | 10 => [4]
  | 11 => [19]
  | 12 => [4]
  | 13 => [4]
  | _ => []
theorem cv107 : cvF Tryz.prog h107 Tryz.f107 = some x107 := by kernel_rfl

/-- winnower/value.truth -/
def b108 : XC := .seq (.reg [⟨some 2, .mov (.c (.int .i64 0)), none, false⟩] [0]) (.seq (.seq (.reg [⟨some 3, .mov (.t 0), none, false⟩] [3]) (.cond (.t 3) (.seq (.reg [⟨some 2, .mov (.c (.int .i64 1)), none, false⟩] [2]) .ret) .skip)) (.seq (.reg [⟨some 2, .mov (.c (.int .i64 0)), none, false⟩] [2]) .ret))
def x108 : XF := ⟨1, b108, [.t 2]⟩
def h108 : Yl := fun id => match id with
  | 0 => [0]
  | 1 => [3]
  | 2 => [2]
  | 3 => [2]
  | _ => []
theorem cv108 : cvF Tryz.prog h108 Tryz.f108 = some x108 := by kernel_rfl

/-- winnower/dict.Rises -/
def lp109_0 : XC := .seq (.reg [⟨some 8, .bin .lss (.t 7) (.t 6), none, false⟩] [0, 5, 6, 7, 8]) (.seq (.cond (.t 8) .skip (.exit 0)) (.seq (.block 1 (.seq (.reg [⟨some 9, .mov (.t 7), none, false⟩, ⟨some 10, .iaddr 4 (.t 5) (.t 7), none, false⟩, ⟨some 11, .load true 4 (.t 10), none, false⟩, ⟨some 4, .alloc 51 [.int .i64 0, .int .i64 0, .str ⟨#[]⟩, .bool false], none, false⟩, ⟨some 3, .mov (.t 9), none, false⟩, ⟨none, .store 4 (.t 4) (.t 11), none, false⟩] [0, 3, 4, 5, 6, 7]) (.seq (.reg [⟨some 12, .load true 4 (.t 4), none, false⟩, ⟨some 13, .call (.c (.func 72 [] [])) [.t 12], none, false⟩, ⟨some 14, .un .not (.t 13), none, false⟩, ⟨some 15, .mov (.t 14), none, false⟩, ⟨some 16, .mov (.t 3), some (15, false), false⟩, ⟨some 17, .bin .gtr (.t 16) (.c (.int .i64 0)), some (15, false), false⟩, ⟨some 18, .mov (.t 17), some (15, false), false⟩, ⟨some 19, .mov (.t 0), some (18, true), false⟩, ⟨some 20, .mov (.t 3), some (18, true), false⟩, ⟨some 21, .bin .sub (.t 20) (.c (.int .i64 1)), some (18, true), false⟩, ⟨some 22, .iaddr 4 (.t 19) (.t 21), some (18, true), false⟩, ⟨some 23, .load true 4 (.t 22), some (18, true), false⟩, ⟨some 24, .load true 4 (.t 4), some (18, true), false⟩, ⟨some 25, .call (.c (.func 62 [] [])) [.t 23, .t 24], some (18, true), false⟩, ⟨some 26, .bin .geq (.t 25) (.c (.int .i64 0)), some (18, true), false⟩, ⟨some 27, .pick (.t 18) (.t 26) (.c (.bool false)), some (15, false), false⟩, ⟨some 28, .pick (.t 15) (.c (.bool true)) (.t 27), none, false⟩] [0, 5, 6, 7, 28]) (.cond (.t 28) (.seq (.reg [⟨some 2, .mov (.c (.bool false)), none, false⟩] [2]) .ret) .skip)))) (.reg [⟨some 29, .bin .add (.t 7) (.c (.int .i64 1)), none, false⟩, ⟨some 7, .mov (.t 29), none, false⟩] [0, 5, 6, 7])))
def b109 : XC := .seq (.reg [⟨some 2, .mov (.c (.bool false)), none, false⟩] [0]) (.seq (.seq (.reg [⟨some 5, .mov (.t 0), none, false⟩, ⟨some 6, .len 4 (.t 5), none, false⟩, ⟨some 7, .mov (.c (.int .i64 0)), none, false⟩] [0, 5, 6, 7]) (.block 0 (.loop lp109_0))) (.seq (.reg [⟨some 2, .mov (.c (.bool true)), none, false⟩] [2]) .ret))
def x109 : XF := ⟨1, b109, [.t 2]⟩
def h109 : Yl := fun id => match id with
  | 0 => [0]
  | 1 => [0, 5, 6, 7]
  | 2 => [0, 5, 6, 7, 8]
  | 3 => [0, 3, 4, 5, 6, 7]
  | 4 => [0, 5, 6, 7, 28]
  | 5 => [2]
  | 6 => [0, 5, 6, 7]
  | 7 => [2]
  | _ => []
theorem cv109 : cvF Tryz.prog h109 Tryz.f109 = some x109 := by kernel_rfl

/-- winnower/bits.Unpack -/
def lp110_0 : XC := .seq (.reg [⟨some 57, .bin .lss (.t 56) (.t 55), none, false⟩] [0, 2, 8, 55, 56, 57]) (.seq (.cond (.t 57) .skip (.exit 1)) (.seq (.block 2 (.seq (.reg [⟨some 58, .mov (.t 56), none, false⟩, ⟨some 9, .mov (.t 58), none, false⟩] [0, 2, 8, 9, 55, 56]) (.reg [⟨some 59, .mov (.t 8), none, false⟩, ⟨some 60, .mov (.t 9), none, false⟩, ⟨some 61, .mov (.t 0), none, false⟩, ⟨some 62, .mov (.t 9), none, false⟩, ⟨some 63, .mov (.t 2), none, false⟩, ⟨some 64, .call (.c (.func 126 [] [])) [.t 61, .t 62, .t 63], none, false⟩, ⟨some 65, .iaddr 1 (.t 59) (.t 60), none, false⟩, ⟨none, .store 1 (.t 65) (.t 64), none, false⟩] [0, 2, 8, 55, 56]))) (.reg [⟨some 66, .bin .add (.t 56) (.c (.int .i64 1)), none, false⟩, ⟨some 56, .mov (.t 66), none, false⟩] [0, 2, 8, 55, 56])))
def b110 : XC := .seq (.reg [⟨some 6, .mov (.c .nils), none, false⟩, ⟨some 7, .mov (.c (.int .i64 0)), none, false⟩] [0, 1, 2]) (.seq (.block 0 (.seq (.seq (.reg [⟨some 11, .mov (.t 2), none, false⟩, ⟨some 12, .call (.c (.func 125 [] [])) [.t 11], none, false⟩, ⟨some 13, .un .not (.t 12), none, false⟩, ⟨some 10, .mov (.t 13), none, false⟩] [0, 1, 2, 10]) (.cond (.t 10) .skip (.reg [⟨some 14, .mov (.t 1), none, false⟩, ⟨some 15, .bin .lss (.t 14) (.c (.int .i64 0)), none, false⟩, ⟨some 10, .mov (.t 15), none, false⟩] [0, 1, 2, 10]))) (.cond (.t 10) (.seq (.reg [⟨some 6, .mov (.c .nils), none, false⟩, ⟨some 7, .mov (.c (.int .i64 1)), none, false⟩] [6, 7]) .ret) (.seq (.reg [⟨some 17, .mov (.t 1), none, false⟩, ⟨some 18, .bin .gtr (.t 17) (.c (.int .i64 4096)), none, false⟩, ⟨some 16, .mov (.t 18), none, false⟩] [0, 1, 2, 16]) (.cond (.t 16) (.seq (.reg [⟨some 6, .mov (.c .nils), none, false⟩, ⟨some 7, .mov (.c (.int .i64 2)), none, false⟩] [6, 7]) .ret) (.seq (.reg [⟨some 20, .mov (.t 0), none, false⟩, ⟨some 21, .len 1 (.t 20), none, false⟩, ⟨some 22, .mov (.t 1), none, false⟩, ⟨some 23, .mov (.t 2), none, false⟩, ⟨some 24, .call (.c (.func 143 [] [])) [.t 22, .t 23], none, false⟩, ⟨some 25, .bin .lss (.t 21) (.t 24), none, false⟩, ⟨some 19, .mov (.t 25), none, false⟩] [0, 1, 2, 19]) (.cond (.t 19) (.seq (.reg [⟨some 6, .mov (.c .nils), none, false⟩, ⟨some 7, .mov (.c (.int .i64 6)), none, false⟩] [6, 7]) .ret) (.seq (.seq (.reg [⟨some 27, .mov (.t 0), none, false⟩, ⟨some 28, .len 1 (.t 27), none, false⟩, ⟨some 29, .mov (.t 1), none, false⟩, ⟨some 30, .mov (.t 2), none, false⟩, ⟨some 31, .call (.c (.func 143 [] [])) [.t 29, .t 30], none, false⟩, ⟨some 32, .bin .gtr (.t 28) (.t 31), none, false⟩, ⟨some 26, .mov (.t 32), none, false⟩] [0, 1, 2, 26]) (.cond (.t 26) .skip (.reg [⟨some 33, .mov (.t 1), none, false⟩, ⟨some 34, .mov (.t 2), none, false⟩, ⟨some 35, .bin .mul (.t 33) (.t 34), none, false⟩, ⟨some 36, .bin .rem (.t 35) (.c (.int .i64 8)), none, false⟩, ⟨some 37, .bin .gtr (.t 36) (.c (.int .i64 0)), none, false⟩, ⟨some 38, .mov (.t 37), none, false⟩, ⟨some 39, .mov (.t 0), some (38, true), false⟩, ⟨some 40, .mov (.t 0), some (38, true), false⟩, ⟨some 41, .len 1 (.t 40), some (38, true), false⟩, ⟨some 42, .bin .sub (.t 41) (.c (.int .i64 1)), some (38, true), false⟩, ⟨some 43, .iaddr 1 (.t 39) (.t 42), some (38, true), false⟩, ⟨some 44, .load false 1 (.t 43), some (38, true), false⟩, ⟨some 45, .mov (.t 1), some (38, true), false⟩, ⟨some 46, .mov (.t 2), some (38, true), false⟩, ⟨some 47, .bin .mul (.t 45) (.t 46), some (38, true), false⟩, ⟨some 48, .bin .rem (.t 47) (.c (.int .i64 8)), some (38, true), false⟩, ⟨some 49, .bin .shr (.t 44) (.t 48), some (38, true), false⟩, ⟨some 50, .bin .gtr (.t 49) (.c (.int .u8 0)), some (38, true), false⟩, ⟨some 51, .pick (.t 38) (.t 50) (.c (.bool false)), none, false⟩, ⟨some 26, .mov (.t 51), none, false⟩] [0, 1, 2, 26]))) (.cond (.t 26) (.seq (.reg [⟨some 6, .mov (.c .nils), none, false⟩, ⟨some 7, .mov (.c (.int .i64 7)), none, false⟩] [6, 7]) .ret) .skip))))))))) (.seq (.reg [⟨some 52, .mov (.t 1), none, false⟩, ⟨some 53, .make 3 1 8 (.int .i64 0) (.t 52) (.t 52), none, false⟩, ⟨some 8, .mov (.t 53), none, false⟩] [0, 2, 8]) (.seq (.seq (.reg [⟨some 54, .mov (.t 8), none, false⟩, ⟨some 55, .len 1 (.t 54), none, false⟩, ⟨some 56, .mov (.c (.int .i64 0)), none, false⟩] [0, 2, 8, 55, 56]) (.block 1 (.loop lp110_0))) (.seq (.reg [⟨some 67, .mov (.t 8), none, false⟩, ⟨some 6, .mov (.t 67), none, false⟩, ⟨some 7, .mov (.c (.int .i64 0)), none, false⟩] [6, 7]) .ret))))
def x110 : XF := ⟨3, b110, [.t 6, .t 7]⟩
def h110 : Yl := fun id => match id with
  | 0 => [0, 1, 2]
  | 1 => [0, 1, 2, 10]
  | 2 => [0, 1, 2, 10]
  | 3 => [6, 7]
  | 4 => [0, 1, 2, 16]
  | 5 => [6, 7]
  | 6 => [0, 1, 2, 19]
  | 7 => [6, 7]
  | 8 => [0, 1, 2, 26]
  | 9 => [0, 1, 2, 26]
  | 10 => [6, 7]
  | 11 => [0, 2, 8]
  | 12 => [0, 2, 8, 55, 56]
  | 13 => [0, 2, 8, 55, 56, 57]
  | 14 => [0, 2, 8, 9, 55, 56]
  | 15 => [0, 2, 8, 55, 56]
  | 16 => [0, 2, 8, 55, 56]
  | 17 => [6, 7]
  | _ => []
theorem cv110 : cvF Tryz.prog h110 Tryz.f110 = some x110 := by kernel_rfl

/-- winnower/bitset.each -/
def lp111_0 : XC := .seq (.reg [⟨some 12, .bin .lss (.t 11) (.t 10), none, false⟩] [1, 4, 5, 10, 11, 12]) (.seq (.cond (.t 12) .skip (.exit 0)) (.seq (.block 1 (.seq (.reg [⟨some 13, .mov (.t 11), none, false⟩, ⟨some 6, .mov (.t 13), none, false⟩] [1, 4, 5, 6, 10, 11]) (.reg [⟨some 14, .mov (.t 5), none, false⟩, ⟨some 15, .mov (.t 6), none, false⟩, ⟨some 16, .mov (.t 1), none, false⟩, ⟨some 17, .mov (.t 6), none, false⟩, ⟨some 18, .call (.t 16) [.t 17], none, false⟩, ⟨some 19, .iaddr 1 (.t 14) (.t 15), none, false⟩, ⟨none, .store 1 (.t 19) (.t 18), none, false⟩] [1, 4, 5, 10, 11]))) (.reg [⟨some 20, .bin .add (.t 11) (.c (.int .i64 1)), none, false⟩, ⟨some 11, .mov (.t 20), none, false⟩] [1, 4, 5, 10, 11])))
def b111 : XC := .seq (.reg [⟨some 4, .alloc 38 [.nils], none, false⟩] [0, 1, 4]) (.seq (.reg [⟨some 7, .mov (.t 0), none, false⟩, ⟨some 8, .make 72 1 8 (.int .u64 0) (.t 7) (.t 7), none, false⟩, ⟨some 5, .mov (.t 8), none, false⟩] [1, 4, 5]) (.seq (.seq (.reg [⟨some 9, .mov (.t 5), none, false⟩, ⟨some 10, .len 1 (.t 9), none, false⟩, ⟨some 11, .mov (.c (.int .i64 0)), none, false⟩] [1, 4, 5, 10, 11]) (.block 0 (.loop lp111_0))) (.seq (.reg [⟨some 21, .mov (.t 5), none, false⟩, ⟨some 22, .build [.nils] [(0, (1, .t 21))], none, false⟩, ⟨none, .store 1 (.t 4) (.t 22), none, false⟩] [4]) .ret)))
def x111 : XF := ⟨2, b111, [.cell 4 true 1]⟩
def h111 : Yl := fun id => match id with
  | 0 => [0, 1, 4]
  | 1 => [1, 4, 5]
  | 2 => [1, 4, 5, 10, 11]
  | 3 => [1, 4, 5, 10, 11, 12]
  | 4 => [1, 4, 5, 6, 10, 11]
  | 5 => [1, 4, 5, 10, 11]
  | 6 => [1, 4, 5, 10, 11]
  | 7 => [4]
  | _ => []
theorem cv111 : cvF Tryz.prog h111 Tryz.f111 = some x111 := by kernel_rfl

/-- winnower/bitset.Upto$1 -/
def b112 : XC := .seq (.reg [⟨some 3, .mov (.c (.int .u64 0)), none, false⟩] [0, 1]) (.seq (.seq (.reg [⟨some 4, .load false 1 (.t 1), none, false⟩, ⟨some 5, .mov (.t 0), none, false⟩, ⟨some 6, .bin .mul (.t 5) (.c (.int .i64 64)), none, false⟩, ⟨some 7, .bin .sub (.t 4) (.t 6), none, false⟩, ⟨some 8, .bin .geq (.t 7) (.c (.int .i64 64)), none, false⟩] [0, 1, 8]) (.cond (.t 8) (.seq (.reg [⟨some 3, .mov (.c (.int .u64 18446744073709551615)), none, false⟩] [3]) .ret) .skip)) (.seq (.reg [⟨some 9, .load false 1 (.t 1), none, false⟩, ⟨some 10, .mov (.t 0), none, false⟩, ⟨some 11, .bin .mul (.t 10) (.c (.int .i64 64)), none, false⟩, ⟨some 12, .bin .sub (.t 9) (.t 11), none, false⟩, ⟨some 13, .bin .shl (.c (.int .u64 1)) (.t 12), none, false⟩, ⟨some 14, .bin .sub (.t 13) (.c (.int .u64 1)), none, false⟩, ⟨some 3, .mov (.t 14), none, false⟩] [3]) .ret))
def x112 : XF := ⟨2, b112, [.t 3]⟩
def h112 : Yl := fun id => match id with
  | 0 => [0, 1]
  | 1 => [0, 1, 8]
  | 2 => [3]
  | 3 => [3]
  | _ => []
theorem cv112 : cvF Tryz.prog h112 Tryz.f112 = some x112 := by kernel_rfl

/-- (winnower/bitset.Set).Not$1 -/
def b113 : XC := .seq (.reg [⟨some 4, .mov (.c (.int .u64 0)), none, false⟩] [0, 1, 2]) (.seq (.reg [⟨some 5, .faddr 0 (.t 1), none, false⟩, ⟨some 6, .load false 1 (.t 5), none, false⟩, ⟨some 7, .mov (.t 0), none, false⟩, ⟨some 8, .iaddr 1 (.t 6) (.t 7), none, false⟩, ⟨some 9, .load false 1 (.t 8), none, false⟩, ⟨some 10, .load true 1 (.t 2), none, false⟩, ⟨some 11, .mov (.t 0), none, false⟩, ⟨some 12, .call (.c (.func 35 [] [])) [.t 10, .t 11], none, true⟩, ⟨some 13, .bin .andNot (.t 9) (.t 12), none, false⟩, ⟨some 4, .mov (.t 13), none, false⟩] [4]) .ret)
def x113 : XF := ⟨3, b113, [.t 4]⟩
def h113 : Yl := fun id => match id with
  | 0 => [0, 1, 2]
  | 1 => [4]
  | _ => []
theorem cv113 : cvF Tryz.prog h113 Tryz.f113 = some x113 := by kernel_rfl

/-- (winnower/bitset.Set).And$1 -/
def b114 : XC := .seq (.reg [⟨some 4, .mov (.c (.int .u64 0)), none, false⟩] [0, 1, 2]) (.seq (.reg [⟨some 5, .faddr 0 (.t 1), none, false⟩, ⟨some 6, .load false 1 (.t 5), none, false⟩, ⟨some 7, .mov (.t 0), none, false⟩, ⟨some 8, .iaddr 1 (.t 6) (.t 7), none, false⟩, ⟨some 9, .load false 1 (.t 8), none, false⟩, ⟨some 10, .faddr 0 (.t 2), none, false⟩, ⟨some 11, .load false 1 (.t 10), none, false⟩, ⟨some 12, .mov (.t 0), none, false⟩, ⟨some 13, .iaddr 1 (.t 11) (.t 12), none, false⟩, ⟨some 14, .load false 1 (.t 13), none, false⟩, ⟨some 15, .bin .and (.t 9) (.t 14), none, false⟩, ⟨some 4, .mov (.t 15), none, false⟩] [4]) .ret)
def x114 : XF := ⟨3, b114, [.t 4]⟩
def h114 : Yl := fun id => match id with
  | 0 => [0, 1, 2]
  | 1 => [4]
  | _ => []
theorem cv114 : cvF Tryz.prog h114 Tryz.f114 = some x114 := by kernel_rfl

/-- (winnower/bitset.Set).Or$1 -/
def b115 : XC := .seq (.reg [⟨some 4, .mov (.c (.int .u64 0)), none, false⟩] [0, 1, 2]) (.seq (.reg [⟨some 5, .load true 1 (.t 1), none, false⟩, ⟨some 6, .mov (.t 0), none, false⟩, ⟨some 7, .call (.c (.func 35 [] [])) [.t 5, .t 6], none, true⟩, ⟨some 8, .load true 1 (.t 2), none, false⟩, ⟨some 9, .mov (.t 0), none, false⟩, ⟨some 10, .call (.c (.func 35 [] [])) [.t 8, .t 9], none, false⟩, ⟨some 11, .bin .or (.t 7) (.t 10), none, false⟩, ⟨some 4, .mov (.t 11), none, false⟩] [4]) .ret)
def x115 : XF := ⟨3, b115, [.t 4]⟩
def h115 : Yl := fun id => match id with
  | 0 => [0, 1, 2]
  | 1 => [4]
  | _ => []
theorem cv115 : cvF Tryz.prog h115 Tryz.f115 = some x115 := by kernel_rfl

/-- winnower/column.rows -/
def lp116_0 : XC := .seq (.reg [⟨some 18, .bin .lss (.t 17) (.t 16), none, false⟩] [1, 4, 6, 7, 15, 16, 17, 18]) (.seq (.cond (.t 18) .skip (.exit 0)) (.seq (.block 1 (.seq (.reg [⟨some 19, .mov (.t 17), none, false⟩, ⟨some 20, .iaddr 1 (.t 15) (.t 17), none, false⟩, ⟨some 21, .load false 1 (.t 20), none, false⟩, ⟨some 8, .mov (.t 19), none, false⟩, ⟨some 9, .mov (.t 21), none, false⟩] [1, 4, 6, 7, 8, 9, 15, 16, 17]) (.seq (.reg [⟨some 22, .mov (.t 6), none, false⟩, ⟨some 23, .mov (.t 22), none, false⟩, ⟨some 24, .mov (.t 1), some (23, true), false⟩, ⟨some 25, .mov (.t 9), some (23, true), false⟩, ⟨some 26, .call (.t 24) [.t 25], some (23, true), false⟩, ⟨some 27, .pick (.t 23) (.t 26) (.c (.bool false)), none, false⟩] [1, 4, 6, 7, 8, 15, 16, 17, 27]) (.cond (.t 27) (.reg [⟨some 28, .mov (.t 7), none, false⟩, ⟨some 29, .mov (.t 8), none, false⟩, ⟨some 30, .mkslice true 3 1 [.t 29], none, false⟩, ⟨some 31, .app 3 1 8 (.t 28) (.t 30), none, false⟩, ⟨some 7, .mov (.t 31), none, false⟩] [1, 4, 6, 7, 15, 16, 17]) .skip)))) (.reg [⟨some 32, .bin .add (.t 17) (.c (.int .i64 1)), none, false⟩, ⟨some 17, .mov (.t 32), none, false⟩] [1, 4, 6, 7, 15, 16, 17])))
def b116 : XC := .seq (.reg [⟨some 2, .box 61 (.t 0), none, false⟩, ⟨some 4, .alloc 38 [.nils], none, false⟩] [1, 2, 4]) (.seq (.reg [⟨some 11, .load true 3 (.t 2), none, false⟩, ⟨some 12, .call (.c (.func 64 [] [])) [.t 11], none, false⟩, ⟨some 10, .mov (.t 12), none, false⟩, ⟨some 13, .ext (.t 10) 0, none, false⟩, ⟨some 14, .ext (.t 10) 1, none, false⟩, ⟨some 5, .mov (.t 13), none, false⟩, ⟨some 6, .mov (.t 14), none, false⟩] [1, 4, 5, 6]) (.seq (.reg [⟨some 7, .mov (.c .nils), none, false⟩] [1, 4, 5, 6, 7]) (.seq (.seq (.reg [⟨some 15, .mov (.t 5), none, false⟩, ⟨some 16, .len 1 (.t 15), none, false⟩, ⟨some 17, .mov (.c (.int .i64 0)), none, false⟩] [1, 4, 6, 7, 15, 16, 17]) (.block 0 (.loop lp116_0))) (.seq (.reg [⟨some 33, .mov (.t 7), none, false⟩, ⟨some 34, .call (.c (.func 76 [] [])) [.t 33], none, false⟩, ⟨none, .store 1 (.t 4) (.t 34), none, false⟩] [4]) .ret))))
def x116 : XF := ⟨2, b116, [.cell 4 true 1]⟩
def h116 : Yl := fun id => match id with
  | 0 => [1, 2, 4]
  | 1 => [1, 4, 5, 6]
  | 2 => [1, 4, 5, 6, 7]
  | 3 => [1, 4, 6, 7, 15, 16, 17]
  | 4 => [1, 4, 6, 7, 15, 16, 17, 18]
  | 5 => [1, 4, 6, 7, 8, 9, 15, 16, 17]
  | 6 => [1, 4, 6, 7, 8, 15, 16, 17, 27]
  | 7 => [1, 4, 6, 7, 15, 16, 17]
  | 8 => [1, 4, 6, 7, 15, 16, 17]
  | 9 => [4]
  | _ => []
theorem cv116 : cvF Tryz.prog h116 Tryz.f116 = some x116 := by kernel_rfl

/-- winnower/column.Range$1 -/
def b117 : XC := .seq (.reg [⟨some 4, .mov (.c (.bool false)), none, false⟩] [0, 1, 2]) (.seq (.reg [⟨some 5, .mov (.t 0), none, false⟩, ⟨some 6, .load false 1 (.t 1), none, false⟩, ⟨some 7, .bin .geq (.t 5) (.t 6), none, false⟩, ⟨some 8, .mov (.t 7), none, false⟩, ⟨some 9, .mov (.t 0), some (8, true), false⟩, ⟨some 10, .load false 1 (.t 2), some (8, true), false⟩, ⟨some 11, .bin .lss (.t 9) (.t 10), some (8, true), false⟩, ⟨some 12, .pick (.t 8) (.t 11) (.c (.bool false)), none, false⟩, ⟨some 4, .mov (.t 12), none, false⟩] [4]) .ret)
def x117 : XF := ⟨3, b117, [.t 4]⟩
def h117 : Yl := fun id => match id with
  | 0 => [0, 1, 2]
  | 1 => [4]
  | _ => []
theorem cv117 : cvF Tryz.prog h117 Tryz.f117 = some x117 := by kernel_rfl

/-- winnower/dict.search -/
def b118 : XC := .seq (.reg [⟨some 3, .box 51 (.t 1), none, false⟩, ⟨some 4, .mov (.c (.int .i64 0)), none, false⟩, ⟨some 5, .mov (.c (.bool false)), none, false⟩] [0, 3]) (.seq (.reg [⟨some 7, .mov (.t 0), none, false⟩, ⟨some 8, .mkfn 145 [] [.t 3], none, false⟩, ⟨some 9, .call (.c (.func 144 [] [])) [.t 7, .t 8], none, false⟩, ⟨some 6, .mov (.t 9), none, false⟩] [0, 3, 6]) (.seq (.reg [⟨some 10, .mov (.t 6), none, false⟩, ⟨some 11, .mov (.t 6), none, false⟩, ⟨some 12, .mov (.t 0), none, false⟩, ⟨some 13, .len 4 (.t 12), none, false⟩, ⟨some 14, .bin .lss (.t 11) (.t 13), none, false⟩, ⟨some 15, .mov (.t 14), none, false⟩, ⟨some 16, .mov (.t 0), some (15, true), false⟩, ⟨some 17, .mov (.t 6), some (15, true), false⟩, ⟨some 18, .iaddr 4 (.t 16) (.t 17), some (15, true), false⟩, ⟨some 19, .load true 4 (.t 18), some (15, true), false⟩, ⟨some 20, .load true 4 (.t 3), some (15, true), false⟩, ⟨some 21, .eqa [1, 1, 2, 0] false (.t 19) (.t 20), some (15, true), false⟩, ⟨some 22, .pick (.t 15) (.t 21) (.c (.bool false)), none, false⟩, ⟨some 4, .mov (.t 10), none, false⟩, ⟨some 5, .mov (.t 22), none, false⟩] [4, 5]) .ret))
def x118 : XF := ⟨2, b118, [.t 4, .t 5]⟩
def h118 : Yl := fun id => match id with
  | 0 => [0, 3]
  | 1 => [0, 3, 6]
  | 2 => [4, 5]
  | _ => []
theorem cv118 : cvF Tryz.prog h118 Tryz.f118 = some x118 := by kernel_rfl

/-- winnower/bitset.put -/
def lp119_0 : XC := .seq (.seq (.reg [⟨some 5, .mov (.t 0), none, false⟩, ⟨some 6, .len 1 (.t 5), none, false⟩, ⟨some 7, .mov (.t 1), none, false⟩, ⟨some 8, .bin .quo (.t 7) (.c (.int .i64 64)), none, false⟩, ⟨some 9, .bin .leq (.t 6) (.t 8), none, false⟩] [0, 1, 9]) (.cond (.t 9) .skip (.exit 0))) (.block 1 (.reg [⟨some 10, .mov (.t 0), none, false⟩, ⟨some 11, .mkslice true 72 1 [.c (.int .u64 0)], none, false⟩, ⟨some 12, .app 72 1 8 (.t 10) (.t 11), none, false⟩, ⟨some 0, .mov (.t 12), none, false⟩] [0, 1]))
def b119 : XC := .seq (.reg [⟨some 4, .mov (.c .nils), none, false⟩] [0, 1]) (.seq (.block 0 (.loop lp119_0)) (.seq (.reg [⟨some 13, .mov (.t 0), none, false⟩, ⟨some 14, .mov (.t 1), none, false⟩, ⟨some 15, .bin .quo (.t 14) (.c (.int .i64 64)), none, false⟩, ⟨some 16, .iaddr 1 (.t 13) (.t 15), none, false⟩, ⟨some 17, .load false 1 (.t 16), none, false⟩, ⟨some 18, .mov (.t 1), none, false⟩, ⟨some 19, .bin .rem (.t 18) (.c (.int .i64 64)), none, false⟩, ⟨some 20, .bin .shl (.c (.int .u64 1)) (.t 19), none, false⟩, ⟨some 21, .bin .or (.t 17) (.t 20), none, false⟩, ⟨some 22, .iaddr 1 (.t 13) (.t 15), none, false⟩, ⟨none, .store 1 (.t 22) (.t 21), none, false⟩] [0]) (.seq (.reg [⟨some 23, .mov (.t 0), none, false⟩, ⟨some 4, .mov (.t 23), none, false⟩] [4]) .ret)))
def x119 : XF := ⟨2, b119, [.t 4]⟩
def h119 : Yl := fun id => match id with
  | 0 => [0, 1]
  | 1 => [0, 1, 9]
  | 2 => [0, 1]
  | 3 => [0]
  | 4 => [4]
  | _ => []
theorem cv119 : cvF Tryz.prog h119 Tryz.f119 = some x119 := by kernel_rfl

/-- winnower/bits.may -/
def b125 : XC := .seq (.reg [⟨some 2, .mov (.c (.bool false)), none, false⟩] [0]) (.seq (.reg [⟨some 3, .mov (.t 0), none, false⟩, ⟨some 4, .bin .geq (.t 3) (.c (.int .i64 0)), none, false⟩, ⟨some 5, .mov (.t 4), none, false⟩, ⟨some 6, .mov (.t 0), some (5, true), false⟩, ⟨some 7, .bin .leq (.t 6) (.c (.int .i64 62)), some (5, true), false⟩, ⟨some 8, .pick (.t 5) (.t 7) (.c (.bool false)), none, false⟩, ⟨some 2, .mov (.t 8), none, false⟩] [2]) .ret)
def x125 : XF := ⟨1, b125, [.t 2]⟩
def h125 : Yl := fun id => match id with
  | 0 => [0]
  | 1 => [2]
  | _ => []
theorem cv125 : cvF Tryz.prog h125 Tryz.f125 = some x125 := by kernel_rfl

/-- winnower/bits.number -/
def b126 : XC := .seq (.reg [⟨some 3, .box 59 (.t 0), none, false⟩, ⟨some 6, .mov (.c (.int .i64 0)), none, false⟩] [1, 2, 3]) (.seq (.reg [⟨some 7, .alloc 3 [.int .i64 0], none, false⟩, ⟨none, .store 1 (.t 7) (.c (.int .i64 0)), none, false⟩] [1, 2, 3, 7]) (.seq (.reg [⟨some 8, .mov (.t 1), none, false⟩, ⟨some 9, .mov (.t 2), none, false⟩, ⟨some 10, .mkfn 153 [] [.t 7, .t 3], none, false⟩, ⟨some 11, .call (.c (.func 151 [] [])) [.t 8, .t 9, .t 10], none, false⟩] [7]) (.seq (.reg [⟨some 12, .load false 1 (.t 7), none, false⟩, ⟨some 6, .mov (.t 12), none, false⟩] [6]) .ret)))
def x126 : XF := ⟨3, b126, [.t 6]⟩
def h126 : Yl := fun id => match id with
  | 0 => [1, 2, 3]
  | 1 => [1, 2, 3, 7]
  | 2 => [7]
  | 3 => [6]
  | _ => []
theorem cv126 : cvF Tryz.prog h126 Tryz.f126 = some x126 := by kernel_rfl

/-- winnower/bits.Width -/
def b127 : XC := .seq (.reg [⟨some 2, .mov (.c (.int .i64 0)), none, false⟩] [0]) (.seq (.reg [⟨some 3, .mov (.t 0), none, false⟩, ⟨some 4, .mmx true [.t 3, .c (.int .i64 0)], none, false⟩, ⟨some 5, .toint .u64 (.t 4), none, false⟩, ⟨some 6, .call (.c (.func 105 [] [])) [.t 5], none, false⟩, ⟨some 2, .mov (.t 6), none, false⟩] [2]) .ret)
def x127 : XF := ⟨1, b127, [.t 2]⟩
def h127 : Yl := fun id => match id with
  | 0 => [0]
  | 1 => [2]
  | _ => []
theorem cv127 : cvF Tryz.prog h127 Tryz.f127 = some x127 := by kernel_rfl

/-- strings.Trim -/
def b132 : XC := .seq (.reg [⟨some 4, .mov (.c (.str ⟨#[]⟩)), none, false⟩] [0, 1]) (.seq (.seq (.reg [⟨some 7, .mov (.t 0), none, false⟩, ⟨some 8, .bin .eql (.t 7) (.c (.str ⟨#[]⟩)), none, false⟩, ⟨some 9, .mov (.t 8), none, false⟩, ⟨some 10, .mov (.t 1), some (9, false), false⟩, ⟨some 11, .bin .eql (.t 10) (.c (.str ⟨#[]⟩)), some (9, false), false⟩, ⟨some 12, .pick (.t 9) (.c (.bool true)) (.t 11), none, false⟩] [0, 1, 12]) (.cond (.t 12) (.seq (.reg [⟨some 13, .mov (.t 0), none, false⟩, ⟨some 4, .mov (.t 13), none, false⟩] [4]) .ret) .skip)) (.seq (.seq (.reg [⟨some 14, .mov (.t 1), none, false⟩, ⟨some 15, .lens (.t 14), none, false⟩, ⟨some 16, .bin .eql (.t 15) (.c (.int .i64 1)), none, false⟩, ⟨some 17, .mov (.t 16), none, false⟩, ⟨some 18, .mov (.t 1), some (17, true), false⟩, ⟨some 19, .idxs (.t 18) (.c (.int .i64 0)), some (17, true), false⟩, ⟨some 20, .bin .lss (.t 19) (.c (.int .u8 128)), some (17, true), false⟩, ⟨some 21, .pick (.t 17) (.t 20) (.c (.bool false)), none, false⟩] [0, 1, 21]) (.cond (.t 21) (.seq (.reg [⟨some 22, .mov (.t 0), none, false⟩, ⟨some 23, .mov (.t 1), none, false⟩, ⟨some 24, .idxs (.t 23) (.c (.int .i64 0)), none, false⟩, ⟨some 25, .call (.c (.func 156 [] [])) [.t 22, .t 24], none, false⟩, ⟨some 26, .mov (.t 1), none, false⟩, ⟨some 27, .idxs (.t 26) (.c (.int .i64 0)), none, false⟩, ⟨some 28, .call (.c (.func 155 [] [])) [.t 25, .t 27], none, false⟩, ⟨some 4, .mov (.t 28), none, false⟩] [4]) .ret) .skip)) (.seq (.seq (.reg [⟨some 30, .mov (.t 1), none, false⟩, ⟨some 31, .call (.c (.func 157 [] [])) [.t 30], none, false⟩, ⟨some 29, .mov (.t 31), none, false⟩, ⟨some 32, .ext (.t 29) 0, none, false⟩, ⟨some 33, .ext (.t 29) 1, none, false⟩, ⟨some 5, .alloc 180 (zrep 256 (.bool false)), none, false⟩, ⟨none, .store 256 (.t 5) (.t 32), none, false⟩, ⟨some 6, .mov (.t 33), none, false⟩] [0, 1, 5, 6]) (.seq (.reg [⟨some 34, .mov (.t 6), none, false⟩] [0, 1, 5, 34]) (.cond (.t 34) (.seq (.reg [⟨some 35, .mov (.t 0), none, false⟩, ⟨some 36, .call (.c (.func 159 [] [])) [.t 35, .t 5], none, false⟩, ⟨some 37, .call (.c (.func 158 [] [])) [.t 36, .t 5], none, false⟩, ⟨some 4, .mov (.t 37), none, false⟩] [4]) .ret) .skip))) (.seq (.reg [⟨some 38, .mov (.t 0), none, false⟩, ⟨some 39, .mov (.t 1), none, false⟩, ⟨some 40, .call (.c (.func 161 [] [])) [.t 38, .t 39], none, false⟩, ⟨some 41, .mov (.t 1), none, false⟩, ⟨some 42, .call (.c (.func 160 [] [])) [.t 40, .t 41], none, false⟩, ⟨some 4, .mov (.t 42), none, false⟩] [4]) .ret))))
def x132 : XF := ⟨2, b132, [.t 4]⟩
def h132 : Yl := fun id => match id with
  | 0 => [0, 1]
  | 1 => [0, 1, 12]
  | 2 => [4]
  | 3 => [0, 1, 21]
  | 4 => [4]
  | 5 => [0, 1, 5, 6]
  | 6 => [0, 1, 5, 34]
  | 7 => [4]
  | 8 => [4]
  | _ => []
theorem cv132 : cvF Tryz.prog h132 Tryz.f132 = some x132 := by kernel_rfl

/-- slices.IndexFunc[[]winnower/api.Col,winnower/api.Col] -/
def lp133_0 : XC := .seq (.reg [⟨some 9, .bin .lss (.t 8) (.t 7), none, false⟩] [0, 1, 7, 8, 9]) (.seq (.cond (.t 9) .skip (.exit 0)) (.seq (.block 1 (.seq (.reg [⟨some 10, .mov (.t 8), none, false⟩, ⟨some 5, .mov (.t 10), none, false⟩] [0, 1, 5, 7, 8]) (.seq (.reg [⟨some 11, .mov (.t 1), none, false⟩, ⟨some 12, .mov (.t 0), none, false⟩, ⟨some 13, .mov (.t 5), none, false⟩, ⟨some 14, .iaddr 3 (.t 12) (.t 13), none, false⟩, ⟨some 15, .load true 3 (.t 14), none, false⟩, ⟨some 16, .call (.t 11) [.t 15], none, false⟩] [0, 1, 5, 7, 8, 16]) (.cond (.t 16) (.seq (.reg [⟨some 17, .mov (.t 5), none, false⟩, ⟨some 4, .mov (.t 17), none, false⟩] [4]) .ret) .skip)))) (.reg [⟨some 18, .bin .add (.t 8) (.c (.int .i64 1)), none, false⟩, ⟨some 8, .mov (.t 18), none, false⟩] [0, 1, 7, 8])))
def b133 : XC := .seq (.reg [⟨some 4, .mov (.c (.int .i64 0)), none, false⟩] [0, 1]) (.seq (.seq (.reg [⟨some 6, .mov (.t 0), none, false⟩, ⟨some 7, .len 3 (.t 6), none, false⟩, ⟨some 8, .mov (.c (.int .i64 0)), none, false⟩] [0, 1, 7, 8]) (.block 0 (.loop lp133_0))) (.seq (.reg [⟨some 4, .mov (.c (.int .i64 (-1))), none, false⟩] [4]) .ret))
def x133 : XF := ⟨2, b133, [.t 4]⟩
def h133 : Yl := fun id => match id with
  | 0 => [0, 1]
  | 1 => [0, 1, 7, 8]
  | 2 => [0, 1, 7, 8, 9]
  | 3 => [0, 1, 5, 7, 8]
  | 4 => [0, 1, 5, 7, 8, 16]
  | 5 => [4]
  | 6 => [0, 1, 7, 8]
  | 7 => [4]
  | _ => []
theorem cv133 : cvF Tryz.prog h133 Tryz.f133 = some x133 := by kernel_rfl

/-- winnower/schema.Find$1 -/
def b134 : XC := .seq (.reg [⟨some 2, .box 63 (.t 0), none, false⟩, ⟨some 3, .mov (.c (.bool false)), none, false⟩] [1, 2]) (.seq (.reg [⟨some 4, .faddr 0 (.t 2), none, false⟩, ⟨some 5, .load false 1 (.t 4), none, false⟩, ⟨some 6, .load false 1 (.t 1), none, false⟩, ⟨some 7, .bin .eql (.t 5) (.t 6), none, false⟩, ⟨some 3, .mov (.t 7), none, false⟩] [3]) .ret)
def x134 : XF := ⟨2, b134, [.t 3]⟩
def h134 : Yl := fun id => match id with
  | 0 => [1, 2]
  | 1 => [3]
  | _ => []
theorem cv134 : cvF Tryz.prog h134 Tryz.f134 = some x134 := by kernel_rfl

/-- winnower/schema.of -/
def b135 : XC := .seq (.reg [⟨some 3, .box 25 (.t 0), none, false⟩, ⟨some 6, .mov (.c (.bool false)), none, false⟩] [1, 2, 3]) (.seq (.reg [⟨some 7, .mov (.t 1), none, false⟩, ⟨some 8, .bin .geq (.t 7) (.c (.int .i64 0)), none, false⟩, ⟨some 9, .mov (.t 8), none, false⟩, ⟨some 10, .mov (.t 1), some (9, true), false⟩, ⟨some 11, .faddr 0 (.t 3), some (9, true), false⟩, ⟨some 12, .load false 1 (.t 11), some (9, true), false⟩, ⟨some 13, .len 3 (.t 12), some (9, true), false⟩, ⟨some 14, .bin .lss (.t 10) (.t 13), some (9, true), false⟩, ⟨some 15, .pick (.t 9) (.t 14) (.c (.bool false)), none, false⟩, ⟨some 16, .mov (.t 15), none, false⟩, ⟨some 17, .faddr 0 (.t 3), some (16, true), false⟩, ⟨some 18, .load false 1 (.t 17), some (16, true), false⟩, ⟨some 19, .mov (.t 1), some (16, true), false⟩, ⟨some 20, .iaddr 3 (.t 18) (.t 19), some (16, true), false⟩, ⟨some 21, .faddr 2 (.t 20), some (16, true), false⟩, ⟨some 22, .load false 1 (.t 21), some (16, true), false⟩, ⟨some 23, .un .not (.t 22), some (16, true), false⟩, ⟨some 24, .pick (.t 16) (.t 23) (.c (.bool false)), none, false⟩, ⟨some 25, .mov (.t 24), none, false⟩, ⟨some 26, .mov (.t 2), some (25, true), false⟩, ⟨some 27, .bin .eql (.t 26) (.c (.int .i64 0)), some (25, true), false⟩, ⟨some 28, .mov (.t 27), some (25, true), false⟩, ⟨some 29, .faddr 0 (.t 3), some (28, false), false⟩, ⟨some 30, .load false 1 (.t 29), some (28, false), false⟩, ⟨some 31, .mov (.t 1), some (28, false), false⟩, ⟨some 32, .iaddr 3 (.t 30) (.t 31), some (28, false), false⟩, ⟨some 33, .faddr 1 (.t 32), some (28, false), false⟩, ⟨some 34, .load false 1 (.t 33), some (28, false), false⟩, ⟨some 35, .mov (.t 2), some (28, false), false⟩, ⟨some 36, .bin .eql (.t 34) (.t 35), some (28, false), false⟩, ⟨some 37, .pick (.t 28) (.c (.bool true)) (.t 36), some (25, true), false⟩, ⟨some 38, .pick (.t 25) (.t 37) (.c (.bool false)), none, false⟩, ⟨some 6, .mov (.t 38), none, false⟩] [6]) .ret)
def x135 : XF := ⟨3, b135, [.t 6]⟩
def h135 : Yl := fun id => match id with
  | 0 => [1, 2, 3]
  | 1 => [6]
  | _ => []
theorem cv135 : cvF Tryz.prog h135 Tryz.f135 = some x135 := by kernel_rfl

/-- cmp.isNaN[int] -/
def b141 : XC := .seq (.reg [⟨some 2, .mov (.c (.bool false)), none, false⟩] [0]) (.seq (.reg [⟨some 3, .mov (.t 0), none, false⟩, ⟨some 4, .mov (.t 0), none, false⟩, ⟨some 5, .bin .neq (.t 3) (.t 4), none, false⟩, ⟨some 2, .mov (.t 5), none, false⟩] [2]) .ret)
def x141 : XF := ⟨1, b141, [.t 2]⟩
def h141 : Yl := fun id => match id with
  | 0 => [0]
  | 1 => [2]
  | _ => []
theorem cv141 : cvF Tryz.prog h141 Tryz.f141 = some x141 := by kernel_rfl

/-- cmp.isNaN[string] -/
def b142 : XC := .seq (.reg [⟨some 2, .mov (.c (.bool false)), none, false⟩] [0]) (.seq (.reg [⟨some 3, .mov (.t 0), none, false⟩, ⟨some 4, .mov (.t 0), none, false⟩, ⟨some 5, .bin .neq (.t 3) (.t 4), none, false⟩, ⟨some 2, .mov (.t 5), none, false⟩] [2]) .ret)
def x142 : XF := ⟨1, b142, [.t 2]⟩
def h142 : Yl := fun id => match id with
  | 0 => [0]
  | 1 => [2]
  | _ => []
theorem cv142 : cvF Tryz.prog h142 Tryz.f142 = some x142 := by kernel_rfl

/-- winnower/bits.size -/
def b143 : XC := .seq (.reg [⟨some 4, .mov (.c (.int .i64 0)), none, false⟩] [0, 1]) (.seq (.reg [⟨some 5, .mov (.t 0), none, false⟩, ⟨some 6, .mov (.t 1), none, false⟩, ⟨some 7, .bin .mul (.t 5) (.t 6), none, false⟩, ⟨some 8, .bin .add (.t 7) (.c (.int .i64 7)), none, false⟩, ⟨some 9, .bin .quo (.t 8) (.c (.int .i64 8)), none, false⟩, ⟨some 4, .mov (.t 9), none, false⟩] [4]) .ret)
def x143 : XF := ⟨2, b143, [.t 4]⟩
def h143 : Yl := fun id => match id with
  | 0 => [0, 1]
  | 1 => [4]
  | _ => []
theorem cv143 : cvF Tryz.prog h143 Tryz.f143 = some x143 := by kernel_rfl

/-- winnower/dict.first[winnower/api.Value] -/
def lp144_0 : XC := .seq (.seq (.reg [⟨some 10, .mov (.t 5), none, false⟩, ⟨some 11, .mov (.t 6), none, false⟩, ⟨some 12, .bin .lss (.t 10) (.t 11), none, false⟩] [0, 1, 5, 6, 12]) (.cond (.t 12) .skip (.exit 0))) (.block 1 (.seq (.reg [⟨some 13, .mov (.t 5), none, false⟩, ⟨some 14, .mov (.t 6), none, false⟩, ⟨some 15, .bin .add (.t 13) (.t 14), none, false⟩, ⟨some 16, .bin .quo (.t 15) (.c (.int .i64 2)), none, false⟩, ⟨some 7, .mov (.t 16), none, false⟩] [0, 1, 5, 6, 7]) (.seq (.reg [⟨some 17, .mov (.t 1), none, false⟩, ⟨some 18, .mov (.t 0), none, false⟩, ⟨some 19, .mov (.t 7), none, false⟩, ⟨some 20, .iaddr 4 (.t 18) (.t 19), none, false⟩, ⟨some 21, .load true 4 (.t 20), none, false⟩, ⟨some 22, .call (.t 17) [.t 21], none, false⟩] [0, 1, 5, 6, 7, 22]) (.cond (.t 22) (.reg [⟨some 23, .mov (.t 7), none, false⟩, ⟨some 6, .mov (.t 23), none, false⟩] [0, 1, 5, 6]) (.reg [⟨some 24, .mov (.t 7), none, false⟩, ⟨some 25, .bin .add (.t 24) (.c (.int .i64 1)), none, false⟩, ⟨some 5, .mov (.t 25), none, false⟩] [0, 1, 5, 6])))))
def b144 : XC := .seq (.reg [⟨some 4, .mov (.c (.int .i64 0)), none, false⟩] [0, 1]) (.seq (.reg [⟨some 8, .mov (.t 0), none, false⟩, ⟨some 9, .len 4 (.t 8), none, false⟩, ⟨some 5, .mov (.c (.int .i64 0)), none, false⟩, ⟨some 6, .mov (.t 9), none, false⟩] [0, 1, 5, 6]) (.seq (.block 0 (.loop lp144_0)) (.seq (.reg [⟨some 26, .mov (.t 5), none, false⟩, ⟨some 4, .mov (.t 26), none, false⟩] [4]) .ret)))
def x144 : XF := ⟨2, b144, [.t 4]⟩
def h144 : Yl := fun id => match id with
  | 0 => [0, 1]
  | 1 => [0, 1, 5, 6]
  | 2 => [0, 1, 5, 6, 12]
  | 3 => [0, 1, 5, 6, 7]
  | 4 => [0, 1, 5, 6, 7, 22]
  | 5 => [0, 1, 5, 6]
  | 6 => [0, 1, 5, 6]
  | 7 => [4]
  | _ => []
theorem cv144 : cvF Tryz.prog h144 Tryz.f144 = some x144 := by kernel_rfl

/-- winnower/dict.search$1 -/
def b145 : XC := .seq (.reg [⟨some 2, .box 51 (.t 0), none, false⟩, ⟨some 3, .mov (.c (.bool false)), none, false⟩] [1, 2]) (.seq (.reg [⟨some 4, .load true 4 (.t 2), none, false⟩, ⟨some 5, .load true 4 (.t 1), none, false⟩, ⟨some 6, .call (.c (.func 62 [] [])) [.t 4, .t 5], none, false⟩, ⟨some 7, .bin .geq (.t 6) (.c (.int .i64 0)), none, false⟩, ⟨some 3, .mov (.t 7), none, false⟩] [3]) .ret)
def x145 : XF := ⟨2, b145, [.t 3]⟩
def h145 : Yl := fun id => match id with
  | 0 => [1, 2]
  | 1 => [3]
  | _ => []
theorem cv145 : cvF Tryz.prog h145 Tryz.f145 = some x145 := by kernel_rfl

/-- winnower/bits.places -/
def lp151_0 : XC := .seq (.reg [⟨some 9, .bin .lss (.t 8) (.t 7), none, false⟩] [0, 1, 2, 7, 8, 9]) (.seq (.cond (.t 9) .skip (.exit 0)) (.seq (.block 1 (.seq (.reg [⟨some 10, .mov (.t 8), none, false⟩, ⟨some 6, .mov (.t 10), none, false⟩] [0, 1, 2, 6, 7, 8]) (.reg [⟨some 11, .mov (.t 2), none, false⟩, ⟨some 12, .mov (.t 0), none, false⟩, ⟨some 13, .mov (.t 1), none, false⟩, ⟨some 14, .bin .mul (.t 12) (.t 13), none, false⟩, ⟨some 15, .mov (.t 6), none, false⟩, ⟨some 16, .bin .add (.t 14) (.t 15), none, false⟩, ⟨some 17, .mov (.t 6), none, false⟩, ⟨some 18, .call (.t 11) [.t 16, .t 17], none, false⟩] [0, 1, 2, 7, 8]))) (.reg [⟨some 19, .bin .add (.t 8) (.c (.int .i64 1)), none, false⟩, ⟨some 8, .mov (.t 19), none, false⟩] [0, 1, 2, 7, 8])))
def b151 : XC := .seq (.reg [⟨some 7, .mov (.t 1), none, false⟩, ⟨some 8, .mov (.c (.int .i64 0)), none, false⟩] [0, 1, 2, 7, 8]) (.block 0 (.loop lp151_0))
def x151 : XF := ⟨3, b151, []⟩
def h151 : Yl := fun id => match id with
  | 0 => [0, 1, 2, 7, 8]
  | 1 => [0, 1, 2, 7, 8, 9]
  | 2 => [0, 1, 2, 6, 7, 8]
  | 3 => [0, 1, 2, 7, 8]
  | 4 => [0, 1, 2, 7, 8]
  | _ => []
theorem cv151 : cvF Tryz.prog h151 Tryz.f151 = some x151 := by kernel_rfl

/-- winnower/bits.number$1 -/
def b153 : XC := .reg [⟨some 6, .load false 1 (.t 2), none, false⟩, ⟨some 7, .load false 1 (.t 3), none, false⟩, ⟨some 8, .mov (.t 0), none, false⟩, ⟨some 9, .bin .quo (.t 8) (.c (.int .i64 8)), none, false⟩, ⟨some 10, .iaddr 1 (.t 7) (.t 9), none, false⟩, ⟨some 11, .load false 1 (.t 10), none, false⟩, ⟨some 12, .mov (.t 0), none, false⟩, ⟨some 13, .bin .rem (.t 12) (.c (.int .i64 8)), none, false⟩, ⟨some 14, .bin .shr (.t 11) (.t 13), none, false⟩, ⟨some 15, .bin .and (.t 14) (.c (.int .u8 1)), none, false⟩, ⟨some 16, .toint .i64 (.t 15), none, false⟩, ⟨some 17, .mov (.t 1), none, false⟩, ⟨some 18, .bin .shl (.t 16) (.t 17), none, false⟩, ⟨some 19, .bin .or (.t 6) (.t 18), none, false⟩, ⟨none, .store 1 (.t 2) (.t 19), none, false⟩] []
def x153 : XF := ⟨4, b153, []⟩
def h153 : Yl := fun id => match id with
  | _ => []
theorem cv153 : cvF Tryz.prog h153 Tryz.f153 = some x153 := by kernel_rfl

/-- strings.makeASCIISet -/
def lp157_0 : XC := .seq (.seq (.reg [⟨some 6, .mov (.t 4), none, false⟩, ⟨some 7, .mov (.t 0), none, false⟩, ⟨some 8, .lens (.t 7), none, false⟩, ⟨some 9, .bin .lss (.t 6) (.t 8), none, false⟩] [0, 2, 4, 9]) (.cond (.t 9) .skip (.exit 0))) (.seq (.block 1 (.seq (.reg [⟨some 12, .mov (.t 0), none, false⟩, ⟨some 13, .mov (.t 4), none, false⟩, ⟨some 14, .idxs (.t 12) (.t 13), none, false⟩, ⟨some 5, .mov (.t 14), none, false⟩] [0, 2, 4, 5]) (.seq (.seq (.reg [⟨some 15, .mov (.t 5), none, false⟩, ⟨some 16, .bin .geq (.t 15) (.c (.int .u8 128)), none, false⟩] [0, 2, 4, 5, 16]) (.cond (.t 16) (.seq (.reg [⟨some 17, .load true 256 (.t 2), none, false⟩, ⟨none, .store 256 (.t 2) (.t 17), none, false⟩, ⟨some 3, .mov (.c (.bool false)), none, false⟩] [2, 3]) .ret) .skip)) (.reg [⟨some 18, .mov (.t 5), none, false⟩, ⟨some 19, .iaddra 256 1 (.t 2) (.t 18), none, false⟩, ⟨none, .store 1 (.t 19) (.c (.bool true)), none, false⟩] [0, 2, 4])))) (.reg [⟨some 10, .mov (.t 4), none, false⟩, ⟨some 11, .bin .add (.t 10) (.c (.int .i64 1)), none, false⟩, ⟨some 4, .mov (.t 11), none, false⟩] [0, 2, 4]))
def b157 : XC := .seq (.reg [⟨some 2, .alloc 180 (zrep 256 (.bool false)), none, false⟩, ⟨some 3, .mov (.c (.bool false)), none, false⟩] [0, 2]) (.seq (.seq (.reg [⟨some 4, .mov (.c (.int .i64 0)), none, false⟩] [0, 2, 4]) (.block 0 (.loop lp157_0))) (.seq (.reg [⟨some 20, .load true 256 (.t 2), none, false⟩, ⟨none, .store 256 (.t 2) (.t 20), none, false⟩, ⟨some 3, .mov (.c (.bool true)), none, false⟩] [2, 3]) .ret))
def x157 : XF := ⟨1, b157, [.cell 2 true 256, .t 3]⟩
def h157 : Yl := fun id => match id with
  | 0 => [0, 2]
  | 1 => [0, 2, 4]
  | 2 => [0, 2, 4, 9]
  | 3 => [0, 2, 4]
  | 4 => [0, 2, 4, 5]
  | 5 => [0, 2, 4, 5, 16]
  | 6 => [2, 3]
  | 7 => [0, 2, 4]
  | 8 => [2, 3]
  | _ => []
theorem cv157 : cvF Tryz.prog h157 Tryz.f157 = some x157 := by kernel_rfl

/-- strings.trimLeftASCII -/
def lp158_0 : XC := .seq (.seq (.reg [⟨some 5, .mov (.t 0), none, false⟩, ⟨some 6, .lens (.t 5), none, false⟩, ⟨some 7, .bin .gtr (.t 6) (.c (.int .i64 0)), none, false⟩] [0, 1, 7]) (.cond (.t 7) .skip (.exit 0))) (.block 1 (.seq (.seq (.reg [⟨some 8, .mov (.t 1), none, false⟩, ⟨some 9, .mov (.t 0), none, false⟩, ⟨some 10, .idxs (.t 9) (.c (.int .i64 0)), none, false⟩, ⟨some 11, .call (.c (.func 166 [] [])) [.t 8, .t 10], none, false⟩, ⟨some 12, .un .not (.t 11), none, false⟩] [0, 1, 12]) (.cond (.t 12) (.exit 0) .skip)) (.reg [⟨some 13, .mov (.t 0), none, false⟩, ⟨some 14, .slcs (.t 13) (some (.c (.int .i64 1))) none, none, false⟩, ⟨some 0, .mov (.t 14), none, false⟩] [0, 1])))
def b158 : XC := .seq (.reg [⟨some 4, .mov (.c (.str ⟨#[]⟩)), none, false⟩] [0, 1]) (.seq (.block 0 (.loop lp158_0)) (.seq (.reg [⟨some 15, .mov (.t 0), none, false⟩, ⟨some 4, .mov (.t 15), none, false⟩] [4]) .ret))
def x158 : XF := ⟨2, b158, [.t 4]⟩
def h158 : Yl := fun id => match id with
  | 0 => [0, 1]
  | 1 => [0, 1, 7]
  | 2 => [0, 1, 12]
  | 3 => [0, 1]
  | 4 => [4]
  | _ => []
theorem cv158 : cvF Tryz.prog h158 Tryz.f158 = some x158 := by kernel_rfl

/-- strings.trimRightASCII -/
def lp159_0 : XC := .seq (.seq (.reg [⟨some 5, .mov (.t 0), none, false⟩, ⟨some 6, .lens (.t 5), none, false⟩, ⟨some 7, .bin .gtr (.t 6) (.c (.int .i64 0)), none, false⟩] [0, 1, 7]) (.cond (.t 7) .skip (.exit 0))) (.block 1 (.seq (.seq (.reg [⟨some 8, .mov (.t 1), none, false⟩, ⟨some 9, .mov (.t 0), none, false⟩, ⟨some 10, .mov (.t 0), none, false⟩, ⟨some 11, .lens (.t 10), none, false⟩, ⟨some 12, .bin .sub (.t 11) (.c (.int .i64 1)), none, false⟩, ⟨some 13, .idxs (.t 9) (.t 12), none, false⟩, ⟨some 14, .call (.c (.func 166 [] [])) [.t 8, .t 13], none, false⟩, ⟨some 15, .un .not (.t 14), none, false⟩] [0, 1, 15]) (.cond (.t 15) (.exit 0) .skip)) (.reg [⟨some 16, .mov (.t 0), none, false⟩, ⟨some 17, .mov (.t 0), none, false⟩, ⟨some 18, .lens (.t 17), none, false⟩, ⟨some 19, .bin .sub (.t 18) (.c (.int .i64 1)), none, false⟩, ⟨some 20, .slcs (.t 16) none (some (.t 19)), none, false⟩, ⟨some 0, .mov (.t 20), none, false⟩] [0, 1])))
def b159 : XC := .seq (.reg [⟨some 4, .mov (.c (.str ⟨#[]⟩)), none, false⟩] [0, 1]) (.seq (.block 0 (.loop lp159_0)) (.seq (.reg [⟨some 21, .mov (.t 0), none, false⟩, ⟨some 4, .mov (.t 21), none, false⟩] [4]) .ret))
def x159 : XF := ⟨2, b159, [.t 4]⟩
def h159 : Yl := fun id => match id with
  | 0 => [0, 1]
  | 1 => [0, 1, 7]
  | 2 => [0, 1, 15]
  | 3 => [0, 1]
  | 4 => [4]
  | _ => []
theorem cv159 : cvF Tryz.prog h159 Tryz.f159 = some x159 := by kernel_rfl

/-- (*strings.asciiSet).contains -/
def b166 : XC := .seq (.reg [⟨some 4, .mov (.c (.bool false)), none, false⟩] [0, 1]) (.seq (.reg [⟨some 5, .mov (.t 0), none, false⟩, ⟨some 6, .mov (.t 1), none, false⟩, ⟨some 7, .nilck (.t 5), none, false⟩, ⟨some 8, .iaddra 256 1 (.t 7) (.t 6), none, false⟩, ⟨some 9, .load false 1 (.t 8), none, false⟩, ⟨some 4, .mov (.t 9), none, false⟩] [4]) .ret)
def x166 : XF := ⟨2, b166, [.t 4]⟩
def h166 : Yl := fun id => match id with
  | 0 => [0, 1]
  | 1 => [4]
  | _ => []
theorem cv166 : cvF Tryz.prog h166 Tryz.f166 = some x166 := by kernel_rfl

def X : Nat → Option XK := fun f => match f with
  | 25 => some (.ext gList)
  | 32 => some (.ext gSortI)
  | 3 => some (.fn x3)
  | 6 => some (.fn x6)
  | 7 => some (.fn x7)
  | 8 => some (.fn x8)
  | 9 => some (.fn x9)
  | 10 => some (.fn x10)
  | 11 => some (.fn x11)
  | 12 => some (.fn x12)
  | 13 => some (.fn x13)
  | 14 => some (.fn x14)
  | 17 => some (.fn x17)
  | 23 => some (.fn x23)
  | 24 => some (.fn x24)
  | 26 => some (.fn x26)
  | 27 => some (.fn x27)
  | 28 => some (.fn x28)
  | 29 => some (.fn x29)
  | 30 => some (.fn x30)
  | 31 => some (.fn x31)
  | 33 => some (.fn x33)
  | 34 => some (.fn x34)
  | 35 => some (.fn x35)
  | 36 => some (.fn x36)
  | 37 => some (.fn x37)
  | 38 => some (.fn x38)
  | 39 => some (.fn x39)
  | 40 => some (.fn x40)
  | 41 => some (.fn x41)
  | 44 => some (.fn x44)
  | 53 => some (.fn x53)
  | 54 => some (.fn x54)
  | 55 => some (.fn x55)
  | 56 => some (.fn x56)
  | 57 => some (.fn x57)
  | 58 => some (.fn x58)
  | 59 => some (.fn x59)
  | 62 => some (.fn x62)
  | 63 => some (.fn x63)
  | 64 => some (.fn x64)
  | 65 => some (.fn x65)
  | 66 => some (.fn x66)
  | 67 => some (.fn x67)
  | 68 => some (.fn x68)
  | 69 => some (.fn x69)
  | 70 => some (.fn x70)
  | 71 => some (.fn x71)
  | 72 => some (.fn x72)
  | 73 => some (.fn x73)
  | 74 => some (.fn x74)
  | 75 => some (.fn x75)
  | 76 => some (.fn x76)
  | 79 => some (.fn x79)
  | 80 => some (.fn x80)
  | 89 => some (.fn x89)
  | 90 => some (.fn x90)
  | 91 => some (.fn x91)
  | 92 => some (.fn x92)
  | 93 => some (.fn x93)
  | 94 => some (.fn x94)
  | 105 => some (.fn x105)
  | 106 => some (.fn x106)
  | 107 => some (.fn x107)
  | 108 => some (.fn x108)
  | 109 => some (.fn x109)
  | 110 => some (.fn x110)
  | 111 => some (.fn x111)
  | 112 => some (.fn x112)
  | 113 => some (.fn x113)
  | 114 => some (.fn x114)
  | 115 => some (.fn x115)
  | 116 => some (.fn x116)
  | 117 => some (.fn x117)
  | 118 => some (.fn x118)
  | 119 => some (.fn x119)
  | 125 => some (.fn x125)
  | 126 => some (.fn x126)
  | 127 => some (.fn x127)
  | 132 => some (.fn x132)
  | 133 => some (.fn x133)
  | 134 => some (.fn x134)
  | 135 => some (.fn x135)
  | 141 => some (.fn x141)
  | 142 => some (.fn x142)
  | 143 => some (.fn x143)
  | 144 => some (.fn x144)
  | 145 => some (.fn x145)
  | 151 => some (.fn x151)
  | 153 => some (.fn x153)
  | 157 => some (.fn x157)
  | 158 => some (.fn x158)
  | 159 => some (.fn x159)
  | 166 => some (.fn x166)
  | _ => none
def hints : Nat → Yl := fun f => match f with
  | 3 => h3
  | 6 => h6
  | 7 => h7
  | 8 => h8
  | 9 => h9
  | 10 => h10
  | 11 => h11
  | 12 => h12
  | 13 => h13
  | 14 => h14
  | 17 => h17
  | 23 => h23
  | 24 => h24
  | 26 => h26
  | 27 => h27
  | 28 => h28
  | 29 => h29
  | 30 => h30
  | 31 => h31
  | 33 => h33
  | 34 => h34
  | 35 => h35
  | 36 => h36
  | 37 => h37
  | 38 => h38
  | 39 => h39
  | 40 => h40
  | 41 => h41
  | 44 => h44
  | 53 => h53
  | 54 => h54
  | 55 => h55
  | 56 => h56
  | 57 => h57
  | 58 => h58
  | 59 => h59
  | 62 => h62
  | 63 => h63
  | 64 => h64
  | 65 => h65
  | 66 => h66
  | 67 => h67
  | 68 => h68
  | 69 => h69
  | 70 => h70
  | 71 => h71
  | 72 => h72
  | 73 => h73
  | 74 => h74
  | 75 => h75
  | 76 => h76
  | 79 => h79
  | 80 => h80
  | 89 => h89
  | 90 => h90
  | 91 => h91
  | 92 => h92
  | 93 => h93
  | 94 => h94
  | 105 => h105
  | 106 => h106
  | 107 => h107
  | 108 => h108
  | 109 => h109
  | 110 => h110
  | 111 => h111
  | 112 => h112
  | 113 => h113
  | 114 => h114
  | 115 => h115
  | 116 => h116
  | 117 => h117
  | 118 => h118
  | 119 => h119
  | 125 => h125
  | 126 => h126
  | 127 => h127
  | 132 => h132
  | 133 => h133
  | 134 => h134
  | 135 => h135
  | 141 => h141
  | 142 => h142
  | 143 => h143
  | 144 => h144
  | 145 => h145
  | 151 => h151
  | 153 => h153
  | 157 => h157
  | 158 => h158
  | 159 => h159
  | 166 => h166
  | _ => fun _ => []
theorem sound : Sound Tryz.prog X hints where
  mixed := by kernel_rfl
  ext f g h := by unfold X at h; split at h <;> first | (injection h with h; injection h with h; subst h; exact listOk) | (injection h with h; injection h with h; subst h; exact sortIOk) | cases h
  fn f x h := by
    unfold X at h
    split at h
    · cases h
    · cases h
    · injection h with h; injection h with h; subst h; exact ⟨Tryz.f3, by kernel_rfl, cv3⟩
    · injection h with h; injection h with h; subst h; exact ⟨Tryz.f6, by kernel_rfl, cv6⟩
    · injection h with h; injection h with h; subst h; exact ⟨Tryz.f7, by kernel_rfl, cv7⟩
    · injection h with h; injection h with h; subst h; exact ⟨Tryz.f8, by kernel_rfl, cv8⟩
    · injection h with h; injection h with h; subst h; exact ⟨Tryz.f9, by kernel_rfl, cv9⟩
    · injection h with h; injection h with h; subst h; exact ⟨Tryz.f10, by kernel_rfl, cv10⟩
    · injection h with h; injection h with h; subst h; exact ⟨Tryz.f11, by kernel_rfl, cv11⟩
    · injection h with h; injection h with h; subst h; exact ⟨Tryz.f12, by kernel_rfl, cv12⟩
    · injection h with h; injection h with h; subst h; exact ⟨Tryz.f13, by kernel_rfl, cv13⟩
    · injection h with h; injection h with h; subst h; exact ⟨Tryz.f14, by kernel_rfl, cv14⟩
    · injection h with h; injection h with h; subst h; exact ⟨Tryz.f17, by kernel_rfl, cv17⟩
    · injection h with h; injection h with h; subst h; exact ⟨Tryz.f23, by kernel_rfl, cv23⟩
    · injection h with h; injection h with h; subst h; exact ⟨Tryz.f24, by kernel_rfl, cv24⟩
    · injection h with h; injection h with h; subst h; exact ⟨Tryz.f26, by kernel_rfl, cv26⟩
    · injection h with h; injection h with h; subst h; exact ⟨Tryz.f27, by kernel_rfl, cv27⟩
    · injection h with h; injection h with h; subst h; exact ⟨Tryz.f28, by kernel_rfl, cv28⟩
    · injection h with h; injection h with h; subst h; exact ⟨Tryz.f29, by kernel_rfl, cv29⟩
    · injection h with h; injection h with h; subst h; exact ⟨Tryz.f30, by kernel_rfl, cv30⟩
    · injection h with h; injection h with h; subst h; exact ⟨Tryz.f31, by kernel_rfl, cv31⟩
    · injection h with h; injection h with h; subst h; exact ⟨Tryz.f33, by kernel_rfl, cv33⟩
    · injection h with h; injection h with h; subst h; exact ⟨Tryz.f34, by kernel_rfl, cv34⟩
    · injection h with h; injection h with h; subst h; exact ⟨Tryz.f35, by kernel_rfl, cv35⟩
    · injection h with h; injection h with h; subst h; exact ⟨Tryz.f36, by kernel_rfl, cv36⟩
    · injection h with h; injection h with h; subst h; exact ⟨Tryz.f37, by kernel_rfl, cv37⟩
    · injection h with h; injection h with h; subst h; exact ⟨Tryz.f38, by kernel_rfl, cv38⟩
    · injection h with h; injection h with h; subst h; exact ⟨Tryz.f39, by kernel_rfl, cv39⟩
    · injection h with h; injection h with h; subst h; exact ⟨Tryz.f40, by kernel_rfl, cv40⟩
    · injection h with h; injection h with h; subst h; exact ⟨Tryz.f41, by kernel_rfl, cv41⟩
    · injection h with h; injection h with h; subst h; exact ⟨Tryz.f44, by kernel_rfl, cv44⟩
    · injection h with h; injection h with h; subst h; exact ⟨Tryz.f53, by kernel_rfl, cv53⟩
    · injection h with h; injection h with h; subst h; exact ⟨Tryz.f54, by kernel_rfl, cv54⟩
    · injection h with h; injection h with h; subst h; exact ⟨Tryz.f55, by kernel_rfl, cv55⟩
    · injection h with h; injection h with h; subst h; exact ⟨Tryz.f56, by kernel_rfl, cv56⟩
    · injection h with h; injection h with h; subst h; exact ⟨Tryz.f57, by kernel_rfl, cv57⟩
    · injection h with h; injection h with h; subst h; exact ⟨Tryz.f58, by kernel_rfl, cv58⟩
    · injection h with h; injection h with h; subst h; exact ⟨Tryz.f59, by kernel_rfl, cv59⟩
    · injection h with h; injection h with h; subst h; exact ⟨Tryz.f62, by kernel_rfl, cv62⟩
    · injection h with h; injection h with h; subst h; exact ⟨Tryz.f63, by kernel_rfl, cv63⟩
    · injection h with h; injection h with h; subst h; exact ⟨Tryz.f64, by kernel_rfl, cv64⟩
    · injection h with h; injection h with h; subst h; exact ⟨Tryz.f65, by kernel_rfl, cv65⟩
    · injection h with h; injection h with h; subst h; exact ⟨Tryz.f66, by kernel_rfl, cv66⟩
    · injection h with h; injection h with h; subst h; exact ⟨Tryz.f67, by kernel_rfl, cv67⟩
    · injection h with h; injection h with h; subst h; exact ⟨Tryz.f68, by kernel_rfl, cv68⟩
    · injection h with h; injection h with h; subst h; exact ⟨Tryz.f69, by kernel_rfl, cv69⟩
    · injection h with h; injection h with h; subst h; exact ⟨Tryz.f70, by kernel_rfl, cv70⟩
    · injection h with h; injection h with h; subst h; exact ⟨Tryz.f71, by kernel_rfl, cv71⟩
    · injection h with h; injection h with h; subst h; exact ⟨Tryz.f72, by kernel_rfl, cv72⟩
    · injection h with h; injection h with h; subst h; exact ⟨Tryz.f73, by kernel_rfl, cv73⟩
    · injection h with h; injection h with h; subst h; exact ⟨Tryz.f74, by kernel_rfl, cv74⟩
    · injection h with h; injection h with h; subst h; exact ⟨Tryz.f75, by kernel_rfl, cv75⟩
    · injection h with h; injection h with h; subst h; exact ⟨Tryz.f76, by kernel_rfl, cv76⟩
    · injection h with h; injection h with h; subst h; exact ⟨Tryz.f79, by kernel_rfl, cv79⟩
    · injection h with h; injection h with h; subst h; exact ⟨Tryz.f80, by kernel_rfl, cv80⟩
    · injection h with h; injection h with h; subst h; exact ⟨Tryz.f89, by kernel_rfl, cv89⟩
    · injection h with h; injection h with h; subst h; exact ⟨Tryz.f90, by kernel_rfl, cv90⟩
    · injection h with h; injection h with h; subst h; exact ⟨Tryz.f91, by kernel_rfl, cv91⟩
    · injection h with h; injection h with h; subst h; exact ⟨Tryz.f92, by kernel_rfl, cv92⟩
    · injection h with h; injection h with h; subst h; exact ⟨Tryz.f93, by kernel_rfl, cv93⟩
    · injection h with h; injection h with h; subst h; exact ⟨Tryz.f94, by kernel_rfl, cv94⟩
    · injection h with h; injection h with h; subst h; exact ⟨Tryz.f105, by kernel_rfl, cv105⟩
    · injection h with h; injection h with h; subst h; exact ⟨Tryz.f106, by kernel_rfl, cv106⟩
    · injection h with h; injection h with h; subst h; exact ⟨Tryz.f107, by kernel_rfl, cv107⟩
    · injection h with h; injection h with h; subst h; exact ⟨Tryz.f108, by kernel_rfl, cv108⟩
    · injection h with h; injection h with h; subst h; exact ⟨Tryz.f109, by kernel_rfl, cv109⟩
    · injection h with h; injection h with h; subst h; exact ⟨Tryz.f110, by kernel_rfl, cv110⟩
    · injection h with h; injection h with h; subst h; exact ⟨Tryz.f111, by kernel_rfl, cv111⟩
    · injection h with h; injection h with h; subst h; exact ⟨Tryz.f112, by kernel_rfl, cv112⟩
    · injection h with h; injection h with h; subst h; exact ⟨Tryz.f113, by kernel_rfl, cv113⟩
    · injection h with h; injection h with h; subst h; exact ⟨Tryz.f114, by kernel_rfl, cv114⟩
    · injection h with h; injection h with h; subst h; exact ⟨Tryz.f115, by kernel_rfl, cv115⟩
    · injection h with h; injection h with h; subst h; exact ⟨Tryz.f116, by kernel_rfl, cv116⟩
    · injection h with h; injection h with h; subst h; exact ⟨Tryz.f117, by kernel_rfl, cv117⟩
    · injection h with h; injection h with h; subst h; exact ⟨Tryz.f118, by kernel_rfl, cv118⟩
    · injection h with h; injection h with h; subst h; exact ⟨Tryz.f119, by kernel_rfl, cv119⟩
    · injection h with h; injection h with h; subst h; exact ⟨Tryz.f125, by kernel_rfl, cv125⟩
    · injection h with h; injection h with h; subst h; exact ⟨Tryz.f126, by kernel_rfl, cv126⟩
    · injection h with h; injection h with h; subst h; exact ⟨Tryz.f127, by kernel_rfl, cv127⟩
    · injection h with h; injection h with h; subst h; exact ⟨Tryz.f132, by kernel_rfl, cv132⟩
    · injection h with h; injection h with h; subst h; exact ⟨Tryz.f133, by kernel_rfl, cv133⟩
    · injection h with h; injection h with h; subst h; exact ⟨Tryz.f134, by kernel_rfl, cv134⟩
    · injection h with h; injection h with h; subst h; exact ⟨Tryz.f135, by kernel_rfl, cv135⟩
    · injection h with h; injection h with h; subst h; exact ⟨Tryz.f141, by kernel_rfl, cv141⟩
    · injection h with h; injection h with h; subst h; exact ⟨Tryz.f142, by kernel_rfl, cv142⟩
    · injection h with h; injection h with h; subst h; exact ⟨Tryz.f143, by kernel_rfl, cv143⟩
    · injection h with h; injection h with h; subst h; exact ⟨Tryz.f144, by kernel_rfl, cv144⟩
    · injection h with h; injection h with h; subst h; exact ⟨Tryz.f145, by kernel_rfl, cv145⟩
    · injection h with h; injection h with h; subst h; exact ⟨Tryz.f151, by kernel_rfl, cv151⟩
    · injection h with h; injection h with h; subst h; exact ⟨Tryz.f153, by kernel_rfl, cv153⟩
    · injection h with h; injection h with h; subst h; exact ⟨Tryz.f157, by kernel_rfl, cv157⟩
    · injection h with h; injection h with h; subst h; exact ⟨Tryz.f158, by kernel_rfl, cv158⟩
    · injection h with h; injection h with h; subst h; exact ⟨Tryz.f159, by kernel_rfl, cv159⟩
    · injection h with h; injection h with h; subst h; exact ⟨Tryz.f166, by kernel_rfl, cv166⟩
    · cases h
end Go.Proofs.YtojhkbbnkhfnhaaGreatDoor
