/- The program's functions, for the ideal machine. MADE BY gen.py. -/
import Derived.Test.YtobpbjmnonbblaaDoorChecked
import Derived.Test.YtobpbjmnonbblaaDoorEngL
import Derived.Test.YtobpbjmnonbblaaDoorSrtI
namespace Go.Proofs.YtobpbjmnonbblaaDoor
set_option maxRecDepth 100000

/-- winnower/winnowerlaw16.QueryTells -/
def b5 : XC := .seq (.reg [⟨some 2, .box 24 (.t 0), none, false⟩, ⟨some 3, .box 30 (.t 1), none, false⟩, ⟨some 4, .mov (.c (.bool false)), none, false⟩] [2, 3]) (.seq (.reg [⟨some 10, .call (.c (.func 7 [] [])) [], none, false⟩, ⟨some 5, .mov (.t 10), none, false⟩] [2, 3, 5]) (.seq (.reg [⟨some 11, .load true 5 (.t 2), none, false⟩, ⟨some 12, .call (.c (.func 8 [] [])) [.t 11], none, false⟩, ⟨some 6, .mov (.t 12), none, false⟩] [2, 3, 5, 6]) (.seq (.reg [⟨some 13, .load true 6 (.t 3), none, false⟩, ⟨some 14, .call (.c (.func 9 [] [])) [.t 13], none, false⟩, ⟨some 7, .mov (.t 14), none, false⟩] [2, 3, 5, 6, 7]) (.seq (.seq (.reg [⟨some 15, .mov (.t 5), none, false⟩, ⟨some 16, .un .not (.t 15), none, false⟩, ⟨some 17, .mov (.t 16), none, false⟩, ⟨some 18, .mov (.t 6), some (17, false), false⟩, ⟨some 19, .un .not (.t 18), some (17, false), false⟩, ⟨some 20, .pick (.t 17) (.c (.bool true)) (.t 19), none, false⟩, ⟨some 21, .mov (.t 20), none, false⟩, ⟨some 22, .mov (.t 7), some (21, false), false⟩, ⟨some 23, .un .not (.t 22), some (21, false), false⟩, ⟨some 24, .pick (.t 21) (.c (.bool true)) (.t 23), none, false⟩] [2, 3, 5, 24]) (.cond (.t 24) (.seq (.reg [⟨some 25, .mov (.t 5), none, false⟩, ⟨some 4, .mov (.t 25), none, false⟩] [4]) .ret) .skip)) (.seq (.reg [⟨some 26, .load true 5 (.t 2), none, false⟩, ⟨some 27, .load true 6 (.t 3), none, false⟩, ⟨some 28, .call (.c (.func 11 [] [])) [.t 26, .t 27], none, true⟩, ⟨some 29, .load true 5 (.t 2), none, false⟩, ⟨some 30, .load true 6 (.t 3), none, false⟩, ⟨some 31, .call (.c (.func 13 [] [])) [.t 29, .t 30], none, false⟩, ⟨some 32, .call (.c (.func 12 [] [])) [.t 28, .t 31], none, false⟩, ⟨some 8, .mov (.t 32), none, false⟩] [2, 3, 8]) (.seq (.reg [⟨some 33, .load true 6 (.t 3), none, false⟩, ⟨some 34, .call (.c (.func 14 [] [])) [.t 33], none, true⟩, ⟨some 35, .load true 6 (.t 3), none, false⟩, ⟨some 36, .call (.c (.func 15 [] [])) [.t 35, .c (.int .i64 50)], none, false⟩, ⟨some 37, .call (.c (.func 12 [] [])) [.t 34, .t 36], none, false⟩, ⟨some 9, .mov (.t 37), none, false⟩] [2, 3, 8, 9]) (.seq (.reg [⟨some 38, .mov (.t 8), none, false⟩, ⟨some 39, .mov (.t 38), none, false⟩, ⟨some 40, .mov (.t 9), some (39, true), false⟩, ⟨some 41, .pick (.t 39) (.t 40) (.c (.bool false)), none, false⟩, ⟨some 42, .mov (.t 41), none, false⟩, ⟨some 43, .load true 5 (.t 2), some (42, true), false⟩, ⟨some 44, .load true 6 (.t 3), some (42, true), false⟩, ⟨some 45, .call (.c (.func 10 [] [])) [.t 43, .t 44], some (42, true), true⟩, ⟨some 46, .load true 5 (.t 2), some (42, true), false⟩, ⟨some 47, .load true 6 (.t 3), some (42, true), false⟩, ⟨some 48, .call (.c (.func 16 [] [])) [.t 46, .t 47], some (42, true), false⟩, ⟨some 49, .bin .eql (.t 45) (.t 48), some (42, true), false⟩, ⟨some 50, .pick (.t 42) (.t 49) (.c (.bool false)), none, false⟩, ⟨some 4, .mov (.t 50), none, false⟩] [4]) .ret)))))))
def x5 : XF := ⟨2, b5, [.t 4]⟩
def h5 : Hints := fun id => match id with
  | 0 => [2, 3]
  | 1 => [2, 3, 5]
  | 2 => [2, 3, 5, 6]
  | 3 => [2, 3, 5, 6, 7]
  | 4 => [2, 3, 5, 24]
  | 5 => [4]
  | 6 => [2, 3, 8]
  | 7 => [2, 3, 8, 9]
  | 8 => [4]
  | _ => []
theorem cv5 : cvF Tryd.prog h5 Tryd.f5 = some x5 := by kernel_rfl

/-- winnower/winnowerlaw16.awake -/
def b7 : XC := .seq (.reg [⟨some 0, .mov (.c (.bool false)), none, false⟩] []) (.seq (.reg [⟨some 3, .call (.c (.func 17 [] [])) [], none, false⟩, ⟨some 1, .alloc 24 [.nils, .int .i64 0, .int .i64 0, .int .i64 0, .int .i64 0], none, false⟩, ⟨none, .store 5 (.t 1) (.t 3), none, false⟩] [1]) (.seq (.reg [⟨some 4, .load true 5 (.t 1), none, false⟩, ⟨some 5, .mkslice true 3 1 [.c (.int .i64 0)], none, false⟩, ⟨some 6, .build [.nils, .nils, .nils, .nils, .nils, .int .i64 0] [(1, (1, .t 5)), (5, (1, .c (.int .i64 5)))], none, false⟩, ⟨some 7, .call (.c (.func 11 [] [])) [.t 4, .t 6], none, false⟩, ⟨some 8, .mkslice true 3 1 [.c (.int .i64 1)], none, false⟩, ⟨some 9, .call (.c (.func 12 [] [])) [.t 7, .t 8], none, false⟩, ⟨some 2, .mov (.t 9), none, false⟩] [1, 2]) (.seq (.reg [⟨some 10, .mov (.t 2), none, false⟩, ⟨some 11, .mov (.t 10), none, false⟩, ⟨some 12, .load true 5 (.t 1), some (11, true), false⟩, ⟨some 13, .mkslice true 3 1 [.c (.int .i64 0)], some (11, true), false⟩, ⟨some 14, .build [.nils, .nils, .nils, .nils, .nils, .int .i64 0] [(1, (1, .t 13)), (5, (1, .c (.int .i64 5)))], some (11, true), false⟩, ⟨some 15, .call (.c (.func 10 [] [])) [.t 12, .t 14], some (11, true), false⟩, ⟨some 16, .bin .eql (.t 15) (.c (.int .i64 0)), some (11, true), false⟩, ⟨some 17, .pick (.t 11) (.t 16) (.c (.bool false)), none, false⟩, ⟨some 18, .mov (.t 17), none, false⟩, ⟨some 19, .load true 5 (.t 1), some (18, true), false⟩, ⟨some 20, .build [.int .i64 0, .int .i64 0] [(0, (1, .c (.int .i64 2))), (1, (1, .c (.int .i64 1)))], some (18, true), false⟩, ⟨some 21, .mkslice true 51 2 [.t 20], some (18, true), false⟩, ⟨some 22, .build [.nils, .nils, .nils, .nils, .nils, .int .i64 0] [(3, (1, .t 21))], some (18, true), false⟩, ⟨some 23, .call (.c (.func 10 [] [])) [.t 19, .t 22], some (18, true), false⟩, ⟨some 24, .bin .eql (.t 23) (.c (.int .i64 9)), some (18, true), false⟩, ⟨some 25, .pick (.t 18) (.t 24) (.c (.bool false)), none, false⟩, ⟨some 0, .mov (.t 25), none, false⟩] [0]) .ret)))
def x7 : XF := ⟨0, b7, [.t 0]⟩
def h7 : Hints := fun id => match id with
  | 1 => [1]
  | 2 => [1, 2]
  | 3 => [0]
  | _ => []
theorem cv7 : cvF Tryd.prog h7 Tryd.f7 = some x7 := by kernel_rfl

/-- winnower/winnowerref07.Few -/
def lp8_0 : XC := .seq (.seq (.reg [⟨some 8, .mov (.t 3), none, false⟩, ⟨some 9, .faddr 0 (.t 1), none, false⟩, ⟨some 10, .load false 1 (.t 9), none, false⟩, ⟨some 11, .len 3 (.t 10), none, false⟩, ⟨some 12, .bin .lss (.t 8) (.t 11), none, false⟩] [1, 3, 12]) (.cond (.t 12) .skip (.exit 0))) (.seq (.block 1 (.seq (.reg [⟨some 15, .faddr 0 (.t 1), none, false⟩, ⟨some 16, .load false 1 (.t 15), none, false⟩, ⟨some 17, .mov (.t 3), none, false⟩, ⟨some 18, .iaddr 3 (.t 16) (.t 17), none, false⟩, ⟨some 19, .faddr 0 (.t 18), none, false⟩, ⟨some 20, .load false 1 (.t 19), none, false⟩, ⟨some 21, .lens (.t 20), none, false⟩, ⟨some 22, .bin .gtr (.t 21) (.c (.int .i64 100)), none, false⟩] [1, 3, 22]) (.cond (.t 22) (.seq (.reg [⟨some 2, .mov (.c (.bool false)), none, false⟩] [2]) .ret) .skip))) (.reg [⟨some 13, .mov (.t 3), none, false⟩, ⟨some 14, .bin .add (.t 13) (.c (.int .i64 1)), none, false⟩, ⟨some 3, .mov (.t 14), none, false⟩] [1, 3]))
def b8 : XC := .seq (.reg [⟨some 1, .box 24 (.t 0), none, false⟩, ⟨some 2, .mov (.c (.bool false)), none, false⟩] [1]) (.seq (.seq (.reg [⟨some 4, .faddr 0 (.t 1), none, false⟩, ⟨some 5, .load false 1 (.t 4), none, false⟩, ⟨some 6, .len 3 (.t 5), none, false⟩, ⟨some 7, .bin .gtr (.t 6) (.c (.int .i64 12)), none, false⟩] [1, 7]) (.cond (.t 7) (.seq (.reg [⟨some 2, .mov (.c (.bool false)), none, false⟩] [2]) .ret) .skip)) (.seq (.seq (.reg [⟨some 3, .mov (.c (.int .i64 0)), none, false⟩] [1, 3]) (.block 0 (.loop lp8_0))) (.seq (.reg [⟨some 2, .mov (.c (.bool true)), none, false⟩] [2]) .ret)))
def x8 : XF := ⟨1, b8, [.t 2]⟩
def h8 : Hints := fun id => match id with
  | 0 => [1]
  | 1 => [1, 7]
  | 2 => [2]
  | 3 => [1, 3]
  | 4 => [1, 3, 12]
  | 5 => [1, 3]
  | 6 => [1, 3, 22]
  | 7 => [2]
  | 8 => [2]
  | _ => []
theorem cv8 : cvF Tryd.prog h8 Tryd.f8 = some x8 := by kernel_rfl

/-- winnower/winnowerref16.Few -/
def lp9_0 : XC := .seq (.seq (.reg [⟨some 35, .mov (.t 3), none, false⟩, ⟨some 36, .faddr 0 (.t 1), none, false⟩, ⟨some 37, .load false 1 (.t 36), none, false⟩, ⟨some 38, .len 8 (.t 37), none, false⟩, ⟨some 39, .bin .lss (.t 35) (.t 38), none, false⟩] [1, 3, 39]) (.cond (.t 39) .skip (.exit 0))) (.seq (.block 1 (.seq (.reg [⟨some 42, .faddr 0 (.t 1), none, false⟩, ⟨some 43, .load false 1 (.t 42), none, false⟩, ⟨some 44, .mov (.t 3), none, false⟩, ⟨some 45, .iaddr 8 (.t 43) (.t 44), none, false⟩, ⟨some 46, .faddr 2 (.t 45), none, false⟩, ⟨some 47, .faddr 2 (.t 46), none, false⟩, ⟨some 48, .load false 1 (.t 47), none, false⟩, ⟨some 49, .lens (.t 48), none, false⟩, ⟨some 50, .bin .gtr (.t 49) (.c (.int .i64 300)), none, false⟩, ⟨some 51, .mov (.t 50), none, false⟩, ⟨some 52, .faddr 0 (.t 1), some (51, false), false⟩, ⟨some 53, .load false 1 (.t 52), some (51, false), false⟩, ⟨some 54, .mov (.t 3), some (51, false), false⟩, ⟨some 55, .iaddr 8 (.t 53) (.t 54), some (51, false), false⟩, ⟨some 56, .faddr 1 (.t 55), some (51, false), false⟩, ⟨some 57, .load false 1 (.t 56), some (51, false), false⟩, ⟨some 58, .bin .geq (.t 57) (.c (.int .i64 50)), some (51, false), false⟩, ⟨some 59, .pick (.t 51) (.c (.bool true)) (.t 58), none, false⟩] [1, 3, 59]) (.cond (.t 59) (.seq (.reg [⟨some 2, .mov (.c (.bool false)), none, false⟩] [2]) .ret) .skip))) (.reg [⟨some 40, .mov (.t 3), none, false⟩, ⟨some 41, .bin .add (.t 40) (.c (.int .i64 1)), none, false⟩, ⟨some 3, .mov (.t 41), none, false⟩] [1, 3]))
def lp9_1 : XC := .seq (.seq (.reg [⟨some 60, .mov (.t 4), none, false⟩, ⟨some 61, .faddr 1 (.t 1), none, false⟩, ⟨some 62, .load false 1 (.t 61), none, false⟩, ⟨some 63, .len 1 (.t 62), none, false⟩, ⟨some 64, .bin .lss (.t 60) (.t 63), none, false⟩] [1, 4, 64]) (.cond (.t 64) .skip (.exit 2))) (.seq (.block 3 (.seq (.reg [⟨some 67, .faddr 1 (.t 1), none, false⟩, ⟨some 68, .load false 1 (.t 67), none, false⟩, ⟨some 69, .mov (.t 4), none, false⟩, ⟨some 70, .iaddr 1 (.t 68) (.t 69), none, false⟩, ⟨some 71, .load false 1 (.t 70), none, false⟩, ⟨some 72, .bin .geq (.t 71) (.c (.int .i64 50)), none, false⟩] [1, 4, 72]) (.cond (.t 72) (.seq (.reg [⟨some 2, .mov (.c (.bool false)), none, false⟩] [2]) .ret) .skip))) (.reg [⟨some 65, .mov (.t 4), none, false⟩, ⟨some 66, .bin .add (.t 65) (.c (.int .i64 1)), none, false⟩, ⟨some 4, .mov (.t 66), none, false⟩] [1, 4]))
def lp9_2 : XC := .seq (.seq (.reg [⟨some 73, .mov (.t 5), none, false⟩, ⟨some 74, .faddr 2 (.t 1), none, false⟩, ⟨some 75, .load false 1 (.t 74), none, false⟩, ⟨some 76, .len 1 (.t 75), none, false⟩, ⟨some 77, .bin .lss (.t 73) (.t 76), none, false⟩] [1, 5, 77]) (.cond (.t 77) .skip (.exit 4))) (.seq (.block 5 (.seq (.reg [⟨some 80, .faddr 2 (.t 1), none, false⟩, ⟨some 81, .load false 1 (.t 80), none, false⟩, ⟨some 82, .mov (.t 5), none, false⟩, ⟨some 83, .iaddr 1 (.t 81) (.t 82), none, false⟩, ⟨some 84, .load false 1 (.t 83), none, false⟩, ⟨some 85, .bin .geq (.t 84) (.c (.int .i64 50)), none, false⟩] [1, 5, 85]) (.cond (.t 85) (.seq (.reg [⟨some 2, .mov (.c (.bool false)), none, false⟩] [2]) .ret) .skip))) (.reg [⟨some 78, .mov (.t 5), none, false⟩, ⟨some 79, .bin .add (.t 78) (.c (.int .i64 1)), none, false⟩, ⟨some 5, .mov (.t 79), none, false⟩] [1, 5]))
def lp9_3 : XC := .seq (.seq (.reg [⟨some 86, .mov (.t 6), none, false⟩, ⟨some 87, .faddr 3 (.t 1), none, false⟩, ⟨some 88, .load false 1 (.t 87), none, false⟩, ⟨some 89, .len 2 (.t 88), none, false⟩, ⟨some 90, .bin .lss (.t 86) (.t 89), none, false⟩] [1, 6, 90]) (.cond (.t 90) .skip (.exit 6))) (.seq (.block 7 (.seq (.reg [⟨some 93, .faddr 3 (.t 1), none, false⟩, ⟨some 94, .load false 1 (.t 93), none, false⟩, ⟨some 95, .mov (.t 6), none, false⟩, ⟨some 96, .iaddr 2 (.t 94) (.t 95), none, false⟩, ⟨some 97, .faddr 1 (.t 96), none, false⟩, ⟨some 98, .load false 1 (.t 97), none, false⟩, ⟨some 99, .bin .geq (.t 98) (.c (.int .i64 50)), none, false⟩] [1, 6, 99]) (.cond (.t 99) (.seq (.reg [⟨some 2, .mov (.c (.bool false)), none, false⟩] [2]) .ret) .skip))) (.reg [⟨some 91, .mov (.t 6), none, false⟩, ⟨some 92, .bin .add (.t 91) (.c (.int .i64 1)), none, false⟩, ⟨some 6, .mov (.t 92), none, false⟩] [1, 6]))
def b9 : XC := .seq (.reg [⟨some 1, .box 30 (.t 0), none, false⟩, ⟨some 2, .mov (.c (.bool false)), none, false⟩] [1]) (.seq (.seq (.reg [⟨some 7, .faddr 0 (.t 1), none, false⟩, ⟨some 8, .load false 1 (.t 7), none, false⟩, ⟨some 9, .len 8 (.t 8), none, false⟩, ⟨some 10, .bin .gtr (.t 9) (.c (.int .i64 60)), none, false⟩, ⟨some 11, .mov (.t 10), none, false⟩, ⟨some 12, .faddr 1 (.t 1), some (11, false), false⟩, ⟨some 13, .load false 1 (.t 12), some (11, false), false⟩, ⟨some 14, .len 1 (.t 13), some (11, false), false⟩, ⟨some 15, .bin .gtr (.t 14) (.c (.int .i64 20)), some (11, false), false⟩, ⟨some 16, .pick (.t 11) (.c (.bool true)) (.t 15), none, false⟩, ⟨some 17, .mov (.t 16), none, false⟩, ⟨some 18, .faddr 2 (.t 1), some (17, false), false⟩, ⟨some 19, .load false 1 (.t 18), some (17, false), false⟩, ⟨some 20, .len 1 (.t 19), some (17, false), false⟩, ⟨some 21, .bin .gtr (.t 20) (.c (.int .i64 20)), some (17, false), false⟩, ⟨some 22, .pick (.t 17) (.c (.bool true)) (.t 21), none, false⟩, ⟨some 23, .mov (.t 22), none, false⟩, ⟨some 24, .faddr 3 (.t 1), some (23, false), false⟩, ⟨some 25, .load false 1 (.t 24), some (23, false), false⟩, ⟨some 26, .len 2 (.t 25), some (23, false), false⟩, ⟨some 27, .bin .gtr (.t 26) (.c (.int .i64 20)), some (23, false), false⟩, ⟨some 28, .pick (.t 23) (.c (.bool true)) (.t 27), none, false⟩, ⟨some 29, .mov (.t 28), none, false⟩, ⟨some 30, .faddr 4 (.t 1), some (29, false), false⟩, ⟨some 31, .load false 1 (.t 30), some (29, false), false⟩, ⟨some 32, .len 2 (.t 31), some (29, false), false⟩, ⟨some 33, .bin .gtr (.t 32) (.c (.int .i64 20)), some (29, false), false⟩, ⟨some 34, .pick (.t 29) (.c (.bool true)) (.t 33), none, false⟩] [1, 34]) (.cond (.t 34) (.seq (.reg [⟨some 2, .mov (.c (.bool false)), none, false⟩] [2]) .ret) .skip)) (.seq (.seq (.reg [⟨some 3, .mov (.c (.int .i64 0)), none, false⟩] [1, 3]) (.block 0 (.loop lp9_0))) (.seq (.seq (.reg [⟨some 4, .mov (.c (.int .i64 0)), none, false⟩] [1, 4]) (.block 2 (.loop lp9_1))) (.seq (.seq (.reg [⟨some 5, .mov (.c (.int .i64 0)), none, false⟩] [1, 5]) (.block 4 (.loop lp9_2))) (.seq (.seq (.reg [⟨some 6, .mov (.c (.int .i64 0)), none, false⟩] [1, 6]) (.block 6 (.loop lp9_3))) (.seq (.reg [⟨some 2, .mov (.c (.bool true)), none, false⟩] [2]) .ret))))))
def x9 : XF := ⟨1, b9, [.t 2]⟩
def h9 : Hints := fun id => match id with
  | 0 => [1]
  | 1 => [1, 34]
  | 2 => [2]
  | 3 => [1, 3]
  | 4 => [1, 3, 39]
  | 5 => [1, 3]
  | 6 => [1, 3, 59]
  | 7 => [2]
  | 8 => [1, 4]
  | 9 => [1, 4, 64]
  | 10 => [1, 4]
  | 11 => [1, 4, 72]
  | 12 => [2]
  | 13 => [1, 5]
  | 14 => [1, 5, 77]
  | 15 => [1, 5]
  | 16 => [1, 5, 85]
  | 17 => [2]
  | 18 => [1, 6]
  | 19 => [1, 6, 90]
  | 20 => [1, 6]
  | 21 => [1, 6, 99]
  | 22 => [2]
  | 23 => [2]
  | _ => []
theorem cv9 : cvF Tryd.prog h9 Tryd.f9 = some x9 := by kernel_rfl

/-- winnower/query.Check -/
def lp10_0 : XC := .seq (.reg [⟨some 36, .bin .lss (.t 35) (.t 34), none, false⟩] [2, 3, 33, 34, 35, 36]) (.seq (.cond (.t 36) .skip (.exit 1)) (.seq (.block 2 (.seq (.reg [⟨some 37, .iaddr 2 (.t 33) (.t 35), none, false⟩, ⟨some 38, .load true 2 (.t 37), none, false⟩, ⟨some 7, .alloc 51 [.int .i64 0, .int .i64 0], none, false⟩, ⟨none, .store 2 (.t 7) (.t 38), none, false⟩] [2, 3, 7, 33, 34, 35]) (.seq (.reg [⟨some 39, .load true 5 (.t 2), none, false⟩, ⟨some 40, .load true 2 (.t 7), none, false⟩, ⟨some 41, .call (.c (.func 25 [] [])) [.t 39, .t 40], none, false⟩, ⟨some 8, .mov (.t 41), none, false⟩] [2, 3, 8, 33, 34, 35]) (.seq (.reg [⟨some 42, .mov (.t 8), none, false⟩, ⟨some 43, .bin .neq (.t 42) (.c (.int .i64 0)), none, false⟩] [2, 3, 8, 33, 34, 35, 43]) (.cond (.t 43) (.seq (.reg [⟨some 44, .mov (.t 8), none, false⟩, ⟨some 4, .mov (.t 44), none, false⟩] [4]) .ret) .skip))))) (.reg [⟨some 45, .bin .add (.t 35) (.c (.int .i64 1)), none, false⟩, ⟨some 35, .mov (.t 45), none, false⟩] [2, 3, 33, 34, 35])))
def b10 : XC := .seq (.reg [⟨some 2, .box 24 (.t 0), none, false⟩, ⟨some 3, .box 30 (.t 1), none, false⟩, ⟨some 4, .mov (.c (.int .i64 0)), none, false⟩] [2, 3]) (.seq (.block 0 (.seq (.reg [⟨some 11, .load true 5 (.t 2), none, false⟩, ⟨some 12, .call (.c (.func 18 [] [])) [.t 11], none, false⟩, ⟨some 13, .un .not (.t 12), none, false⟩, ⟨some 10, .mov (.t 13), none, false⟩] [2, 3, 10]) (.cond (.t 10) (.seq (.reg [⟨some 4, .mov (.c (.int .i64 1)), none, false⟩] [4]) .ret) (.seq (.reg [⟨some 15, .load true 6 (.t 3), none, false⟩, ⟨some 16, .call (.c (.func 19 [] [])) [.t 15], none, false⟩, ⟨some 14, .mov (.t 16), none, false⟩] [2, 3, 14]) (.cond (.t 14) (.seq (.reg [⟨some 4, .mov (.c (.int .i64 2)), none, false⟩] [4]) .ret) .skip))))) (.seq (.seq (.reg [⟨some 17, .load true 5 (.t 2), none, false⟩, ⟨some 18, .faddr 0 (.t 3), none, false⟩, ⟨some 19, .load false 1 (.t 18), none, false⟩, ⟨some 20, .call (.c (.func 20 [] [])) [.t 17, .t 19], none, false⟩, ⟨some 5, .mov (.t 20), none, false⟩] [2, 3, 5]) (.seq (.reg [⟨some 21, .mov (.t 5), none, false⟩, ⟨some 22, .bin .neq (.t 21) (.c (.int .i64 0)), none, false⟩] [2, 3, 5, 22]) (.cond (.t 22) (.seq (.reg [⟨some 23, .mov (.t 5), none, false⟩, ⟨some 4, .mov (.t 23), none, false⟩] [4]) .ret) .skip))) (.seq (.seq (.reg [⟨some 24, .faddr 1 (.t 3), none, false⟩, ⟨some 25, .load false 1 (.t 24), none, false⟩, ⟨some 26, .faddr 2 (.t 3), none, false⟩, ⟨some 27, .load false 1 (.t 26), none, false⟩, ⟨some 28, .mkslice true 26 1 [.t 25, .t 27], none, false⟩, ⟨some 29, .call (.c (.func 22 [] [])) [.t 28], none, false⟩, ⟨some 30, .mkfn 23 [] [.t 2], none, false⟩, ⟨some 31, .call (.c (.func 21 [] [])) [.t 29, .t 30], none, false⟩] [2, 3, 31]) (.cond (.t 31) (.seq (.reg [⟨some 4, .mov (.c (.int .i64 3)), none, false⟩] [4]) .ret) .skip)) (.seq (.seq (.reg [⟨some 32, .faddr 3 (.t 3), none, false⟩, ⟨some 33, .load false 1 (.t 32), none, false⟩, ⟨some 34, .len 2 (.t 33), none, false⟩, ⟨some 35, .mov (.c (.int .i64 0)), none, false⟩] [2, 3, 33, 34, 35]) (.block 1 (.loop lp10_0))) (.seq (.reg [⟨some 46, .faddr 2 (.t 3), none, false⟩, ⟨some 47, .load false 1 (.t 46), none, false⟩, ⟨some 48, .len 1 (.t 47), none, false⟩, ⟨some 49, .faddr 3 (.t 3), none, false⟩, ⟨some 50, .load false 1 (.t 49), none, false⟩, ⟨some 51, .len 2 (.t 50), none, false⟩, ⟨some 52, .bin .add (.t 48) (.t 51), none, false⟩, ⟨some 53, .bin .gtr (.t 52) (.c (.int .i64 0)), none, false⟩, ⟨some 9, .mov (.t 53), none, false⟩] [3, 9]) (.seq (.seq (.reg [⟨some 54, .mov (.t 9), none, false⟩, ⟨some 55, .faddr 1 (.t 3), none, false⟩, ⟨some 56, .load false 1 (.t 55), none, false⟩, ⟨some 57, .len 1 (.t 56), none, false⟩, ⟨some 58, .bin .gtr (.t 57) (.c (.int .i64 0)), none, false⟩, ⟨some 59, .eqk 0 false (.t 54) (.t 58), none, false⟩] [3, 59]) (.cond (.t 59) (.seq (.reg [⟨some 4, .mov (.c (.int .i64 5)), none, false⟩] [4]) .ret) .skip)) (.seq (.seq (.reg [⟨some 60, .faddr 4 (.t 3), none, false⟩, ⟨some 61, .load false 1 (.t 60), none, false⟩, ⟨some 62, .mkfn 27 [] [.t 3], none, false⟩, ⟨some 63, .call (.c (.func 26 [] [])) [.t 61, .t 62], none, false⟩] [63]) (.cond (.t 63) (.seq (.reg [⟨some 4, .mov (.c (.int .i64 3)), none, false⟩] [4]) .ret) .skip)) (.seq (.reg [⟨some 4, .mov (.c (.int .i64 0)), none, false⟩] [4]) .ret))))))))
def x10 : XF := ⟨2, b10, [.t 4]⟩
def h10 : Hints := fun id => match id with
  | 0 => [2, 3]
  | 1 => [2, 3, 10]
  | 2 => [4]
  | 3 => [2, 3, 14]
  | 4 => [4]
  | 5 => [2, 3, 5]
  | 6 => [2, 3, 5, 22]
  | 7 => [4]
  | 8 => [2, 3, 31]
  | 9 => [4]
  | 10 => [2, 3, 33, 34, 35]
  | 11 => [2, 3, 33, 34, 35, 36]
  | 12 => [2, 3, 7, 33, 34, 35]
  | 13 => [2, 3, 8, 33, 34, 35]
  | 14 => [2, 3, 8, 33, 34, 35, 43]
  | 15 => [4]
  | 16 => [2, 3, 33, 34, 35]
  | 17 => [3, 9]
  | 18 => [3, 59]
  | 19 => [4]
  | 20 => [63]
  | 21 => [4]
  | 22 => [4]
  | _ => []
theorem cv10 : cvF Tryd.prog h10 Tryd.f10 = some x10 := by kernel_rfl

/-- winnower/query.Outs -/
def lp11_0 : XC := .seq (.reg [⟨some 23, .bin .lss (.t 22) (.t 21), none, false⟩] [2, 3, 5, 20, 21, 22, 23]) (.seq (.cond (.t 23) .skip (.exit 0)) (.seq (.block 1 (.seq (.reg [⟨some 24, .iaddr 1 (.t 20) (.t 22), none, false⟩, ⟨some 25, .load false 1 (.t 24), none, false⟩, ⟨some 7, .mov (.t 25), none, false⟩] [2, 3, 5, 7, 20, 21, 22]) (.reg [⟨some 26, .mov (.t 5), none, false⟩, ⟨some 27, .faddr 0 (.t 2), none, false⟩, ⟨some 28, .load false 1 (.t 27), none, false⟩, ⟨some 29, .mov (.t 7), none, false⟩, ⟨some 30, .iaddr 3 (.t 28) (.t 29), none, false⟩, ⟨some 31, .faddr 1 (.t 30), none, false⟩, ⟨some 32, .load false 1 (.t 31), none, false⟩, ⟨some 33, .mkslice true 3 1 [.t 32], none, false⟩, ⟨some 34, .app 3 1 8 (.t 26) (.t 33), none, false⟩, ⟨some 5, .mov (.t 34), none, false⟩] [2, 3, 5, 20, 21, 22]))) (.reg [⟨some 35, .bin .add (.t 22) (.c (.int .i64 1)), none, false⟩, ⟨some 22, .mov (.t 35), none, false⟩] [2, 3, 5, 20, 21, 22])))
def lp11_1 : XC := .seq (.reg [⟨some 40, .bin .lss (.t 39) (.t 38), none, false⟩] [2, 5, 37, 38, 39, 40]) (.seq (.cond (.t 40) .skip (.exit 2)) (.seq (.block 3 (.seq (.reg [⟨some 41, .iaddr 2 (.t 37) (.t 39), none, false⟩, ⟨some 42, .load true 2 (.t 41), none, false⟩, ⟨some 9, .alloc 51 [.int .i64 0, .int .i64 0], none, false⟩, ⟨none, .store 2 (.t 9) (.t 42), none, false⟩] [2, 5, 9, 37, 38, 39]) (.seq (.reg [⟨some 10, .mov (.c (.int .i64 1)), none, false⟩] [2, 5, 9, 10, 37, 38, 39]) (.seq (.seq (.reg [⟨some 43, .faddr 0 (.t 9), none, false⟩, ⟨some 44, .load false 1 (.t 43), none, false⟩, ⟨some 45, .bin .eql (.t 44) (.c (.int .i64 3)), none, false⟩, ⟨some 46, .mov (.t 45), none, false⟩, ⟨some 47, .faddr 0 (.t 9), some (46, false), false⟩, ⟨some 48, .load false 1 (.t 47), some (46, false), false⟩, ⟨some 49, .bin .eql (.t 48) (.c (.int .i64 4)), some (46, false), false⟩, ⟨some 50, .pick (.t 46) (.c (.bool true)) (.t 49), none, false⟩] [2, 5, 9, 10, 37, 38, 39, 50]) (.cond (.t 50) (.reg [⟨some 51, .faddr 0 (.t 2), none, false⟩, ⟨some 52, .load false 1 (.t 51), none, false⟩, ⟨some 53, .faddr 1 (.t 9), none, false⟩, ⟨some 54, .load false 1 (.t 53), none, false⟩, ⟨some 55, .iaddr 3 (.t 52) (.t 54), none, false⟩, ⟨some 56, .faddr 1 (.t 55), none, false⟩, ⟨some 57, .load false 1 (.t 56), none, false⟩, ⟨some 10, .mov (.t 57), none, false⟩] [2, 5, 10, 37, 38, 39]) .skip)) (.reg [⟨some 58, .mov (.t 5), none, false⟩, ⟨some 59, .mov (.t 10), none, false⟩, ⟨some 60, .mkslice true 3 1 [.t 59], none, false⟩, ⟨some 61, .app 3 1 8 (.t 58) (.t 60), none, false⟩, ⟨some 5, .mov (.t 61), none, false⟩] [2, 5, 37, 38, 39]))))) (.reg [⟨some 62, .bin .add (.t 39) (.c (.int .i64 1)), none, false⟩, ⟨some 39, .mov (.t 62), none, false⟩] [2, 5, 37, 38, 39])))
def b11 : XC := .seq (.reg [⟨some 2, .box 24 (.t 0), none, false⟩, ⟨some 3, .box 30 (.t 1), none, false⟩, ⟨some 4, .mov (.c .nils), none, false⟩] [2, 3]) (.seq (.seq (.reg [⟨some 11, .load true 5 (.t 2), none, false⟩, ⟨some 12, .load true 6 (.t 3), none, false⟩, ⟨some 13, .call (.c (.func 10 [] [])) [.t 11, .t 12], none, false⟩, ⟨some 14, .bin .neq (.t 13) (.c (.int .i64 0)), none, false⟩] [2, 3, 14]) (.cond (.t 14) (.seq (.reg [⟨some 4, .mov (.c .nils), none, false⟩] [4]) .ret) .skip)) (.seq (.reg [⟨some 5, .mov (.c .nils), none, false⟩] [2, 3, 5]) (.seq (.seq (.reg [⟨some 15, .faddr 1 (.t 3), none, false⟩, ⟨some 16, .load false 1 (.t 15), none, false⟩, ⟨some 17, .faddr 2 (.t 3), none, false⟩, ⟨some 18, .load false 1 (.t 17), none, false⟩, ⟨some 19, .mkslice true 26 1 [.t 16, .t 18], none, false⟩, ⟨some 20, .call (.c (.func 22 [] [])) [.t 19], none, false⟩, ⟨some 21, .len 1 (.t 20), none, false⟩, ⟨some 22, .mov (.c (.int .i64 0)), none, false⟩] [2, 3, 5, 20, 21, 22]) (.block 0 (.loop lp11_0))) (.seq (.seq (.reg [⟨some 36, .faddr 3 (.t 3), none, false⟩, ⟨some 37, .load false 1 (.t 36), none, false⟩, ⟨some 38, .len 2 (.t 37), none, false⟩, ⟨some 39, .mov (.c (.int .i64 0)), none, false⟩] [2, 5, 37, 38, 39]) (.block 2 (.loop lp11_1))) (.seq (.reg [⟨some 63, .mov (.t 5), none, false⟩, ⟨some 4, .mov (.t 63), none, false⟩] [4]) .ret)))))
def x11 : XF := ⟨2, b11, [.t 4]⟩
def h11 : Hints := fun id => match id with
  | 0 => [2, 3]
  | 1 => [2, 3, 14]
  | 2 => [4]
  | 3 => [2, 3, 5]
  | 4 => [2, 3, 5, 20, 21, 22]
  | 5 => [2, 3, 5, 20, 21, 22, 23]
  | 6 => [2, 3, 5, 7, 20, 21, 22]
  | 7 => [2, 3, 5, 20, 21, 22]
  | 8 => [2, 3, 5, 20, 21, 22]
  | 9 => [2, 5, 37, 38, 39]
  | 10 => [2, 5, 37, 38, 39, 40]
  | 11 => [2, 5, 9, 37, 38, 39]
  | 12 => [2, 5, 9, 10, 37, 38, 39]
  | 13 => [2, 5, 9, 10, 37, 38, 39, 50]
  | 14 => [2, 5, 10, 37, 38, 39]
  | 15 => [2, 5, 37, 38, 39]
  | 16 => [2, 5, 37, 38, 39]
  | 17 => [4]
  | _ => []
theorem cv11 : cvF Tryd.prog h11 Tryd.f11 = some x11 := by kernel_rfl

/-- winnower/winnowerref01.Ints -/
def lp12_0 : XC := .seq (.seq (.reg [⟨some 11, .mov (.t 5), none, false⟩, ⟨some 12, .mov (.t 0), none, false⟩, ⟨some 13, .len 1 (.t 12), none, false⟩, ⟨some 14, .bin .lss (.t 11) (.t 13), none, false⟩] [0, 1, 5, 14]) (.cond (.t 14) .skip (.exit 0))) (.seq (.block 1 (.seq (.reg [⟨some 17, .mov (.t 0), none, false⟩, ⟨some 18, .mov (.t 5), none, false⟩, ⟨some 19, .iaddr 1 (.t 17) (.t 18), none, false⟩, ⟨some 20, .load false 1 (.t 19), none, false⟩, ⟨some 21, .mov (.t 1), none, false⟩, ⟨some 22, .mov (.t 5), none, false⟩, ⟨some 23, .iaddr 1 (.t 21) (.t 22), none, false⟩, ⟨some 24, .load false 1 (.t 23), none, false⟩, ⟨some 25, .bin .neq (.t 20) (.t 24), none, false⟩] [0, 1, 5, 25]) (.cond (.t 25) (.seq (.reg [⟨some 4, .mov (.c (.bool false)), none, false⟩] [4]) .ret) .skip))) (.reg [⟨some 15, .mov (.t 5), none, false⟩, ⟨some 16, .bin .add (.t 15) (.c (.int .i64 1)), none, false⟩, ⟨some 5, .mov (.t 16), none, false⟩] [0, 1, 5]))
def b12 : XC := .seq (.reg [⟨some 4, .mov (.c (.bool false)), none, false⟩] [0, 1]) (.seq (.seq (.reg [⟨some 6, .mov (.t 0), none, false⟩, ⟨some 7, .len 1 (.t 6), none, false⟩, ⟨some 8, .mov (.t 1), none, false⟩, ⟨some 9, .len 1 (.t 8), none, false⟩, ⟨some 10, .bin .neq (.t 7) (.t 9), none, false⟩] [0, 1, 10]) (.cond (.t 10) (.seq (.reg [⟨some 4, .mov (.c (.bool false)), none, false⟩] [4]) .ret) .skip)) (.seq (.seq (.reg [⟨some 5, .mov (.c (.int .i64 0)), none, false⟩] [0, 1, 5]) (.block 0 (.loop lp12_0))) (.seq (.reg [⟨some 4, .mov (.c (.bool true)), none, false⟩] [4]) .ret)))
def x12 : XF := ⟨2, b12, [.t 4]⟩
def h12 : Hints := fun id => match id with
  | 0 => [0, 1]
  | 1 => [0, 1, 10]
  | 2 => [4]
  | 3 => [0, 1, 5]
  | 4 => [0, 1, 5, 14]
  | 5 => [0, 1, 5]
  | 6 => [0, 1, 5, 25]
  | 7 => [4]
  | 8 => [4]
  | _ => []
theorem cv12 : cvF Tryd.prog h12 Tryd.f12 = some x12 := by kernel_rfl

/-- winnower/winnowerref16.Outs -/
def lp13_0 : XC := .seq (.seq (.reg [⟨some 16, .mov (.t 7), none, false⟩, ⟨some 17, .faddr 1 (.t 3), none, false⟩, ⟨some 18, .load false 1 (.t 17), none, false⟩, ⟨some 19, .len 1 (.t 18), none, false⟩, ⟨some 20, .bin .lss (.t 16) (.t 19), none, false⟩] [2, 3, 6, 7, 20]) (.cond (.t 20) .skip (.exit 0))) (.seq (.block 1 (.reg [⟨some 23, .mov (.t 6), none, false⟩, ⟨some 24, .faddr 0 (.t 2), none, false⟩, ⟨some 25, .load false 1 (.t 24), none, false⟩, ⟨some 26, .faddr 1 (.t 3), none, false⟩, ⟨some 27, .load false 1 (.t 26), none, false⟩, ⟨some 28, .mov (.t 7), none, false⟩, ⟨some 29, .iaddr 1 (.t 27) (.t 28), none, false⟩, ⟨some 30, .load false 1 (.t 29), none, false⟩, ⟨some 31, .iaddr 3 (.t 25) (.t 30), none, false⟩, ⟨some 32, .faddr 1 (.t 31), none, false⟩, ⟨some 33, .load false 1 (.t 32), none, false⟩, ⟨some 34, .mkslice true 3 1 [.t 33], none, false⟩, ⟨some 35, .app 3 1 8 (.t 23) (.t 34), none, false⟩, ⟨some 6, .mov (.t 35), none, false⟩] [2, 3, 6, 7])) (.reg [⟨some 21, .mov (.t 7), none, false⟩, ⟨some 22, .bin .add (.t 21) (.c (.int .i64 1)), none, false⟩, ⟨some 7, .mov (.t 22), none, false⟩] [2, 3, 6, 7]))
def lp13_1 : XC := .seq (.seq (.reg [⟨some 36, .mov (.t 8), none, false⟩, ⟨some 37, .faddr 2 (.t 3), none, false⟩, ⟨some 38, .load false 1 (.t 37), none, false⟩, ⟨some 39, .len 1 (.t 38), none, false⟩, ⟨some 40, .bin .lss (.t 36) (.t 39), none, false⟩] [2, 3, 6, 8, 40]) (.cond (.t 40) .skip (.exit 2))) (.seq (.block 3 (.reg [⟨some 43, .mov (.t 6), none, false⟩, ⟨some 44, .faddr 0 (.t 2), none, false⟩, ⟨some 45, .load false 1 (.t 44), none, false⟩, ⟨some 46, .faddr 2 (.t 3), none, false⟩, ⟨some 47, .load false 1 (.t 46), none, false⟩, ⟨some 48, .mov (.t 8), none, false⟩, ⟨some 49, .iaddr 1 (.t 47) (.t 48), none, false⟩, ⟨some 50, .load false 1 (.t 49), none, false⟩, ⟨some 51, .iaddr 3 (.t 45) (.t 50), none, false⟩, ⟨some 52, .faddr 1 (.t 51), none, false⟩, ⟨some 53, .load false 1 (.t 52), none, false⟩, ⟨some 54, .mkslice true 3 1 [.t 53], none, false⟩, ⟨some 55, .app 3 1 8 (.t 43) (.t 54), none, false⟩, ⟨some 6, .mov (.t 55), none, false⟩] [2, 3, 6, 8])) (.reg [⟨some 41, .mov (.t 8), none, false⟩, ⟨some 42, .bin .add (.t 41) (.c (.int .i64 1)), none, false⟩, ⟨some 8, .mov (.t 42), none, false⟩] [2, 3, 6, 8]))
def lp13_2 : XC := .seq (.seq (.reg [⟨some 56, .mov (.t 9), none, false⟩, ⟨some 57, .faddr 3 (.t 3), none, false⟩, ⟨some 58, .load false 1 (.t 57), none, false⟩, ⟨some 59, .len 2 (.t 58), none, false⟩, ⟨some 60, .bin .lss (.t 56) (.t 59), none, false⟩] [2, 3, 6, 9, 60]) (.cond (.t 60) .skip (.exit 4))) (.seq (.block 5 (.seq (.reg [⟨some 63, .faddr 3 (.t 3), none, false⟩, ⟨some 64, .load false 1 (.t 63), none, false⟩, ⟨some 65, .mov (.t 9), none, false⟩, ⟨some 66, .iaddr 2 (.t 64) (.t 65), none, false⟩, ⟨some 67, .load true 2 (.t 66), none, false⟩, ⟨some 10, .alloc 51 [.int .i64 0, .int .i64 0], none, false⟩, ⟨none, .store 2 (.t 10) (.t 67), none, false⟩] [2, 3, 6, 9, 10]) (.seq (.reg [⟨some 68, .faddr 0 (.t 10), none, false⟩, ⟨some 69, .load false 1 (.t 68), none, false⟩, ⟨some 70, .bin .eql (.t 69) (.c (.int .i64 3)), none, false⟩, ⟨some 71, .mov (.t 70), none, false⟩, ⟨some 72, .faddr 0 (.t 10), some (71, false), false⟩, ⟨some 73, .load false 1 (.t 72), some (71, false), false⟩, ⟨some 74, .bin .eql (.t 73) (.c (.int .i64 4)), some (71, false), false⟩, ⟨some 75, .pick (.t 71) (.c (.bool true)) (.t 74), none, false⟩] [2, 3, 6, 9, 10, 75]) (.cond (.t 75) (.reg [⟨some 76, .mov (.t 6), none, false⟩, ⟨some 77, .faddr 0 (.t 2), none, false⟩, ⟨some 78, .load false 1 (.t 77), none, false⟩, ⟨some 79, .faddr 1 (.t 10), none, false⟩, ⟨some 80, .load false 1 (.t 79), none, false⟩, ⟨some 81, .iaddr 3 (.t 78) (.t 80), none, false⟩, ⟨some 82, .faddr 1 (.t 81), none, false⟩, ⟨some 83, .load false 1 (.t 82), none, false⟩, ⟨some 84, .mkslice true 3 1 [.t 83], none, false⟩, ⟨some 85, .app 3 1 8 (.t 76) (.t 84), none, false⟩, ⟨some 6, .mov (.t 85), none, false⟩] [2, 3, 6, 9]) (.reg [⟨some 86, .mov (.t 6), none, false⟩, ⟨some 87, .mkslice true 3 1 [.c (.int .i64 1)], none, false⟩, ⟨some 88, .app 3 1 8 (.t 86) (.t 87), none, false⟩, ⟨some 6, .mov (.t 88), none, false⟩] [2, 3, 6, 9]))))) (.reg [⟨some 61, .mov (.t 9), none, false⟩, ⟨some 62, .bin .add (.t 61) (.c (.int .i64 1)), none, false⟩, ⟨some 9, .mov (.t 62), none, false⟩] [2, 3, 6, 9]))
def b13 : XC := .seq (.reg [⟨some 2, .box 24 (.t 0), none, false⟩, ⟨some 3, .box 30 (.t 1), none, false⟩, ⟨some 4, .mov (.c .nils), none, false⟩] [2, 3]) (.seq (.reg [⟨some 11, .load true 5 (.t 2), none, false⟩, ⟨some 12, .load true 6 (.t 3), none, false⟩, ⟨some 13, .call (.c (.func 16 [] [])) [.t 11, .t 12], none, false⟩, ⟨some 5, .mov (.t 13), none, false⟩] [2, 3, 5]) (.seq (.seq (.reg [⟨some 14, .mov (.t 5), none, false⟩, ⟨some 15, .bin .neq (.t 14) (.c (.int .i64 0)), none, false⟩] [2, 3, 15]) (.cond (.t 15) (.seq (.reg [⟨some 4, .mov (.c .nils), none, false⟩] [4]) .ret) .skip)) (.seq (.reg [⟨some 6, .mov (.c .nils), none, false⟩] [2, 3, 6]) (.seq (.seq (.reg [⟨some 7, .mov (.c (.int .i64 0)), none, false⟩] [2, 3, 6, 7]) (.block 0 (.loop lp13_0))) (.seq (.seq (.reg [⟨some 8, .mov (.c (.int .i64 0)), none, false⟩] [2, 3, 6, 8]) (.block 2 (.loop lp13_1))) (.seq (.seq (.reg [⟨some 9, .mov (.c (.int .i64 0)), none, false⟩] [2, 3, 6, 9]) (.block 4 (.loop lp13_2))) (.seq (.reg [⟨some 89, .mov (.t 6), none, false⟩, ⟨some 4, .mov (.t 89), none, false⟩] [4]) .ret)))))))
def x13 : XF := ⟨2, b13, [.t 4]⟩
def h13 : Hints := fun id => match id with
  | 0 => [2, 3]
  | 1 => [2, 3, 5]
  | 2 => [2, 3, 15]
  | 3 => [4]
  | 4 => [2, 3, 6]
  | 5 => [2, 3, 6, 7]
  | 6 => [2, 3, 6, 7, 20]
  | 7 => [2, 3, 6, 7]
  | 8 => [2, 3, 6, 7]
  | 9 => [2, 3, 6, 8]
  | 10 => [2, 3, 6, 8, 40]
  | 11 => [2, 3, 6, 8]
  | 12 => [2, 3, 6, 8]
  | 13 => [2, 3, 6, 9]
  | 14 => [2, 3, 6, 9, 60]
  | 15 => [2, 3, 6, 9]
  | 16 => [2, 3, 6, 9, 10]
  | 17 => [2, 3, 6, 9, 10, 75]
  | 18 => [2, 3, 6, 9]
  | 19 => [2, 3, 6, 9]
  | 20 => [4]
  | _ => []
theorem cv13 : cvF Tryd.prog h13 Tryd.f13 = some x13 := by kernel_rfl

/-- winnower/query.Uses -/
def lp14_0 : XC := .seq (.reg [⟨some 19, .bin .lss (.t 18) (.t 17), none, false⟩] [1, 3, 16, 17, 18, 19]) (.seq (.cond (.t 19) .skip (.exit 0)) (.seq (.block 1 (.seq (.reg [⟨some 20, .iaddr 8 (.t 16) (.t 18), none, false⟩, ⟨some 21, .load true 8 (.t 20), none, false⟩, ⟨some 5, .alloc 41 [.int .i64 0, .int .i64 0, .int .i64 0, .int .i64 0, .str ⟨#[]⟩, .bool false, .int .i64 0, .int .i64 0], none, false⟩, ⟨none, .store 8 (.t 5) (.t 21), none, false⟩] [1, 3, 5, 16, 17, 18]) (.seq (.reg [⟨some 22, .faddr 0 (.t 5), none, false⟩, ⟨some 23, .load false 1 (.t 22), none, false⟩, ⟨some 24, .call (.c (.func 29 [] [])) [.t 23], none, false⟩, ⟨some 6, .mov (.t 24), none, false⟩] [1, 3, 5, 6, 16, 17, 18]) (.seq (.reg [⟨some 25, .mov (.t 6), none, false⟩, ⟨some 26, .bin .eql (.t 25) (.c (.int .i64 1)), none, false⟩, ⟨some 27, .mov (.t 26), none, false⟩, ⟨some 28, .mov (.t 6), some (27, false), false⟩, ⟨some 29, .bin .eql (.t 28) (.c (.int .i64 2)), some (27, false), false⟩, ⟨some 30, .pick (.t 27) (.c (.bool true)) (.t 29), none, false⟩] [1, 3, 5, 16, 17, 18, 30]) (.cond (.t 30) (.reg [⟨some 31, .mov (.t 3), none, false⟩, ⟨some 32, .faddr 1 (.t 5), none, false⟩, ⟨some 33, .load false 1 (.t 32), none, false⟩, ⟨some 34, .mkslice true 3 1 [.t 33], none, false⟩, ⟨some 35, .app 3 1 8 (.t 31) (.t 34), none, false⟩, ⟨some 3, .mov (.t 35), none, false⟩] [1, 3, 16, 17, 18]) .skip))))) (.reg [⟨some 36, .bin .add (.t 18) (.c (.int .i64 1)), none, false⟩, ⟨some 18, .mov (.t 36), none, false⟩] [1, 3, 16, 17, 18])))
def lp14_1 : XC := .seq (.reg [⟨some 41, .bin .lss (.t 40) (.t 39), none, false⟩] [3, 38, 39, 40, 41]) (.seq (.cond (.t 41) .skip (.exit 2)) (.seq (.block 3 (.seq (.reg [⟨some 42, .iaddr 2 (.t 38) (.t 40), none, false⟩, ⟨some 43, .load true 2 (.t 42), none, false⟩, ⟨some 8, .alloc 51 [.int .i64 0, .int .i64 0], none, false⟩, ⟨none, .store 2 (.t 8) (.t 43), none, false⟩] [3, 8, 38, 39, 40]) (.reg [⟨some 44, .mov (.t 3), none, false⟩, ⟨some 45, .faddr 1 (.t 8), none, false⟩, ⟨some 46, .load false 1 (.t 45), none, false⟩, ⟨some 47, .mkslice true 3 1 [.t 46], none, false⟩, ⟨some 48, .app 3 1 8 (.t 44) (.t 47), none, false⟩, ⟨some 3, .mov (.t 48), none, false⟩] [3, 38, 39, 40]))) (.reg [⟨some 49, .bin .add (.t 40) (.c (.int .i64 1)), none, false⟩, ⟨some 40, .mov (.t 49), none, false⟩] [3, 38, 39, 40])))
def b14 : XC := .seq (.reg [⟨some 1, .box 30 (.t 0), none, false⟩, ⟨some 2, .mov (.c .nils), none, false⟩] [1]) (.seq (.reg [⟨some 9, .faddr 1 (.t 1), none, false⟩, ⟨some 10, .load false 1 (.t 9), none, false⟩, ⟨some 11, .faddr 2 (.t 1), none, false⟩, ⟨some 12, .load false 1 (.t 11), none, false⟩, ⟨some 13, .mkslice true 26 1 [.t 10, .t 12], none, false⟩, ⟨some 14, .call (.c (.func 22 [] [])) [.t 13], none, false⟩, ⟨some 3, .mov (.t 14), none, false⟩] [1, 3]) (.seq (.seq (.reg [⟨some 15, .faddr 0 (.t 1), none, false⟩, ⟨some 16, .load false 1 (.t 15), none, false⟩, ⟨some 17, .len 8 (.t 16), none, false⟩, ⟨some 18, .mov (.c (.int .i64 0)), none, false⟩] [1, 3, 16, 17, 18]) (.block 0 (.loop lp14_0))) (.seq (.seq (.reg [⟨some 37, .faddr 3 (.t 1), none, false⟩, ⟨some 38, .load false 1 (.t 37), none, false⟩, ⟨some 39, .len 2 (.t 38), none, false⟩, ⟨some 40, .mov (.c (.int .i64 0)), none, false⟩] [3, 38, 39, 40]) (.block 2 (.loop lp14_1))) (.seq (.reg [⟨some 50, .mov (.t 3), none, false⟩, ⟨some 51, .call (.c (.func 30 [] [])) [.t 50, .c (.func 31 [] [])], none, false⟩, ⟨some 3, .mov (.t 51), none, false⟩] [3]) (.seq (.reg [⟨some 52, .mov (.t 3), none, false⟩, ⟨some 53, .call (.c (.func 32 [] [])) [.t 52], none, false⟩] [3]) (.seq (.reg [⟨some 54, .mov (.t 3), none, false⟩, ⟨some 55, .call (.c (.func 33 [] [])) [.t 54], none, false⟩, ⟨some 2, .mov (.t 55), none, false⟩] [2]) .ret))))))
def x14 : XF := ⟨1, b14, [.t 2]⟩
def h14 : Hints := fun id => match id with
  | 0 => [1]
  | 1 => [1, 3]
  | 2 => [1, 3, 16, 17, 18]
  | 3 => [1, 3, 16, 17, 18, 19]
  | 4 => [1, 3, 5, 16, 17, 18]
  | 5 => [1, 3, 5, 6, 16, 17, 18]
  | 6 => [1, 3, 5, 16, 17, 18, 30]
  | 7 => [1, 3, 16, 17, 18]
  | 8 => [1, 3, 16, 17, 18]
  | 9 => [3, 38, 39, 40]
  | 10 => [3, 38, 39, 40, 41]
  | 11 => [3, 8, 38, 39, 40]
  | 12 => [3, 38, 39, 40]
  | 13 => [3, 38, 39, 40]
  | 14 => [3]
  | 15 => [3]
  | 16 => [2]
  | _ => []
theorem cv14 : cvF Tryd.prog h14 Tryd.f14 = some x14 := by kernel_rfl

/-- winnower/winnowerref16.Uses -/
def lp15_0 : XC := .seq (.seq (.reg [⟨some 7, .mov (.t 6), none, false⟩, ⟨some 8, .mov (.t 1), none, false⟩, ⟨some 9, .bin .lss (.t 7) (.t 8), none, false⟩] [1, 2, 5, 6, 9]) (.cond (.t 9) .skip (.exit 0))) (.seq (.block 1 (.seq (.reg [⟨some 12, .load true 6 (.t 2), none, false⟩, ⟨some 13, .mov (.t 6), none, false⟩, ⟨some 14, .call (.c (.func 34 [] [])) [.t 12, .t 13], none, false⟩] [1, 2, 5, 6, 14]) (.cond (.t 14) (.reg [⟨some 15, .mov (.t 5), none, false⟩, ⟨some 16, .mov (.t 6), none, false⟩, ⟨some 17, .mkslice true 3 1 [.t 16], none, false⟩, ⟨some 18, .app 3 1 8 (.t 15) (.t 17), none, false⟩, ⟨some 5, .mov (.t 18), none, false⟩] [1, 2, 5, 6]) .skip))) (.reg [⟨some 10, .mov (.t 6), none, false⟩, ⟨some 11, .bin .add (.t 10) (.c (.int .i64 1)), none, false⟩, ⟨some 6, .mov (.t 11), none, false⟩] [1, 2, 5, 6]))
def b15 : XC := .seq (.reg [⟨some 2, .box 30 (.t 0), none, false⟩, ⟨some 4, .mov (.c .nils), none, false⟩] [1, 2]) (.seq (.reg [⟨some 5, .mov (.c .nils), none, false⟩] [1, 2, 5]) (.seq (.seq (.reg [⟨some 6, .mov (.c (.int .i64 0)), none, false⟩] [1, 2, 5, 6]) (.block 0 (.loop lp15_0))) (.seq (.reg [⟨some 19, .mov (.t 5), none, false⟩, ⟨some 4, .mov (.t 19), none, false⟩] [4]) .ret)))
def x15 : XF := ⟨2, b15, [.t 4]⟩
def h15 : Hints := fun id => match id with
  | 0 => [1, 2]
  | 1 => [1, 2, 5]
  | 2 => [1, 2, 5, 6]
  | 3 => [1, 2, 5, 6, 9]
  | 4 => [1, 2, 5, 6]
  | 5 => [1, 2, 5, 6, 14]
  | 6 => [1, 2, 5, 6]
  | 7 => [4]
  | _ => []
theorem cv15 : cvF Tryd.prog h15 Tryd.f15 = some x15 := by kernel_rfl

/-- winnower/winnowerref16.Check -/
def lp16_0 : XC := .seq (.seq (.reg [⟨some 56, .mov (.t 6), none, false⟩, ⟨some 57, .faddr 0 (.t 3), none, false⟩, ⟨some 58, .load false 1 (.t 57), none, false⟩, ⟨some 59, .len 8 (.t 58), none, false⟩, ⟨some 60, .bin .lss (.t 56) (.t 59), none, false⟩] [2, 3, 6, 60]) (.cond (.t 60) .skip (.exit 0))) (.seq (.block 1 (.seq (.reg [⟨some 63, .load true 5 (.t 2), none, false⟩, ⟨some 64, .faddr 0 (.t 3), none, false⟩, ⟨some 65, .load false 1 (.t 64), none, false⟩, ⟨some 66, .mov (.t 6), none, false⟩, ⟨some 67, .iaddr 8 (.t 65) (.t 66), none, false⟩, ⟨some 68, .load true 8 (.t 67), none, false⟩, ⟨some 69, .mov (.t 6), none, false⟩, ⟨some 70, .call (.c (.func 36 [] [])) [.t 63, .t 68, .t 69], none, false⟩, ⟨some 7, .mov (.t 70), none, false⟩] [2, 3, 6, 7]) (.seq (.reg [⟨some 71, .mov (.t 7), none, false⟩, ⟨some 72, .bin .neq (.t 71) (.c (.int .i64 0)), none, false⟩] [2, 3, 6, 7, 72]) (.cond (.t 72) (.seq (.reg [⟨some 73, .mov (.t 7), none, false⟩, ⟨some 4, .mov (.t 73), none, false⟩] [4]) .ret) .skip)))) (.reg [⟨some 61, .mov (.t 6), none, false⟩, ⟨some 62, .bin .add (.t 61) (.c (.int .i64 1)), none, false⟩, ⟨some 6, .mov (.t 62), none, false⟩] [2, 3, 6]))
def lp16_1 : XC := .seq (.seq (.reg [⟨some 80, .mov (.t 9), none, false⟩, ⟨some 81, .mov (.t 8), none, false⟩, ⟨some 82, .len 1 (.t 81), none, false⟩, ⟨some 83, .bin .lss (.t 80) (.t 82), none, false⟩] [2, 3, 8, 9, 83]) (.cond (.t 83) .skip (.exit 2))) (.seq (.block 3 (.seq (.reg [⟨some 86, .load true 5 (.t 2), none, false⟩, ⟨some 87, .mov (.t 8), none, false⟩, ⟨some 88, .mov (.t 9), none, false⟩, ⟨some 89, .iaddr 1 (.t 87) (.t 88), none, false⟩, ⟨some 90, .load false 1 (.t 89), none, false⟩, ⟨some 91, .call (.c (.func 37 [] [])) [.t 86, .t 90], none, false⟩, ⟨some 92, .un .not (.t 91), none, false⟩] [2, 3, 8, 9, 92]) (.cond (.t 92) (.seq (.reg [⟨some 4, .mov (.c (.int .i64 3)), none, false⟩] [4]) .ret) .skip))) (.reg [⟨some 84, .mov (.t 9), none, false⟩, ⟨some 85, .bin .add (.t 84) (.c (.int .i64 1)), none, false⟩, ⟨some 9, .mov (.t 85), none, false⟩] [2, 3, 8, 9]))
def lp16_2 : XC := .seq (.seq (.reg [⟨some 93, .mov (.t 10), none, false⟩, ⟨some 94, .faddr 3 (.t 3), none, false⟩, ⟨some 95, .load false 1 (.t 94), none, false⟩, ⟨some 96, .len 2 (.t 95), none, false⟩, ⟨some 97, .bin .lss (.t 93) (.t 96), none, false⟩] [2, 3, 10, 97]) (.cond (.t 97) .skip (.exit 4))) (.seq (.block 5 (.seq (.reg [⟨some 100, .load true 5 (.t 2), none, false⟩, ⟨some 101, .faddr 3 (.t 3), none, false⟩, ⟨some 102, .load false 1 (.t 101), none, false⟩, ⟨some 103, .mov (.t 10), none, false⟩, ⟨some 104, .iaddr 2 (.t 102) (.t 103), none, false⟩, ⟨some 105, .load true 2 (.t 104), none, false⟩, ⟨some 106, .call (.c (.func 38 [] [])) [.t 100, .t 105], none, false⟩, ⟨some 11, .mov (.t 106), none, false⟩] [2, 3, 10, 11]) (.seq (.reg [⟨some 107, .mov (.t 11), none, false⟩, ⟨some 108, .bin .neq (.t 107) (.c (.int .i64 0)), none, false⟩] [2, 3, 10, 11, 108]) (.cond (.t 108) (.seq (.reg [⟨some 109, .mov (.t 11), none, false⟩, ⟨some 4, .mov (.t 109), none, false⟩] [4]) .ret) .skip)))) (.reg [⟨some 98, .mov (.t 10), none, false⟩, ⟨some 99, .bin .add (.t 98) (.c (.int .i64 1)), none, false⟩, ⟨some 10, .mov (.t 99), none, false⟩] [2, 3, 10]))
def lp16_3 : XC := .seq (.seq (.reg [⟨some 135, .mov (.t 13), none, false⟩, ⟨some 136, .faddr 4 (.t 3), none, false⟩, ⟨some 137, .load false 1 (.t 136), none, false⟩, ⟨some 138, .len 2 (.t 137), none, false⟩, ⟨some 139, .bin .lss (.t 135) (.t 138), none, false⟩] [3, 12, 13, 139]) (.cond (.t 139) .skip (.exit 6))) (.seq (.block 7 (.seq (.reg [⟨some 142, .faddr 4 (.t 3), none, false⟩, ⟨some 143, .load false 1 (.t 142), none, false⟩, ⟨some 144, .mov (.t 13), none, false⟩, ⟨some 145, .iaddr 2 (.t 143) (.t 144), none, false⟩, ⟨some 146, .faddr 0 (.t 145), none, false⟩, ⟨some 147, .load false 1 (.t 146), none, false⟩, ⟨some 148, .bin .lss (.t 147) (.c (.int .i64 0)), none, false⟩, ⟨some 149, .mov (.t 148), none, false⟩, ⟨some 150, .faddr 4 (.t 3), some (149, false), false⟩, ⟨some 151, .load false 1 (.t 150), some (149, false), false⟩, ⟨some 152, .mov (.t 13), some (149, false), false⟩, ⟨some 153, .iaddr 2 (.t 151) (.t 152), some (149, false), false⟩, ⟨some 154, .faddr 0 (.t 153), some (149, false), false⟩, ⟨some 155, .load false 1 (.t 154), some (149, false), false⟩, ⟨some 156, .faddr 1 (.t 3), some (149, false), false⟩, ⟨some 157, .load false 1 (.t 156), some (149, false), false⟩, ⟨some 158, .len 1 (.t 157), some (149, false), false⟩, ⟨some 159, .mov (.t 12), some (149, false), false⟩, ⟨some 160, .bin .add (.t 158) (.t 159), some (149, false), false⟩, ⟨some 161, .bin .geq (.t 155) (.t 160), some (149, false), false⟩, ⟨some 162, .pick (.t 149) (.c (.bool true)) (.t 161), none, false⟩] [3, 12, 13, 162]) (.cond (.t 162) (.seq (.reg [⟨some 4, .mov (.c (.int .i64 3)), none, false⟩] [4]) .ret) .skip))) (.reg [⟨some 140, .mov (.t 13), none, false⟩, ⟨some 141, .bin .add (.t 140) (.c (.int .i64 1)), none, false⟩, ⟨some 13, .mov (.t 141), none, false⟩] [3, 12, 13]))
def b16 : XC := .seq (.reg [⟨some 2, .box 24 (.t 0), none, false⟩, ⟨some 3, .box 30 (.t 1), none, false⟩, ⟨some 4, .mov (.c (.int .i64 0)), none, false⟩] [2, 3]) (.seq (.reg [⟨some 14, .load true 5 (.t 2), none, false⟩, ⟨some 15, .call (.c (.func 35 [] [])) [.t 14], none, false⟩, ⟨some 5, .mov (.t 15), none, false⟩] [2, 3, 5]) (.seq (.seq (.reg [⟨some 16, .mov (.t 5), none, false⟩, ⟨some 17, .un .not (.t 16), none, false⟩] [2, 3, 17]) (.cond (.t 17) (.seq (.reg [⟨some 4, .mov (.c (.int .i64 1)), none, false⟩] [4]) .ret) .skip)) (.seq (.seq (.reg [⟨some 18, .faddr 0 (.t 3), none, false⟩, ⟨some 19, .load false 1 (.t 18), none, false⟩, ⟨some 20, .len 8 (.t 19), none, false⟩, ⟨some 21, .bin .gtr (.t 20) (.c (.int .i64 32)), none, false⟩, ⟨some 22, .mov (.t 21), none, false⟩, ⟨some 23, .faddr 1 (.t 3), some (22, false), false⟩, ⟨some 24, .load false 1 (.t 23), some (22, false), false⟩, ⟨some 25, .len 1 (.t 24), some (22, false), false⟩, ⟨some 26, .bin .gtr (.t 25) (.c (.int .i64 8)), some (22, false), false⟩, ⟨some 27, .pick (.t 22) (.c (.bool true)) (.t 26), none, false⟩, ⟨some 28, .mov (.t 27), none, false⟩, ⟨some 29, .faddr 2 (.t 3), some (28, false), false⟩, ⟨some 30, .load false 1 (.t 29), some (28, false), false⟩, ⟨some 31, .len 1 (.t 30), some (28, false), false⟩, ⟨some 32, .bin .gtr (.t 31) (.c (.int .i64 4)), some (28, false), false⟩, ⟨some 33, .pick (.t 28) (.c (.bool true)) (.t 32), none, false⟩, ⟨some 34, .mov (.t 33), none, false⟩, ⟨some 35, .faddr 3 (.t 3), some (34, false), false⟩, ⟨some 36, .load false 1 (.t 35), some (34, false), false⟩, ⟨some 37, .len 2 (.t 36), some (34, false), false⟩, ⟨some 38, .bin .gtr (.t 37) (.c (.int .i64 4)), some (34, false), false⟩, ⟨some 39, .pick (.t 34) (.c (.bool true)) (.t 38), none, false⟩, ⟨some 40, .mov (.t 39), none, false⟩, ⟨some 41, .faddr 4 (.t 3), some (40, false), false⟩, ⟨some 42, .load false 1 (.t 41), some (40, false), false⟩, ⟨some 43, .len 2 (.t 42), some (40, false), false⟩, ⟨some 44, .bin .gtr (.t 43) (.c (.int .i64 4)), some (40, false), false⟩, ⟨some 45, .pick (.t 40) (.c (.bool true)) (.t 44), none, false⟩, ⟨some 46, .mov (.t 45), none, false⟩, ⟨some 47, .faddr 5 (.t 3), some (46, false), false⟩, ⟨some 48, .load false 1 (.t 47), some (46, false), false⟩, ⟨some 49, .bin .lss (.t 48) (.c (.int .i64 0)), some (46, false), false⟩, ⟨some 50, .pick (.t 46) (.c (.bool true)) (.t 49), none, false⟩, ⟨some 51, .mov (.t 50), none, false⟩, ⟨some 52, .faddr 5 (.t 3), some (51, false), false⟩, ⟨some 53, .load false 1 (.t 52), some (51, false), false⟩, ⟨some 54, .bin .gtr (.t 53) (.c (.int .i64 4096)), some (51, false), false⟩, ⟨some 55, .pick (.t 51) (.c (.bool true)) (.t 54), none, false⟩] [2, 3, 55]) (.cond (.t 55) (.seq (.reg [⟨some 4, .mov (.c (.int .i64 2)), none, false⟩] [4]) .ret) .skip)) (.seq (.seq (.reg [⟨some 6, .mov (.c (.int .i64 0)), none, false⟩] [2, 3, 6]) (.block 0 (.loop lp16_0))) (.seq (.reg [⟨some 74, .faddr 1 (.t 3), none, false⟩, ⟨some 75, .load false 1 (.t 74), none, false⟩, ⟨some 76, .app 3 1 8 (.c .nils) (.t 75), none, true⟩, ⟨some 77, .faddr 2 (.t 3), none, false⟩, ⟨some 78, .load false 1 (.t 77), none, false⟩, ⟨some 79, .app 3 1 8 (.t 76) (.t 78), none, false⟩, ⟨some 8, .mov (.t 79), none, false⟩] [2, 3, 8]) (.seq (.seq (.reg [⟨some 9, .mov (.c (.int .i64 0)), none, false⟩] [2, 3, 8, 9]) (.block 2 (.loop lp16_1))) (.seq (.seq (.reg [⟨some 10, .mov (.c (.int .i64 0)), none, false⟩] [2, 3, 10]) (.block 4 (.loop lp16_2))) (.seq (.reg [⟨some 110, .faddr 2 (.t 3), none, false⟩, ⟨some 111, .load false 1 (.t 110), none, false⟩, ⟨some 112, .len 1 (.t 111), none, false⟩, ⟨some 113, .faddr 3 (.t 3), none, false⟩, ⟨some 114, .load false 1 (.t 113), none, false⟩, ⟨some 115, .len 2 (.t 114), none, false⟩, ⟨some 116, .bin .add (.t 112) (.t 115), none, false⟩, ⟨some 12, .mov (.t 116), none, false⟩] [3, 12]) (.seq (.seq (.reg [⟨some 117, .faddr 1 (.t 3), none, false⟩, ⟨some 118, .load false 1 (.t 117), none, false⟩, ⟨some 119, .len 1 (.t 118), none, false⟩, ⟨some 120, .bin .gtr (.t 119) (.c (.int .i64 0)), none, false⟩, ⟨some 121, .mov (.t 120), none, false⟩, ⟨some 122, .mov (.t 12), some (121, true), false⟩, ⟨some 123, .bin .gtr (.t 122) (.c (.int .i64 0)), some (121, true), false⟩, ⟨some 124, .pick (.t 121) (.t 123) (.c (.bool false)), none, false⟩, ⟨some 125, .mov (.t 124), none, false⟩, ⟨some 126, .faddr 1 (.t 3), some (125, false), false⟩, ⟨some 127, .load false 1 (.t 126), some (125, false), false⟩, ⟨some 128, .len 1 (.t 127), some (125, false), false⟩, ⟨some 129, .bin .eql (.t 128) (.c (.int .i64 0)), some (125, false), false⟩, ⟨some 130, .mov (.t 129), some (125, false), false⟩, ⟨some 131, .mov (.t 12), some (130, true), false⟩, ⟨some 132, .bin .eql (.t 131) (.c (.int .i64 0)), some (130, true), false⟩, ⟨some 133, .pick (.t 130) (.t 132) (.c (.bool false)), some (125, false), false⟩, ⟨some 134, .pick (.t 125) (.c (.bool true)) (.t 133), none, false⟩] [3, 12, 134]) (.cond (.t 134) (.seq (.reg [⟨some 4, .mov (.c (.int .i64 5)), none, false⟩] [4]) .ret) .skip)) (.seq (.seq (.reg [⟨some 13, .mov (.c (.int .i64 0)), none, false⟩] [3, 12, 13]) (.block 6 (.loop lp16_3))) (.seq (.reg [⟨some 4, .mov (.c (.int .i64 0)), none, false⟩] [4]) .ret)))))))))))
def x16 : XF := ⟨2, b16, [.t 4]⟩
def h16 : Hints := fun id => match id with
  | 0 => [2, 3]
  | 1 => [2, 3, 5]
  | 2 => [2, 3, 17]
  | 3 => [4]
  | 4 => [2, 3, 55]
  | 5 => [4]
  | 6 => [2, 3, 6]
  | 7 => [2, 3, 6, 60]
  | 8 => [2, 3, 6]
  | 9 => [2, 3, 6, 7]
  | 10 => [2, 3, 6, 7, 72]
  | 11 => [4]
  | 12 => [2, 3, 8]
  | 13 => [2, 3, 8, 9]
  | 14 => [2, 3, 8, 9, 83]
  | 15 => [2, 3, 8, 9]
  | 16 => [2, 3, 8, 9, 92]
  | 17 => [4]
  | 18 => [2, 3, 10]
  | 19 => [2, 3, 10, 97]
  | 20 => [2, 3, 10]
  | 21 => [2, 3, 10, 11]
  | 22 => [2, 3, 10, 11, 108]
  | 23 => [4]
  | 24 => [3, 12]
  | 25 => [3, 12, 134]
  | 26 => [4]
  | 27 => [3, 12, 13]
  | 28 => [3, 12, 13, 139]
  | 29 => [3, 12, 13]
  | 30 => [3, 12, 13, 162]
  | 31 => [4]
  | 32 => [4]
  | _ => []
theorem cv16 : cvF Tryd.prog h16 Tryd.f16 = some x16 := by kernel_rfl

/-- winnower/winnowerlaw07.Small -/
def b17 : XC := .seq (.reg [⟨some 0, .alloc 24 [.nils, .int .i64 0, .int .i64 0, .int .i64 0, .int .i64 0], none, false⟩] [0]) (.seq (.reg [⟨some 1, .build [.str ⟨#[]⟩, .int .i64 0, .bool false] [(0, (1, .c (.str ⟨#[107]⟩))), (1, (1, .c (.int .i64 1)))], none, false⟩, ⟨some 2, .build [.str ⟨#[]⟩, .int .i64 0, .bool false] [(0, (1, .c (.str ⟨#[118]⟩))), (1, (1, .c (.int .i64 2))), (2, (1, .c (.bool true)))], none, false⟩, ⟨some 3, .mkslice true 53 3 [.t 1, .t 2], none, false⟩, ⟨some 4, .build [.nils, .int .i64 0, .int .i64 0, .int .i64 0, .int .i64 0] [(0, (1, .t 3)), (1, (1, .c (.int .i64 (-1)))), (2, (1, .c (.int .i64 (-1)))), (3, (1, .c (.int .i64 (-1)))), (4, (1, .c (.int .i64 (-1))))], none, false⟩, ⟨none, .store 5 (.t 0) (.t 4), none, false⟩] [0]) .ret)
def x17 : XF := ⟨0, b17, [.cell 0 true 5]⟩
def h17 : Hints := fun id => match id with
  | 0 => [0]
  | 1 => [0]
  | _ => []
theorem cv17 : cvF Tryd.prog h17 Tryd.f17 = some x17 := by kernel_rfl

/-- winnower/schema.May -/
def lp18_0 : XC := .seq (.reg [⟨some 9, .bin .lss (.t 8) (.t 7), none, false⟩] [1, 6, 7, 8, 9]) (.seq (.cond (.t 9) .skip (.exit 0)) (.seq (.block 1 (.seq (.reg [⟨some 10, .mov (.t 8), none, false⟩, ⟨some 11, .iaddr 3 (.t 6) (.t 8), none, false⟩, ⟨some 12, .load true 3 (.t 11), none, false⟩, ⟨some 4, .alloc 53 [.str ⟨#[]⟩, .int .i64 0, .bool false], none, false⟩, ⟨some 3, .mov (.t 10), none, false⟩, ⟨none, .store 3 (.t 4) (.t 12), none, false⟩] [1, 3, 4, 6, 7, 8]) (.seq (.reg [⟨some 13, .faddr 0 (.t 4), none, false⟩, ⟨some 14, .load false 1 (.t 13), none, false⟩, ⟨some 15, .call (.c (.func 39 [] [])) [.t 14], none, false⟩, ⟨some 16, .un .not (.t 15), none, false⟩, ⟨some 17, .mov (.t 16), none, false⟩, ⟨some 18, .faddr 1 (.t 4), some (17, false), false⟩, ⟨some 19, .load false 1 (.t 18), some (17, false), false⟩, ⟨some 20, .bin .lss (.t 19) (.c (.int .i64 1)), some (17, false), false⟩, ⟨some 21, .pick (.t 17) (.c (.bool true)) (.t 20), none, false⟩, ⟨some 22, .mov (.t 21), none, false⟩, ⟨some 23, .faddr 1 (.t 4), some (22, false), false⟩, ⟨some 24, .load false 1 (.t 23), some (22, false), false⟩, ⟨some 25, .bin .gtr (.t 24) (.c (.int .i64 3)), some (22, false), false⟩, ⟨some 26, .pick (.t 22) (.c (.bool true)) (.t 25), none, false⟩, ⟨some 27, .mov (.t 26), none, false⟩, ⟨some 28, .load true 5 (.t 1), some (27, false), false⟩, ⟨some 29, .faddr 0 (.t 4), some (27, false), false⟩, ⟨some 30, .load false 1 (.t 29), some (27, false), false⟩, ⟨some 31, .call (.c (.func 40 [] [])) [.t 28, .t 30], some (27, false), false⟩, ⟨some 32, .mov (.t 3), some (27, false), false⟩, ⟨some 33, .bin .neq (.t 31) (.t 32), some (27, false), false⟩, ⟨some 34, .pick (.t 27) (.c (.bool true)) (.t 33), none, false⟩] [1, 6, 7, 8, 34]) (.cond (.t 34) (.seq (.reg [⟨some 2, .mov (.c (.bool false)), none, false⟩] [2]) .ret) .skip)))) (.reg [⟨some 35, .bin .add (.t 8) (.c (.int .i64 1)), none, false⟩, ⟨some 8, .mov (.t 35), none, false⟩] [1, 6, 7, 8])))
def b18 : XC := .seq (.reg [⟨some 1, .box 24 (.t 0), none, false⟩, ⟨some 2, .mov (.c (.bool false)), none, false⟩] [1]) (.seq (.seq (.reg [⟨some 5, .faddr 0 (.t 1), none, false⟩, ⟨some 6, .load false 1 (.t 5), none, false⟩, ⟨some 7, .len 3 (.t 6), none, false⟩, ⟨some 8, .mov (.c (.int .i64 0)), none, false⟩] [1, 6, 7, 8]) (.block 0 (.loop lp18_0))) (.seq (.reg [⟨some 36, .faddr 0 (.t 1), none, false⟩, ⟨some 37, .load false 1 (.t 36), none, false⟩, ⟨some 38, .len 3 (.t 37), none, false⟩, ⟨some 39, .bin .geq (.t 38) (.c (.int .i64 1)), none, false⟩, ⟨some 40, .mov (.t 39), none, false⟩, ⟨some 41, .faddr 0 (.t 1), some (40, true), false⟩, ⟨some 42, .load false 1 (.t 41), some (40, true), false⟩, ⟨some 43, .len 3 (.t 42), some (40, true), false⟩, ⟨some 44, .bin .leq (.t 43) (.c (.int .i64 8)), some (40, true), false⟩, ⟨some 45, .pick (.t 40) (.t 44) (.c (.bool false)), none, false⟩, ⟨some 46, .mov (.t 45), none, false⟩, ⟨some 47, .load true 5 (.t 1), some (46, true), false⟩, ⟨some 48, .call (.c (.func 41 [] [])) [.t 47], some (46, true), false⟩, ⟨some 49, .pick (.t 46) (.t 48) (.c (.bool false)), none, false⟩, ⟨some 50, .mov (.t 49), none, false⟩, ⟨some 51, .faddr 4 (.t 1), some (50, true), false⟩, ⟨some 52, .load false 1 (.t 51), some (50, true), false⟩, ⟨some 53, .bin .geq (.t 52) (.c (.int .i64 (-1))), some (50, true), false⟩, ⟨some 54, .pick (.t 50) (.t 53) (.c (.bool false)), none, false⟩, ⟨some 55, .mov (.t 54), none, false⟩, ⟨some 56, .faddr 4 (.t 1), some (55, true), false⟩, ⟨some 57, .load false 1 (.t 56), some (55, true), false⟩, ⟨some 58, .faddr 0 (.t 1), some (55, true), false⟩, ⟨some 59, .load false 1 (.t 58), some (55, true), false⟩, ⟨some 60, .len 3 (.t 59), some (55, true), false⟩, ⟨some 61, .bin .lss (.t 57) (.t 60), some (55, true), false⟩, ⟨some 62, .pick (.t 55) (.t 61) (.c (.bool false)), none, false⟩, ⟨some 2, .mov (.t 62), none, false⟩] [2]) .ret))
def x18 : XF := ⟨1, b18, [.t 2]⟩
def h18 : Hints := fun id => match id with
  | 0 => [1]
  | 1 => [1, 6, 7, 8]
  | 2 => [1, 6, 7, 8, 9]
  | 3 => [1, 3, 4, 6, 7, 8]
  | 4 => [1, 6, 7, 8, 34]
  | 5 => [2]
  | 6 => [1, 6, 7, 8]
  | 7 => [2]
  | _ => []
theorem cv18 : cvF Tryd.prog h18 Tryd.f18 = some x18 := by kernel_rfl

/-- winnower/query.long -/
def b19 : XC := .seq (.reg [⟨some 1, .box 30 (.t 0), none, false⟩, ⟨some 2, .mov (.c (.bool false)), none, false⟩] [1]) (.seq (.reg [⟨some 4, .faddr 0 (.t 1), none, false⟩, ⟨some 5, .load false 1 (.t 4), none, false⟩, ⟨some 6, .len 8 (.t 5), none, false⟩, ⟨some 7, .bin .gtr (.t 6) (.c (.int .i64 32)), none, false⟩, ⟨some 8, .mov (.t 7), none, false⟩, ⟨some 9, .faddr 1 (.t 1), some (8, false), false⟩, ⟨some 10, .load false 1 (.t 9), some (8, false), false⟩, ⟨some 11, .len 1 (.t 10), some (8, false), false⟩, ⟨some 12, .bin .gtr (.t 11) (.c (.int .i64 8)), some (8, false), false⟩, ⟨some 13, .pick (.t 8) (.c (.bool true)) (.t 12), none, false⟩, ⟨some 14, .mov (.t 13), none, false⟩, ⟨some 15, .faddr 2 (.t 1), some (14, false), false⟩, ⟨some 16, .load false 1 (.t 15), some (14, false), false⟩, ⟨some 17, .len 1 (.t 16), some (14, false), false⟩, ⟨some 18, .bin .gtr (.t 17) (.c (.int .i64 4)), some (14, false), false⟩, ⟨some 19, .pick (.t 14) (.c (.bool true)) (.t 18), none, false⟩, ⟨some 3, .mov (.t 19), none, false⟩] [1, 3]) (.seq (.reg [⟨some 20, .mov (.t 3), none, false⟩, ⟨some 21, .mov (.t 20), none, false⟩, ⟨some 22, .faddr 3 (.t 1), some (21, false), false⟩, ⟨some 23, .load false 1 (.t 22), some (21, false), false⟩, ⟨some 24, .len 2 (.t 23), some (21, false), false⟩, ⟨some 25, .bin .gtr (.t 24) (.c (.int .i64 4)), some (21, false), false⟩, ⟨some 26, .pick (.t 21) (.c (.bool true)) (.t 25), none, false⟩, ⟨some 27, .mov (.t 26), none, false⟩, ⟨some 28, .faddr 4 (.t 1), some (27, false), false⟩, ⟨some 29, .load false 1 (.t 28), some (27, false), false⟩, ⟨some 30, .len 2 (.t 29), some (27, false), false⟩, ⟨some 31, .bin .gtr (.t 30) (.c (.int .i64 4)), some (27, false), false⟩, ⟨some 32, .pick (.t 27) (.c (.bool true)) (.t 31), none, false⟩, ⟨some 33, .mov (.t 32), none, false⟩, ⟨some 34, .faddr 5 (.t 1), some (33, false), false⟩, ⟨some 35, .load false 1 (.t 34), some (33, false), false⟩, ⟨some 36, .bin .lss (.t 35) (.c (.int .i64 0)), some (33, false), false⟩, ⟨some 37, .pick (.t 33) (.c (.bool true)) (.t 36), none, false⟩, ⟨some 38, .mov (.t 37), none, false⟩, ⟨some 39, .faddr 5 (.t 1), some (38, false), false⟩, ⟨some 40, .load false 1 (.t 39), some (38, false), false⟩, ⟨some 41, .bin .gtr (.t 40) (.c (.int .i64 4096)), some (38, false), false⟩, ⟨some 42, .pick (.t 38) (.c (.bool true)) (.t 41), none, false⟩, ⟨some 2, .mov (.t 42), none, false⟩] [2]) .ret))
def x19 : XF := ⟨1, b19, [.t 2]⟩
def h19 : Hints := fun id => match id with
  | 0 => [1]
  | 1 => [1, 3]
  | 2 => [2]
  | _ => []
theorem cv19 : cvF Tryd.prog h19 Tryd.f19 = some x19 := by kernel_rfl

/-- winnower/query.filter -/
def lp20_0 : XC := .seq (.reg [⟨some 12, .bin .lss (.t 11) (.t 10), none, false⟩] [2, 5, 9, 10, 11, 12]) (.seq (.cond (.t 12) .skip (.exit 0)) (.seq (.block 1 (.seq (.reg [⟨some 13, .mov (.t 11), none, false⟩, ⟨some 14, .iaddr 8 (.t 9) (.t 11), none, false⟩, ⟨some 15, .load true 8 (.t 14), none, false⟩, ⟨some 6, .alloc 3 [.int .i64 0], none, false⟩, ⟨some 7, .alloc 41 [.int .i64 0, .int .i64 0, .int .i64 0, .int .i64 0, .str ⟨#[]⟩, .bool false, .int .i64 0, .int .i64 0], none, false⟩, ⟨none, .store 1 (.t 6) (.t 13), none, false⟩, ⟨none, .store 8 (.t 7) (.t 15), none, false⟩] [2, 5, 6, 7, 9, 10, 11]) (.seq (.reg [⟨some 16, .mkfn 42 [] [.t 6], none, false⟩, ⟨some 8, .mov (.t 16), none, false⟩] [2, 5, 7, 8, 9, 10, 11]) (.seq (.reg [⟨some 17, .faddr 0 (.t 7), none, false⟩, ⟨some 18, .load false 1 (.t 17), none, false⟩, ⟨some 19, .call (.c (.func 29 [] [])) [.t 18], none, false⟩] [2, 5, 7, 8, 9, 10, 11, 19]) (.block 2 (.seq (.reg [⟨some 21, .bin .eql (.t 19) (.c (.int .i64 5)), none, false⟩, ⟨some 20, .mov (.t 21), none, false⟩] [2, 5, 7, 8, 9, 10, 11, 19, 20]) (.cond (.t 20) (.seq (.reg [⟨some 5, .mov (.c (.int .i64 1)), none, false⟩] [5]) (.exit 0)) (.seq (.seq (.reg [⟨some 23, .bin .eql (.t 19) (.c (.int .i64 1)), none, false⟩, ⟨some 22, .mov (.t 23), none, false⟩] [2, 5, 7, 8, 9, 10, 11, 19, 22]) (.cond (.t 22) .skip (.reg [⟨some 24, .bin .eql (.t 19) (.c (.int .i64 2)), none, false⟩, ⟨some 22, .mov (.t 24), none, false⟩] [2, 5, 7, 8, 9, 10, 11, 19, 22]))) (.cond (.t 22) (.seq (.seq (.reg [⟨some 25, .load true 5 (.t 2), none, false⟩, ⟨some 26, .faddr 1 (.t 7), none, false⟩, ⟨some 27, .load false 1 (.t 26), none, false⟩, ⟨some 28, .call (.c (.func 24 [] [])) [.t 25, .t 27], none, false⟩, ⟨some 29, .un .not (.t 28), none, false⟩] [2, 5, 7, 9, 10, 11, 29]) (.cond (.t 29) (.seq (.reg [⟨some 5, .mov (.c (.int .i64 3)), none, false⟩] [5]) (.exit 0)) .skip)) (.seq (.reg [⟨some 30, .faddr 0 (.t 7), none, false⟩, ⟨some 31, .load false 1 (.t 30), none, false⟩, ⟨some 32, .bin .neq (.t 31) (.c (.int .i64 7)), none, false⟩, ⟨some 33, .mov (.t 32), none, false⟩, ⟨some 34, .faddr 2 (.t 7), some (33, true), false⟩, ⟨some 35, .faddr 0 (.t 34), some (33, true), false⟩, ⟨some 36, .load false 1 (.t 35), some (33, true), false⟩, ⟨some 37, .faddr 0 (.t 2), some (33, true), false⟩, ⟨some 38, .load false 1 (.t 37), some (33, true), false⟩, ⟨some 39, .faddr 1 (.t 7), some (33, true), false⟩, ⟨some 40, .load false 1 (.t 39), some (33, true), false⟩, ⟨some 41, .iaddr 3 (.t 38) (.t 40), some (33, true), false⟩, ⟨some 42, .faddr 1 (.t 41), some (33, true), false⟩, ⟨some 43, .load false 1 (.t 42), some (33, true), false⟩, ⟨some 44, .bin .neq (.t 36) (.t 43), some (33, true), false⟩, ⟨some 45, .mov (.t 44), some (33, true), false⟩, ⟨some 46, .faddr 2 (.t 7), some (45, false), false⟩, ⟨some 47, .load true 4 (.t 46), some (45, false), false⟩, ⟨some 48, .call (.c (.func 43 [] [])) [.t 47], some (45, false), false⟩, ⟨some 49, .un .not (.t 48), some (45, false), false⟩, ⟨some 50, .pick (.t 45) (.c (.bool true)) (.t 49), some (33, true), false⟩, ⟨some 51, .pick (.t 33) (.t 50) (.c (.bool false)), none, false⟩] [2, 5, 9, 10, 11, 51]) (.cond (.t 51) (.seq (.reg [⟨some 5, .mov (.c (.int .i64 9)), none, false⟩] [5]) (.exit 0)) .skip))) (.seq (.reg [⟨some 53, .bin .eql (.t 19) (.c (.int .i64 3)), none, false⟩, ⟨some 52, .mov (.t 53), none, false⟩] [2, 5, 7, 8, 9, 10, 11, 19, 52]) (.cond (.t 52) (.seq (.reg [⟨some 54, .mov (.t 8), none, false⟩, ⟨some 55, .faddr 6 (.t 7), none, false⟩, ⟨some 56, .load false 1 (.t 55), none, false⟩, ⟨some 57, .call (.t 54) [.t 56], none, false⟩, ⟨some 58, .un .not (.t 57), none, false⟩, ⟨some 59, .mov (.t 58), none, false⟩, ⟨some 60, .mov (.t 8), some (59, false), false⟩, ⟨some 61, .faddr 7 (.t 7), some (59, false), false⟩, ⟨some 62, .load false 1 (.t 61), some (59, false), false⟩, ⟨some 63, .call (.t 60) [.t 62], some (59, false), false⟩, ⟨some 64, .un .not (.t 63), some (59, false), false⟩, ⟨some 65, .pick (.t 59) (.c (.bool true)) (.t 64), none, false⟩] [2, 5, 9, 10, 11, 65]) (.cond (.t 65) (.seq (.reg [⟨some 5, .mov (.c (.int .i64 5)), none, false⟩] [5]) (.exit 0)) .skip)) (.seq (.reg [⟨some 67, .bin .eql (.t 19) (.c (.int .i64 4)), none, false⟩, ⟨some 66, .mov (.t 67), none, false⟩] [2, 5, 7, 8, 9, 10, 11, 66]) (.cond (.t 66) (.seq (.reg [⟨some 68, .mov (.t 8), none, false⟩, ⟨some 69, .faddr 6 (.t 7), none, false⟩, ⟨some 70, .load false 1 (.t 69), none, false⟩, ⟨some 71, .call (.t 68) [.t 70], none, false⟩, ⟨some 72, .un .not (.t 71), none, false⟩] [2, 5, 9, 10, 11, 72]) (.cond (.t 72) (.seq (.reg [⟨some 5, .mov (.c (.int .i64 5)), none, false⟩] [5]) (.exit 0)) .skip)) .skip))))))))))))) (.reg [⟨some 73, .bin .add (.t 11) (.c (.int .i64 1)), none, false⟩, ⟨some 11, .mov (.t 73), none, false⟩] [2, 5, 9, 10, 11])))
def b20 : XC := .seq (.reg [⟨some 2, .box 24 (.t 0), none, false⟩, ⟨some 4, .mov (.c (.int .i64 0)), none, false⟩] [1, 2]) (.seq (.reg [⟨some 5, .mov (.c (.int .i64 0)), none, false⟩] [1, 2, 5]) (.seq .skip (.seq (.seq (.reg [⟨some 9, .mov (.t 1), none, false⟩, ⟨some 10, .len 8 (.t 9), none, false⟩, ⟨some 11, .mov (.c (.int .i64 0)), none, false⟩] [2, 5, 9, 10, 11]) (.block 0 (.loop lp20_0))) (.seq (.reg [⟨some 74, .mov (.t 5), none, false⟩, ⟨some 4, .mov (.t 74), none, false⟩] [4]) .ret))))
def x20 : XF := ⟨2, b20, [.t 4]⟩
def h20 : Hints := fun id => match id with
  | 0 => [1, 2]
  | 1 => [1, 2, 5]
  | 2 => [2, 5, 9, 10, 11]
  | 3 => [2, 5, 9, 10, 11, 12]
  | 4 => [2, 5, 6, 7, 9, 10, 11]
  | 5 => [2, 5, 7, 8, 9, 10, 11]
  | 6 => [2, 5, 7, 8, 9, 10, 11, 19]
  | 7 => [2, 5, 7, 8, 9, 10, 11, 19, 20]
  | 8 => [5]
  | 9 => [2, 5, 7, 8, 9, 10, 11, 19, 22]
  | 10 => [2, 5, 7, 8, 9, 10, 11, 19, 22]
  | 11 => [2, 5, 7, 9, 10, 11, 29]
  | 12 => [5]
  | 13 => [2, 5, 9, 10, 11, 51]
  | 14 => [5]
  | 15 => [2, 5, 7, 8, 9, 10, 11, 19, 52]
  | 16 => [2, 5, 9, 10, 11, 65]
  | 17 => [5]
  | 18 => [2, 5, 7, 8, 9, 10, 11, 66]
  | 19 => [2, 5, 9, 10, 11, 72]
  | 20 => [5]
  | 21 => [2, 5, 9, 10, 11]
  | 22 => [4]
  | _ => []
theorem cv20 : cvF Tryd.prog h20 Tryd.f20 = some x20 := by kernel_rfl

/-- slices.ContainsFunc[[]int,int] -/
def b21 : XC := .seq (.reg [⟨some 4, .mov (.c (.bool false)), none, false⟩] [0, 1]) (.seq (.reg [⟨some 5, .mov (.t 0), none, false⟩, ⟨some 6, .mov (.t 1), none, false⟩, ⟨some 7, .call (.c (.func 44 [] [])) [.t 5, .t 6], none, false⟩, ⟨some 8, .bin .geq (.t 7) (.c (.int .i64 0)), none, false⟩, ⟨some 4, .mov (.t 8), none, false⟩] [4]) .ret)
def x21 : XF := ⟨2, b21, [.t 4]⟩
def h21 : Hints := fun id => match id with
  | 0 => [0, 1]
  | 1 => [4]
  | _ => []
theorem cv21 : cvF Tryd.prog h21 Tryd.f21 = some x21 := by kernel_rfl

/-- slices.Concat[[]int,int] -/
def lp22_0 : XC := .seq (.reg [⟨some 12, .bin .lss (.t 11) (.t 10), none, false⟩] [0, 3, 9, 10, 11, 12]) (.seq (.cond (.t 12) .skip (.exit 0)) (.seq (.block 1 (.seq (.reg [⟨some 13, .iaddr 1 (.t 9) (.t 11), none, false⟩, ⟨some 14, .load false 1 (.t 13), none, false⟩, ⟨some 5, .mov (.t 14), none, false⟩] [0, 3, 5, 9, 10, 11]) (.seq (.reg [⟨some 15, .mov (.t 3), none, false⟩, ⟨some 16, .mov (.t 5), none, false⟩, ⟨some 17, .len 1 (.t 16), none, false⟩, ⟨some 18, .bin .add (.t 15) (.t 17), none, false⟩, ⟨some 3, .mov (.t 18), none, false⟩] [0, 3, 9, 10, 11]) (.seq (.reg [⟨some 19, .mov (.t 3), none, false⟩, ⟨some 20, .bin .lss (.t 19) (.c (.int .i64 0)), none, false⟩] [0, 3, 9, 10, 11, 20]) (.cond (.t 20) (.reg [⟨some 21, .mkif 9 (.c (.str ⟨#[108, 101, 110, 32, 111, 117, 116, 32, 111, 102, 32, 114, 97, 110, 103, 101]⟩)), none, false⟩, ⟨none, .ext (.c .undef) 0, none, false⟩] [0, 3, 9, 10, 11]) .skip))))) (.reg [⟨some 22, .bin .add (.t 11) (.c (.int .i64 1)), none, false⟩, ⟨some 11, .mov (.t 22), none, false⟩] [0, 3, 9, 10, 11])))
def lp22_1 : XC := .seq (.reg [⟨some 28, .bin .lss (.t 27) (.t 26), none, false⟩] [6, 25, 26, 27, 28]) (.seq (.cond (.t 28) .skip (.exit 2)) (.seq (.block 3 (.seq (.reg [⟨some 29, .iaddr 1 (.t 25) (.t 27), none, false⟩, ⟨some 30, .load false 1 (.t 29), none, false⟩, ⟨some 8, .mov (.t 30), none, false⟩] [6, 8, 25, 26, 27]) (.reg [⟨some 31, .mov (.t 6), none, false⟩, ⟨some 32, .mov (.t 8), none, false⟩, ⟨some 33, .app 3 1 8 (.t 31) (.t 32), none, false⟩, ⟨some 6, .mov (.t 33), none, false⟩] [6, 25, 26, 27]))) (.reg [⟨some 34, .bin .add (.t 27) (.c (.int .i64 1)), none, false⟩, ⟨some 27, .mov (.t 34), none, false⟩] [6, 25, 26, 27])))
def b22 : XC := .seq (.reg [⟨some 2, .mov (.c .nils), none, false⟩] [0]) (.seq (.reg [⟨some 3, .mov (.c (.int .i64 0)), none, false⟩] [0, 3]) (.seq (.seq (.reg [⟨some 9, .mov (.t 0), none, false⟩, ⟨some 10, .len 1 (.t 9), none, false⟩, ⟨some 11, .mov (.c (.int .i64 0)), none, false⟩] [0, 3, 9, 10, 11]) (.block 0 (.loop lp22_0))) (.seq (.reg [⟨some 23, .mov (.t 3), none, false⟩, ⟨some 24, .call (.c (.func 45 [] [])) [.c .nils, .t 23], none, false⟩, ⟨some 6, .mov (.t 24), none, false⟩] [0, 6]) (.seq (.seq (.reg [⟨some 25, .mov (.t 0), none, false⟩, ⟨some 26, .len 1 (.t 25), none, false⟩, ⟨some 27, .mov (.c (.int .i64 0)), none, false⟩] [6, 25, 26, 27]) (.block 2 (.loop lp22_1))) (.seq (.reg [⟨some 35, .mov (.t 6), none, false⟩, ⟨some 2, .mov (.t 35), none, false⟩] [2]) .ret)))))
def x22 : XF := ⟨1, b22, [.t 2]⟩
def h22 : Hints := fun id => match id with
  | 0 => [0]
  | 1 => [0, 3]
  | 2 => [0, 3, 9, 10, 11]
  | 3 => [0, 3, 9, 10, 11, 12]
  | 4 => [0, 3, 5, 9, 10, 11]
  | 5 => [0, 3, 9, 10, 11]
  | 6 => [0, 3, 9, 10, 11, 20]
  | 7 => [0, 3, 9, 10, 11]
  | 8 => [0, 3, 9, 10, 11]
  | 9 => [0, 6]
  | 10 => [6, 25, 26, 27]
  | 11 => [6, 25, 26, 27, 28]
  | 12 => [6, 8, 25, 26, 27]
  | 13 => [6, 25, 26, 27]
  | 14 => [6, 25, 26, 27]
  | 15 => [2]
  | _ => []
theorem cv22 : cvF Tryd.prog h22 Tryd.f22 = some x22 := by kernel_rfl

/-- winnower/query.Check$1 -/
def b23 : XC := .seq (.reg [⟨some 3, .mov (.c (.bool false)), none, false⟩] [0, 1]) (.seq (.reg [⟨some 4, .load true 5 (.t 1), none, false⟩, ⟨some 5, .mov (.t 0), none, false⟩, ⟨some 6, .call (.c (.func 24 [] [])) [.t 4, .t 5], none, false⟩, ⟨some 7, .un .not (.t 6), none, false⟩, ⟨some 3, .mov (.t 7), none, false⟩] [3]) .ret)
def x23 : XF := ⟨2, b23, [.t 3]⟩
def h23 : Hints := fun id => match id with
  | 0 => [0, 1]
  | 1 => [3]
  | _ => []
theorem cv23 : cvF Tryd.prog h23 Tryd.f23 = some x23 := by kernel_rfl

/-- winnower/query.has -/
def b24 : XC := .seq (.reg [⟨some 2, .box 24 (.t 0), none, false⟩, ⟨some 4, .mov (.c (.bool false)), none, false⟩] [1, 2]) (.seq (.reg [⟨some 5, .mov (.t 1), none, false⟩, ⟨some 6, .bin .geq (.t 5) (.c (.int .i64 0)), none, false⟩, ⟨some 7, .mov (.t 6), none, false⟩, ⟨some 8, .mov (.t 1), some (7, true), false⟩, ⟨some 9, .faddr 0 (.t 2), some (7, true), false⟩, ⟨some 10, .load false 1 (.t 9), some (7, true), false⟩, ⟨some 11, .len 3 (.t 10), some (7, true), false⟩, ⟨some 12, .bin .lss (.t 8) (.t 11), some (7, true), false⟩, ⟨some 13, .pick (.t 7) (.t 12) (.c (.bool false)), none, false⟩, ⟨some 4, .mov (.t 13), none, false⟩] [4]) .ret)
def x24 : XF := ⟨2, b24, [.t 4]⟩
def h24 : Hints := fun id => match id with
  | 0 => [1, 2]
  | 1 => [4]
  | _ => []
theorem cv24 : cvF Tryd.prog h24 Tryd.f24 = some x24 := by kernel_rfl

/-- winnower/query.agg -/
def b25 : XC := .seq (.reg [⟨some 2, .box 24 (.t 0), none, false⟩, ⟨some 3, .box 51 (.t 1), none, false⟩, ⟨some 4, .mov (.c (.int .i64 0)), none, false⟩] [2, 3]) (.seq (.block 0 (.seq (.reg [⟨some 6, .faddr 0 (.t 3), none, false⟩, ⟨some 7, .load false 1 (.t 6), none, false⟩, ⟨some 8, .bin .lss (.t 7) (.c (.int .i64 1)), none, false⟩, ⟨some 9, .mov (.t 8), none, false⟩, ⟨some 10, .faddr 0 (.t 3), some (9, false), false⟩, ⟨some 11, .load false 1 (.t 10), some (9, false), false⟩, ⟨some 12, .bin .geq (.t 11) (.c (.int .i64 6)), some (9, false), false⟩, ⟨some 13, .pick (.t 9) (.c (.bool true)) (.t 12), none, false⟩, ⟨some 5, .mov (.t 13), none, false⟩] [2, 3, 5]) (.cond (.t 5) (.seq (.reg [⟨some 4, .mov (.c (.int .i64 1)), none, false⟩] [4]) .ret) (.seq (.reg [⟨some 15, .faddr 0 (.t 3), none, false⟩, ⟨some 16, .load false 1 (.t 15), none, false⟩, ⟨some 17, .bin .eql (.t 16) (.c (.int .i64 1)), none, false⟩, ⟨some 18, .mov (.t 17), none, false⟩, ⟨some 19, .faddr 1 (.t 3), some (18, true), false⟩, ⟨some 20, .load false 1 (.t 19), some (18, true), false⟩, ⟨some 21, .bin .eql (.t 20) (.c (.int .i64 (-1))), some (18, true), false⟩, ⟨some 22, .pick (.t 18) (.t 21) (.c (.bool false)), none, false⟩, ⟨some 14, .mov (.t 22), none, false⟩] [2, 3, 14]) (.cond (.t 14) (.seq (.reg [⟨some 4, .mov (.c (.int .i64 0)), none, false⟩] [4]) .ret) (.seq (.reg [⟨some 24, .load true 5 (.t 2), none, false⟩, ⟨some 25, .faddr 1 (.t 3), none, false⟩, ⟨some 26, .load false 1 (.t 25), none, false⟩, ⟨some 27, .call (.c (.func 24 [] [])) [.t 24, .t 26], none, false⟩, ⟨some 28, .un .not (.t 27), none, false⟩, ⟨some 23, .mov (.t 28), none, false⟩] [2, 3, 23]) (.cond (.t 23) (.seq (.reg [⟨some 4, .mov (.c (.int .i64 3)), none, false⟩] [4]) .ret) (.seq (.reg [⟨some 30, .faddr 0 (.t 3), none, false⟩, ⟨some 31, .load false 1 (.t 30), none, false⟩, ⟨some 32, .bin .eql (.t 31) (.c (.int .i64 2)), none, false⟩, ⟨some 33, .mov (.t 32), none, false⟩, ⟨some 34, .faddr 0 (.t 2), some (33, true), false⟩, ⟨some 35, .load false 1 (.t 34), some (33, true), false⟩, ⟨some 36, .faddr 1 (.t 3), some (33, true), false⟩, ⟨some 37, .load false 1 (.t 36), some (33, true), false⟩, ⟨some 38, .iaddr 3 (.t 35) (.t 37), some (33, true), false⟩, ⟨some 39, .faddr 1 (.t 38), some (33, true), false⟩, ⟨some 40, .load false 1 (.t 39), some (33, true), false⟩, ⟨some 41, .bin .neq (.t 40) (.c (.int .i64 1)), some (33, true), false⟩, ⟨some 42, .pick (.t 33) (.t 41) (.c (.bool false)), none, false⟩, ⟨some 29, .mov (.t 42), none, false⟩] [29]) (.cond (.t 29) (.seq (.reg [⟨some 4, .mov (.c (.int .i64 9)), none, false⟩] [4]) .ret) .skip))))))))) (.seq (.reg [⟨some 4, .mov (.c (.int .i64 0)), none, false⟩] [4]) .ret))
def x25 : XF := ⟨2, b25, [.t 4]⟩
def h25 : Hints := fun id => match id with
  | 0 => [2, 3]
  | 1 => [2, 3, 5]
  | 2 => [4]
  | 3 => [2, 3, 14]
  | 4 => [4]
  | 5 => [2, 3, 23]
  | 6 => [4]
  | 7 => [29]
  | 8 => [4]
  | 9 => [4]
  | _ => []
theorem cv25 : cvF Tryd.prog h25 Tryd.f25 = some x25 := by kernel_rfl

/-- slices.ContainsFunc[[]winnower/api.By,winnower/api.By] -/
def b26 : XC := .seq (.reg [⟨some 4, .mov (.c (.bool false)), none, false⟩] [0, 1]) (.seq (.reg [⟨some 5, .mov (.t 0), none, false⟩, ⟨some 6, .mov (.t 1), none, false⟩, ⟨some 7, .call (.c (.func 46 [] [])) [.t 5, .t 6], none, false⟩, ⟨some 8, .bin .geq (.t 7) (.c (.int .i64 0)), none, false⟩, ⟨some 4, .mov (.t 8), none, false⟩] [4]) .ret)
def x26 : XF := ⟨2, b26, [.t 4]⟩
def h26 : Hints := fun id => match id with
  | 0 => [0, 1]
  | 1 => [4]
  | _ => []
theorem cv26 : cvF Tryd.prog h26 Tryd.f26 = some x26 := by kernel_rfl

/-- winnower/query.Check$2 -/
def b27 : XC := .seq (.reg [⟨some 2, .box 37 (.t 0), none, false⟩, ⟨some 3, .mov (.c (.bool false)), none, false⟩] [1, 2]) (.seq (.reg [⟨some 4, .faddr 0 (.t 2), none, false⟩, ⟨some 5, .load false 1 (.t 4), none, false⟩, ⟨some 6, .bin .lss (.t 5) (.c (.int .i64 0)), none, false⟩, ⟨some 7, .mov (.t 6), none, false⟩, ⟨some 8, .faddr 0 (.t 2), some (7, false), false⟩, ⟨some 9, .load false 1 (.t 8), some (7, false), false⟩, ⟨some 10, .load true 6 (.t 1), some (7, false), false⟩, ⟨some 11, .call (.c (.func 28 [] [])) [.t 10], some (7, false), true⟩, ⟨some 12, .bin .geq (.t 9) (.t 11), some (7, false), false⟩, ⟨some 13, .pick (.t 7) (.c (.bool true)) (.t 12), none, false⟩, ⟨some 3, .mov (.t 13), none, false⟩] [3]) .ret)
def x27 : XF := ⟨2, b27, [.t 3]⟩
def h27 : Hints := fun id => match id with
  | 0 => [1, 2]
  | 1 => [3]
  | _ => []
theorem cv27 : cvF Tryd.prog h27 Tryd.f27 = some x27 := by kernel_rfl

/-- winnower/query.outputs -/
def b28 : XC := .seq (.reg [⟨some 1, .box 30 (.t 0), none, false⟩, ⟨some 2, .mov (.c (.int .i64 0)), none, false⟩] [1]) (.seq (.reg [⟨some 3, .faddr 1 (.t 1), none, false⟩, ⟨some 4, .load false 1 (.t 3), none, false⟩, ⟨some 5, .len 1 (.t 4), none, false⟩, ⟨some 6, .faddr 2 (.t 1), none, false⟩, ⟨some 7, .load false 1 (.t 6), none, false⟩, ⟨some 8, .len 1 (.t 7), none, false⟩, ⟨some 9, .bin .add (.t 5) (.t 8), none, false⟩, ⟨some 10, .faddr 3 (.t 1), none, false⟩, ⟨some 11, .load false 1 (.t 10), none, false⟩, ⟨some 12, .len 2 (.t 11), none, false⟩, ⟨some 13, .bin .add (.t 9) (.t 12), none, false⟩, ⟨some 2, .mov (.t 13), none, false⟩] [2]) .ret)
def x28 : XF := ⟨1, b28, [.t 2]⟩
def h28 : Hints := fun id => match id with
  | 0 => [1]
  | 1 => [2]
  | _ => []
theorem cv28 : cvF Tryd.prog h28 Tryd.f28 = some x28 := by kernel_rfl

/-- winnower/query.needs -/
def b29 : XC := .seq (.reg [⟨some 2, .mov (.c (.int .i64 0)), none, false⟩] [0]) (.seq (.block 0 (.seq (.reg [⟨some 4, .mov (.t 0), none, false⟩, ⟨some 5, .bin .eql (.t 4) (.c (.int .i64 0)), none, false⟩, ⟨some 3, .mov (.t 5), none, false⟩] [0, 3]) (.cond (.t 3) (.seq (.reg [⟨some 2, .mov (.c (.int .i64 0)), none, false⟩] [2]) .ret) (.seq (.reg [⟨some 7, .mov (.t 0), none, false⟩, ⟨some 8, .bin .geq (.t 7) (.c (.int .i64 1)), none, false⟩, ⟨some 9, .mov (.t 8), none, false⟩, ⟨some 10, .mov (.t 0), some (9, true), false⟩, ⟨some 11, .bin .leq (.t 10) (.c (.int .i64 6)), some (9, true), false⟩, ⟨some 12, .pick (.t 9) (.t 11) (.c (.bool false)), none, false⟩, ⟨some 6, .mov (.t 12), none, false⟩] [0, 6]) (.cond (.t 6) (.seq (.reg [⟨some 2, .mov (.c (.int .i64 1)), none, false⟩] [2]) .ret) (.seq (.reg [⟨some 14, .mov (.t 0), none, false⟩, ⟨some 15, .bin .eql (.t 14) (.c (.int .i64 7)), none, false⟩, ⟨some 13, .mov (.t 15), none, false⟩] [0, 13]) (.cond (.t 13) (.seq (.reg [⟨some 2, .mov (.c (.int .i64 2)), none, false⟩] [2]) .ret) (.seq (.seq (.reg [⟨some 17, .mov (.t 0), none, false⟩, ⟨some 18, .bin .eql (.t 17) (.c (.int .i64 8)), none, false⟩, ⟨some 16, .mov (.t 18), none, false⟩] [0, 16]) (.cond (.t 16) .skip (.reg [⟨some 19, .mov (.t 0), none, false⟩, ⟨some 20, .bin .eql (.t 19) (.c (.int .i64 9)), none, false⟩, ⟨some 16, .mov (.t 20), none, false⟩] [0, 16]))) (.cond (.t 16) (.seq (.reg [⟨some 2, .mov (.c (.int .i64 3)), none, false⟩] [2]) .ret) (.seq (.reg [⟨some 22, .mov (.t 0), none, false⟩, ⟨some 23, .bin .eql (.t 22) (.c (.int .i64 10)), none, false⟩, ⟨some 21, .mov (.t 23), none, false⟩] [21]) (.cond (.t 21) (.seq (.reg [⟨some 2, .mov (.c (.int .i64 4)), none, false⟩] [2]) .ret) .skip))))))))))) (.seq (.reg [⟨some 2, .mov (.c (.int .i64 5)), none, false⟩] [2]) .ret))
def x29 : XF := ⟨1, b29, [.t 2]⟩
def h29 : Hints := fun id => match id with
  | 0 => [0]
  | 1 => [0, 3]
  | 2 => [2]
  | 3 => [0, 6]
  | 4 => [2]
  | 5 => [0, 13]
  | 6 => [2]
  | 7 => [0, 16]
  | 8 => [0, 16]
  | 9 => [2]
  | 10 => [21]
  | 11 => [2]
  | 12 => [2]
  | _ => []
theorem cv29 : cvF Tryd.prog h29 Tryd.f29 = some x29 := by kernel_rfl

/-- slices.DeleteFunc[[]int,int] -/
def lp30_0 : XC := .seq (.seq (.reg [⟨some 16, .mov (.t 6), none, false⟩, ⟨some 17, .mov (.t 0), none, false⟩, ⟨some 18, .len 1 (.t 17), none, false⟩, ⟨some 19, .bin .lss (.t 16) (.t 18), none, false⟩] [0, 1, 5, 6, 19]) (.cond (.t 19) .skip (.exit 0))) (.seq (.block 1 (.seq (.reg [⟨some 22, .mov (.t 0), none, false⟩, ⟨some 23, .mov (.t 6), none, false⟩, ⟨some 24, .iaddr 1 (.t 22) (.t 23), none, false⟩, ⟨some 25, .load false 1 (.t 24), none, false⟩, ⟨some 7, .mov (.t 25), none, false⟩] [0, 1, 5, 6, 7]) (.seq (.reg [⟨some 26, .mov (.t 1), none, false⟩, ⟨some 27, .mov (.t 7), none, false⟩, ⟨some 28, .call (.t 26) [.t 27], none, false⟩, ⟨some 29, .un .not (.t 28), none, false⟩] [0, 1, 5, 6, 7, 29]) (.cond (.t 29) (.seq (.reg [⟨some 30, .mov (.t 0), none, false⟩, ⟨some 31, .mov (.t 5), none, false⟩, ⟨some 32, .mov (.t 7), none, false⟩, ⟨some 33, .iaddr 1 (.t 30) (.t 31), none, false⟩, ⟨none, .store 1 (.t 33) (.t 32), none, false⟩] [0, 1, 5, 6]) (.reg [⟨some 34, .mov (.t 5), none, false⟩, ⟨some 35, .bin .add (.t 34) (.c (.int .i64 1)), none, false⟩, ⟨some 5, .mov (.t 35), none, false⟩] [0, 1, 5, 6])) .skip)))) (.reg [⟨some 20, .mov (.t 6), none, false⟩, ⟨some 21, .bin .add (.t 20) (.c (.int .i64 1)), none, false⟩, ⟨some 6, .mov (.t 21), none, false⟩] [0, 1, 5, 6]))
def b30 : XC := .seq (.reg [⟨some 4, .mov (.c .nils), none, false⟩] [0, 1]) (.seq (.reg [⟨some 8, .mov (.t 0), none, false⟩, ⟨some 9, .mov (.t 1), none, false⟩, ⟨some 10, .call (.c (.func 44 [] [])) [.t 8, .t 9], none, false⟩, ⟨some 5, .mov (.t 10), none, false⟩] [0, 1, 5]) (.seq (.seq (.reg [⟨some 11, .mov (.t 5), none, false⟩, ⟨some 12, .bin .eql (.t 11) (.c (.int .i64 (-1))), none, false⟩] [0, 1, 5, 12]) (.cond (.t 12) (.seq (.reg [⟨some 13, .mov (.t 0), none, false⟩, ⟨some 4, .mov (.t 13), none, false⟩] [4]) .ret) .skip)) (.seq (.seq (.reg [⟨some 14, .mov (.t 5), none, false⟩, ⟨some 15, .bin .add (.t 14) (.c (.int .i64 1)), none, false⟩, ⟨some 6, .mov (.t 15), none, false⟩] [0, 1, 5, 6]) (.block 0 (.loop lp30_0))) (.seq (.reg [⟨some 36, .mov (.t 0), none, false⟩, ⟨some 37, .mov (.t 5), none, false⟩, ⟨some 38, .slc 1 (.t 36) (some (.t 37)) none none, none, false⟩, ⟨none, .clr 1 (.int .i64 0) (.t 38), none, false⟩] [0, 5]) (.seq (.reg [⟨some 39, .mov (.t 0), none, false⟩, ⟨some 40, .mov (.t 5), none, false⟩, ⟨some 41, .slc 1 (.t 39) none (some (.t 40)) none, none, false⟩, ⟨some 4, .mov (.t 41), none, false⟩] [4]) .ret)))))
def x30 : XF := ⟨2, b30, [.t 4]⟩
def h30 : Hints := fun id => match id with
  | 0 => [0, 1]
  | 1 => [0, 1, 5]
  | 2 => [0, 1, 5, 12]
  | 3 => [4]
  | 4 => [0, 1, 5, 6]
  | 5 => [0, 1, 5, 6, 19]
  | 6 => [0, 1, 5, 6]
  | 7 => [0, 1, 5, 6, 7]
  | 8 => [0, 1, 5, 6, 7, 29]
  | 9 => [0, 1, 5, 6]
  | 10 => [0, 1, 5, 6]
  | 11 => [0, 5]
  | 12 => [4]
  | _ => []
theorem cv30 : cvF Tryd.prog h30 Tryd.f30 = some x30 := by kernel_rfl

/-- winnower/query.Uses$1 -/
def b31 : XC := .seq (.reg [⟨some 2, .mov (.c (.bool false)), none, false⟩] [0]) (.seq (.reg [⟨some 3, .mov (.t 0), none, false⟩, ⟨some 4, .bin .lss (.t 3) (.c (.int .i64 0)), none, false⟩, ⟨some 2, .mov (.t 4), none, false⟩] [2]) .ret)
def x31 : XF := ⟨1, b31, [.t 2]⟩
def h31 : Hints := fun id => match id with
  | 0 => [0]
  | 1 => [2]
  | _ => []
theorem cv31 : cvF Tryd.prog h31 Tryd.f31 = some x31 := by kernel_rfl

/-- slices.Compact[[]int,int] -/
def lp33_1 : XC := .seq (.seq (.reg [⟨some 29, .mov (.t 5), none, false⟩, ⟨some 30, .mov (.t 4), none, false⟩, ⟨some 31, .len 1 (.t 30), none, false⟩, ⟨some 32, .bin .lss (.t 29) (.t 31), none, false⟩] [0, 3, 4, 5, 32]) (.cond (.t 32) .skip (.exit 2))) (.seq (.block 3 (.seq (.reg [⟨some 35, .mov (.t 4), none, false⟩, ⟨some 36, .mov (.t 5), none, false⟩, ⟨some 37, .iaddr 1 (.t 35) (.t 36), none, false⟩, ⟨some 38, .load false 1 (.t 37), none, false⟩, ⟨some 39, .mov (.t 4), none, false⟩, ⟨some 40, .mov (.t 5), none, false⟩, ⟨some 41, .bin .sub (.t 40) (.c (.int .i64 1)), none, false⟩, ⟨some 42, .iaddr 1 (.t 39) (.t 41), none, false⟩, ⟨some 43, .load false 1 (.t 42), none, false⟩, ⟨some 44, .bin .neq (.t 38) (.t 43), none, false⟩] [0, 3, 4, 5, 44]) (.cond (.t 44) (.seq (.reg [⟨some 45, .mov (.t 0), none, false⟩, ⟨some 46, .mov (.t 3), none, false⟩, ⟨some 47, .mov (.t 4), none, false⟩, ⟨some 48, .mov (.t 5), none, false⟩, ⟨some 49, .iaddr 1 (.t 47) (.t 48), none, false⟩, ⟨some 50, .load false 1 (.t 49), none, false⟩, ⟨some 51, .iaddr 1 (.t 45) (.t 46), none, false⟩, ⟨none, .store 1 (.t 51) (.t 50), none, false⟩] [0, 3, 4, 5]) (.reg [⟨some 52, .mov (.t 3), none, false⟩, ⟨some 53, .bin .add (.t 52) (.c (.int .i64 1)), none, false⟩, ⟨some 3, .mov (.t 53), none, false⟩] [0, 3, 4, 5])) .skip))) (.reg [⟨some 33, .mov (.t 5), none, false⟩, ⟨some 34, .bin .add (.t 33) (.c (.int .i64 1)), none, false⟩, ⟨some 5, .mov (.t 34), none, false⟩] [0, 3, 4, 5]))
def lp33_0 : XC := .seq (.seq (.reg [⟨some 10, .mov (.t 3), none, false⟩, ⟨some 11, .mov (.t 0), none, false⟩, ⟨some 12, .len 1 (.t 11), none, false⟩, ⟨some 13, .bin .lss (.t 10) (.t 12), none, false⟩] [0, 3, 13]) (.cond (.t 13) .skip (.exit 0))) (.seq (.block 1 (.seq (.reg [⟨some 16, .mov (.t 0), none, false⟩, ⟨some 17, .mov (.t 3), none, false⟩, ⟨some 18, .iaddr 1 (.t 16) (.t 17), none, false⟩, ⟨some 19, .load false 1 (.t 18), none, false⟩, ⟨some 20, .mov (.t 0), none, false⟩, ⟨some 21, .mov (.t 3), none, false⟩, ⟨some 22, .bin .sub (.t 21) (.c (.int .i64 1)), none, false⟩, ⟨some 23, .iaddr 1 (.t 20) (.t 22), none, false⟩, ⟨some 24, .load false 1 (.t 23), none, false⟩, ⟨some 25, .bin .eql (.t 19) (.t 24), none, false⟩] [0, 3, 25]) (.cond (.t 25) (.seq (.reg [⟨some 26, .mov (.t 0), none, false⟩, ⟨some 27, .mov (.t 3), none, false⟩, ⟨some 28, .slc 1 (.t 26) (some (.t 27)) none none, none, false⟩, ⟨some 4, .mov (.t 28), none, false⟩] [0, 3, 4]) (.seq (.seq (.reg [⟨some 5, .mov (.c (.int .i64 1)), none, false⟩] [0, 3, 4, 5]) (.block 2 (.loop lp33_1))) (.seq (.reg [⟨some 54, .mov (.t 0), none, false⟩, ⟨some 55, .mov (.t 3), none, false⟩, ⟨some 56, .slc 1 (.t 54) (some (.t 55)) none none, none, false⟩, ⟨none, .clr 1 (.int .i64 0) (.t 56), none, false⟩] [0, 3]) (.seq (.reg [⟨some 57, .mov (.t 0), none, false⟩, ⟨some 58, .mov (.t 3), none, false⟩, ⟨some 59, .slc 1 (.t 57) none (some (.t 58)) none, none, false⟩, ⟨some 2, .mov (.t 59), none, false⟩] [2]) .ret)))) .skip))) (.reg [⟨some 14, .mov (.t 3), none, false⟩, ⟨some 15, .bin .add (.t 14) (.c (.int .i64 1)), none, false⟩, ⟨some 3, .mov (.t 15), none, false⟩] [0, 3]))
def b33 : XC := .seq (.reg [⟨some 2, .mov (.c .nils), none, false⟩] [0]) (.seq (.seq (.reg [⟨some 6, .mov (.t 0), none, false⟩, ⟨some 7, .len 1 (.t 6), none, false⟩, ⟨some 8, .bin .lss (.t 7) (.c (.int .i64 2)), none, false⟩] [0, 8]) (.cond (.t 8) (.seq (.reg [⟨some 9, .mov (.t 0), none, false⟩, ⟨some 2, .mov (.t 9), none, false⟩] [2]) .ret) .skip)) (.seq (.seq (.reg [⟨some 3, .mov (.c (.int .i64 1)), none, false⟩] [0, 3]) (.block 0 (.loop lp33_0))) (.seq (.reg [⟨some 60, .mov (.t 0), none, false⟩, ⟨some 2, .mov (.t 60), none, false⟩] [2]) .ret)))
def x33 : XF := ⟨1, b33, [.t 2]⟩
def h33 : Hints := fun id => match id with
  | 0 => [0]
  | 1 => [0, 8]
  | 2 => [2]
  | 3 => [0, 3]
  | 4 => [0, 3, 13]
  | 5 => [0, 3]
  | 6 => [0, 3, 25]
  | 7 => [0, 3, 4]
  | 8 => [0, 3, 4, 5]
  | 9 => [0, 3, 4, 5, 32]
  | 10 => [0, 3, 4, 5]
  | 11 => [0, 3, 4, 5, 44]
  | 12 => [0, 3, 4, 5]
  | 13 => [0, 3, 4, 5]
  | 14 => [0, 3]
  | 15 => [2]
  | 16 => [2]
  | _ => []
theorem cv33 : cvF Tryd.prog h33 Tryd.f33 = some x33 := by kernel_rfl

/-- winnower/winnowerref16.names -/
def lp34_0 : XC := .seq (.seq (.reg [⟨some 9, .mov (.t 5), none, false⟩, ⟨some 10, .faddr 0 (.t 2), none, false⟩, ⟨some 11, .load false 1 (.t 10), none, false⟩, ⟨some 12, .len 8 (.t 11), none, false⟩, ⟨some 13, .bin .lss (.t 9) (.t 12), none, false⟩] [1, 2, 5, 13]) (.cond (.t 13) .skip (.exit 0))) (.seq (.block 1 (.seq (.reg [⟨some 16, .faddr 0 (.t 2), none, false⟩, ⟨some 17, .load false 1 (.t 16), none, false⟩, ⟨some 18, .mov (.t 5), none, false⟩, ⟨some 19, .iaddr 8 (.t 17) (.t 18), none, false⟩, ⟨some 20, .faddr 0 (.t 19), none, false⟩, ⟨some 21, .load false 1 (.t 20), none, false⟩, ⟨some 22, .bin .geq (.t 21) (.c (.int .i64 1)), none, false⟩, ⟨some 23, .mov (.t 22), none, false⟩, ⟨some 24, .faddr 0 (.t 2), some (23, true), false⟩, ⟨some 25, .load false 1 (.t 24), some (23, true), false⟩, ⟨some 26, .mov (.t 5), some (23, true), false⟩, ⟨some 27, .iaddr 8 (.t 25) (.t 26), some (23, true), false⟩, ⟨some 28, .faddr 0 (.t 27), some (23, true), false⟩, ⟨some 29, .load false 1 (.t 28), some (23, true), false⟩, ⟨some 30, .bin .leq (.t 29) (.c (.int .i64 7)), some (23, true), false⟩, ⟨some 31, .pick (.t 23) (.t 30) (.c (.bool false)), none, false⟩, ⟨some 32, .mov (.t 31), none, false⟩, ⟨some 33, .faddr 0 (.t 2), some (32, true), false⟩, ⟨some 34, .load false 1 (.t 33), some (32, true), false⟩, ⟨some 35, .mov (.t 5), some (32, true), false⟩, ⟨some 36, .iaddr 8 (.t 34) (.t 35), some (32, true), false⟩, ⟨some 37, .faddr 1 (.t 36), some (32, true), false⟩, ⟨some 38, .load false 1 (.t 37), some (32, true), false⟩, ⟨some 39, .mov (.t 1), some (32, true), false⟩, ⟨some 40, .bin .eql (.t 38) (.t 39), some (32, true), false⟩, ⟨some 41, .pick (.t 32) (.t 40) (.c (.bool false)), none, false⟩] [1, 2, 5, 41]) (.cond (.t 41) (.seq (.reg [⟨some 4, .mov (.c (.bool true)), none, false⟩] [4]) .ret) .skip))) (.reg [⟨some 14, .mov (.t 5), none, false⟩, ⟨some 15, .bin .add (.t 14) (.c (.int .i64 1)), none, false⟩, ⟨some 5, .mov (.t 15), none, false⟩] [1, 2, 5]))
def lp34_1 : XC := .seq (.seq (.reg [⟨some 42, .mov (.t 6), none, false⟩, ⟨some 43, .faddr 1 (.t 2), none, false⟩, ⟨some 44, .load false 1 (.t 43), none, false⟩, ⟨some 45, .len 1 (.t 44), none, false⟩, ⟨some 46, .bin .lss (.t 42) (.t 45), none, false⟩] [1, 2, 6, 46]) (.cond (.t 46) .skip (.exit 2))) (.seq (.block 3 (.seq (.reg [⟨some 49, .faddr 1 (.t 2), none, false⟩, ⟨some 50, .load false 1 (.t 49), none, false⟩, ⟨some 51, .mov (.t 6), none, false⟩, ⟨some 52, .iaddr 1 (.t 50) (.t 51), none, false⟩, ⟨some 53, .load false 1 (.t 52), none, false⟩, ⟨some 54, .mov (.t 1), none, false⟩, ⟨some 55, .bin .eql (.t 53) (.t 54), none, false⟩] [1, 2, 6, 55]) (.cond (.t 55) (.seq (.reg [⟨some 4, .mov (.c (.bool true)), none, false⟩] [4]) .ret) .skip))) (.reg [⟨some 47, .mov (.t 6), none, false⟩, ⟨some 48, .bin .add (.t 47) (.c (.int .i64 1)), none, false⟩, ⟨some 6, .mov (.t 48), none, false⟩] [1, 2, 6]))
def lp34_2 : XC := .seq (.seq (.reg [⟨some 56, .mov (.t 7), none, false⟩, ⟨some 57, .faddr 2 (.t 2), none, false⟩, ⟨some 58, .load false 1 (.t 57), none, false⟩, ⟨some 59, .len 1 (.t 58), none, false⟩, ⟨some 60, .bin .lss (.t 56) (.t 59), none, false⟩] [1, 2, 7, 60]) (.cond (.t 60) .skip (.exit 4))) (.seq (.block 5 (.seq (.reg [⟨some 63, .faddr 2 (.t 2), none, false⟩, ⟨some 64, .load false 1 (.t 63), none, false⟩, ⟨some 65, .mov (.t 7), none, false⟩, ⟨some 66, .iaddr 1 (.t 64) (.t 65), none, false⟩, ⟨some 67, .load false 1 (.t 66), none, false⟩, ⟨some 68, .mov (.t 1), none, false⟩, ⟨some 69, .bin .eql (.t 67) (.t 68), none, false⟩] [1, 2, 7, 69]) (.cond (.t 69) (.seq (.reg [⟨some 4, .mov (.c (.bool true)), none, false⟩] [4]) .ret) .skip))) (.reg [⟨some 61, .mov (.t 7), none, false⟩, ⟨some 62, .bin .add (.t 61) (.c (.int .i64 1)), none, false⟩, ⟨some 7, .mov (.t 62), none, false⟩] [1, 2, 7]))
def lp34_3 : XC := .seq (.seq (.reg [⟨some 70, .mov (.t 8), none, false⟩, ⟨some 71, .faddr 3 (.t 2), none, false⟩, ⟨some 72, .load false 1 (.t 71), none, false⟩, ⟨some 73, .len 2 (.t 72), none, false⟩, ⟨some 74, .bin .lss (.t 70) (.t 73), none, false⟩] [1, 2, 8, 74]) (.cond (.t 74) .skip (.exit 6))) (.seq (.block 7 (.seq (.reg [⟨some 77, .faddr 3 (.t 2), none, false⟩, ⟨some 78, .load false 1 (.t 77), none, false⟩, ⟨some 79, .mov (.t 8), none, false⟩, ⟨some 80, .iaddr 2 (.t 78) (.t 79), none, false⟩, ⟨some 81, .faddr 1 (.t 80), none, false⟩, ⟨some 82, .load false 1 (.t 81), none, false⟩, ⟨some 83, .mov (.t 1), none, false⟩, ⟨some 84, .bin .eql (.t 82) (.t 83), none, false⟩] [1, 2, 8, 84]) (.cond (.t 84) (.seq (.reg [⟨some 4, .mov (.c (.bool true)), none, false⟩] [4]) .ret) .skip))) (.reg [⟨some 75, .mov (.t 8), none, false⟩, ⟨some 76, .bin .add (.t 75) (.c (.int .i64 1)), none, false⟩, ⟨some 8, .mov (.t 76), none, false⟩] [1, 2, 8]))
def b34 : XC := .seq (.reg [⟨some 2, .box 30 (.t 0), none, false⟩, ⟨some 4, .mov (.c (.bool false)), none, false⟩] [1, 2]) (.seq (.seq (.reg [⟨some 5, .mov (.c (.int .i64 0)), none, false⟩] [1, 2, 5]) (.block 0 (.loop lp34_0))) (.seq (.seq (.reg [⟨some 6, .mov (.c (.int .i64 0)), none, false⟩] [1, 2, 6]) (.block 2 (.loop lp34_1))) (.seq (.seq (.reg [⟨some 7, .mov (.c (.int .i64 0)), none, false⟩] [1, 2, 7]) (.block 4 (.loop lp34_2))) (.seq (.seq (.reg [⟨some 8, .mov (.c (.int .i64 0)), none, false⟩] [1, 2, 8]) (.block 6 (.loop lp34_3))) (.seq (.reg [⟨some 4, .mov (.c (.bool false)), none, false⟩] [4]) .ret)))))
def x34 : XF := ⟨2, b34, [.t 4]⟩
def h34 : Hints := fun id => match id with
  | 0 => [1, 2]
  | 1 => [1, 2, 5]
  | 2 => [1, 2, 5, 13]
  | 3 => [1, 2, 5]
  | 4 => [1, 2, 5, 41]
  | 5 => [4]
  | 6 => [1, 2, 6]
  | 7 => [1, 2, 6, 46]
  | 8 => [1, 2, 6]
  | 9 => [1, 2, 6, 55]
  | 10 => [4]
  | 11 => [1, 2, 7]
  | 12 => [1, 2, 7, 60]
  | 13 => [1, 2, 7]
  | 14 => [1, 2, 7, 69]
  | 15 => [4]
  | 16 => [1, 2, 8]
  | 17 => [1, 2, 8, 74]
  | 18 => [1, 2, 8]
  | 19 => [1, 2, 8, 84]
  | 20 => [4]
  | 21 => [4]
  | _ => []
theorem cv34 : cvF Tryd.prog h34 Tryd.f34 = some x34 := by kernel_rfl

/-- winnower/winnowerref07.May -/
def lp35_1 : XC := .seq (.seq (.reg [⟨some 55, .mov (.t 5), none, false⟩, ⟨some 56, .mov (.t 3), none, false⟩, ⟨some 57, .bin .lss (.t 55) (.t 56), none, false⟩] [1, 3, 4, 5, 57]) (.cond (.t 57) .skip (.exit 2))) (.seq (.block 3 (.seq (.reg [⟨some 60, .faddr 0 (.t 1), none, false⟩, ⟨some 61, .load false 1 (.t 60), none, false⟩, ⟨some 62, .mov (.t 5), none, false⟩, ⟨some 63, .iaddr 3 (.t 61) (.t 62), none, false⟩, ⟨some 64, .faddr 0 (.t 63), none, false⟩, ⟨some 65, .load false 1 (.t 64), none, false⟩, ⟨some 66, .faddr 0 (.t 4), none, false⟩, ⟨some 67, .load false 1 (.t 66), none, false⟩, ⟨some 68, .bin .eql (.t 65) (.t 67), none, false⟩] [1, 3, 4, 5, 68]) (.cond (.t 68) (.seq (.reg [⟨some 2, .mov (.c (.bool false)), none, false⟩] [2]) .ret) .skip))) (.reg [⟨some 58, .mov (.t 5), none, false⟩, ⟨some 59, .bin .add (.t 58) (.c (.int .i64 1)), none, false⟩, ⟨some 5, .mov (.t 59), none, false⟩] [1, 3, 4, 5]))
def lp35_0 : XC := .seq (.seq (.reg [⟨some 29, .mov (.t 3), none, false⟩, ⟨some 30, .faddr 0 (.t 1), none, false⟩, ⟨some 31, .load false 1 (.t 30), none, false⟩, ⟨some 32, .len 3 (.t 31), none, false⟩, ⟨some 33, .bin .lss (.t 29) (.t 32), none, false⟩] [1, 3, 33]) (.cond (.t 33) .skip (.exit 0))) (.seq (.block 1 (.seq (.reg [⟨some 36, .faddr 0 (.t 1), none, false⟩, ⟨some 37, .load false 1 (.t 36), none, false⟩, ⟨some 38, .mov (.t 3), none, false⟩, ⟨some 39, .iaddr 3 (.t 37) (.t 38), none, false⟩, ⟨some 40, .load true 3 (.t 39), none, false⟩, ⟨some 4, .alloc 53 [.str ⟨#[]⟩, .int .i64 0, .bool false], none, false⟩, ⟨none, .store 3 (.t 4) (.t 40), none, false⟩] [1, 3, 4]) (.seq (.seq (.reg [⟨some 41, .faddr 0 (.t 4), none, false⟩, ⟨some 42, .load false 1 (.t 41), none, false⟩, ⟨some 43, .call (.c (.func 49 [] [])) [.t 42], none, false⟩, ⟨some 44, .un .not (.t 43), none, false⟩, ⟨some 45, .mov (.t 44), none, false⟩, ⟨some 46, .faddr 1 (.t 4), some (45, false), false⟩, ⟨some 47, .load false 1 (.t 46), some (45, false), false⟩, ⟨some 48, .bin .lss (.t 47) (.c (.int .i64 1)), some (45, false), false⟩, ⟨some 49, .pick (.t 45) (.c (.bool true)) (.t 48), none, false⟩, ⟨some 50, .mov (.t 49), none, false⟩, ⟨some 51, .faddr 1 (.t 4), some (50, false), false⟩, ⟨some 52, .load false 1 (.t 51), some (50, false), false⟩, ⟨some 53, .bin .gtr (.t 52) (.c (.int .i64 3)), some (50, false), false⟩, ⟨some 54, .pick (.t 50) (.c (.bool true)) (.t 53), none, false⟩] [1, 3, 4, 54]) (.cond (.t 54) (.seq (.reg [⟨some 2, .mov (.c (.bool false)), none, false⟩] [2]) .ret) .skip)) (.seq (.reg [⟨some 5, .mov (.c (.int .i64 0)), none, false⟩] [1, 3, 4, 5]) (.block 2 (.loop lp35_1)))))) (.reg [⟨some 34, .mov (.t 3), none, false⟩, ⟨some 35, .bin .add (.t 34) (.c (.int .i64 1)), none, false⟩, ⟨some 3, .mov (.t 35), none, false⟩] [1, 3]))
def b35 : XC := .seq (.reg [⟨some 1, .box 24 (.t 0), none, false⟩, ⟨some 2, .mov (.c (.bool false)), none, false⟩] [1]) (.seq (.seq (.reg [⟨some 6, .faddr 0 (.t 1), none, false⟩, ⟨some 7, .load false 1 (.t 6), none, false⟩, ⟨some 8, .len 3 (.t 7), none, false⟩, ⟨some 9, .bin .lss (.t 8) (.c (.int .i64 1)), none, false⟩, ⟨some 10, .mov (.t 9), none, false⟩, ⟨some 11, .faddr 0 (.t 1), some (10, false), false⟩, ⟨some 12, .load false 1 (.t 11), some (10, false), false⟩, ⟨some 13, .len 3 (.t 12), some (10, false), false⟩, ⟨some 14, .bin .gtr (.t 13) (.c (.int .i64 8)), some (10, false), false⟩, ⟨some 15, .pick (.t 10) (.c (.bool true)) (.t 14), none, false⟩, ⟨some 16, .mov (.t 15), none, false⟩, ⟨some 17, .faddr 4 (.t 1), some (16, false), false⟩, ⟨some 18, .load false 1 (.t 17), some (16, false), false⟩, ⟨some 19, .bin .lss (.t 18) (.c (.int .i64 (-1))), some (16, false), false⟩, ⟨some 20, .pick (.t 16) (.c (.bool true)) (.t 19), none, false⟩, ⟨some 21, .mov (.t 20), none, false⟩, ⟨some 22, .faddr 4 (.t 1), some (21, false), false⟩, ⟨some 23, .load false 1 (.t 22), some (21, false), false⟩, ⟨some 24, .faddr 0 (.t 1), some (21, false), false⟩, ⟨some 25, .load false 1 (.t 24), some (21, false), false⟩, ⟨some 26, .len 3 (.t 25), some (21, false), false⟩, ⟨some 27, .bin .geq (.t 23) (.t 26), some (21, false), false⟩, ⟨some 28, .pick (.t 21) (.c (.bool true)) (.t 27), none, false⟩] [1, 28]) (.cond (.t 28) (.seq (.reg [⟨some 2, .mov (.c (.bool false)), none, false⟩] [2]) .ret) .skip)) (.seq (.seq (.reg [⟨some 3, .mov (.c (.int .i64 0)), none, false⟩] [1, 3]) (.block 0 (.loop lp35_0))) (.seq (.seq (.reg [⟨some 69, .faddr 1 (.t 1), none, false⟩, ⟨some 70, .load false 1 (.t 69), none, false⟩, ⟨some 71, .bin .eql (.t 70) (.c (.int .i64 (-1))), none, false⟩] [1, 71]) (.cond (.t 71) (.seq (.reg [⟨some 72, .faddr 2 (.t 1), none, false⟩, ⟨some 73, .load false 1 (.t 72), none, false⟩, ⟨some 74, .bin .eql (.t 73) (.c (.int .i64 (-1))), none, false⟩, ⟨some 75, .mov (.t 74), none, false⟩, ⟨some 76, .faddr 3 (.t 1), some (75, true), false⟩, ⟨some 77, .load false 1 (.t 76), some (75, true), false⟩, ⟨some 78, .bin .eql (.t 77) (.c (.int .i64 (-1))), some (75, true), false⟩, ⟨some 79, .pick (.t 75) (.t 78) (.c (.bool false)), none, false⟩, ⟨some 2, .mov (.t 79), none, false⟩] [2]) .ret) .skip)) (.seq (.seq (.reg [⟨some 80, .load true 5 (.t 1), none, false⟩, ⟨some 81, .faddr 1 (.t 1), none, false⟩, ⟨some 82, .load false 1 (.t 81), none, false⟩, ⟨some 83, .call (.c (.func 50 [] [])) [.t 80, .t 82], none, false⟩, ⟨some 84, .un .not (.t 83), none, false⟩, ⟨some 85, .mov (.t 84), none, false⟩, ⟨some 86, .load true 5 (.t 1), some (85, false), false⟩, ⟨some 87, .faddr 2 (.t 1), some (85, false), false⟩, ⟨some 88, .load false 1 (.t 87), some (85, false), false⟩, ⟨some 89, .call (.c (.func 50 [] [])) [.t 86, .t 88], some (85, false), false⟩, ⟨some 90, .un .not (.t 89), some (85, false), false⟩, ⟨some 91, .pick (.t 85) (.c (.bool true)) (.t 90), none, false⟩, ⟨some 92, .mov (.t 91), none, false⟩, ⟨some 93, .faddr 0 (.t 1), some (92, false), false⟩, ⟨some 94, .load false 1 (.t 93), some (92, false), false⟩, ⟨some 95, .faddr 2 (.t 1), some (92, false), false⟩, ⟨some 96, .load false 1 (.t 95), some (92, false), false⟩, ⟨some 97, .iaddr 3 (.t 94) (.t 96), some (92, false), false⟩, ⟨some 98, .faddr 1 (.t 97), some (92, false), false⟩, ⟨some 99, .load false 1 (.t 98), some (92, false), false⟩, ⟨some 100, .bin .neq (.t 99) (.c (.int .i64 1)), some (92, false), false⟩, ⟨some 101, .pick (.t 92) (.c (.bool true)) (.t 100), none, false⟩] [1, 101]) (.cond (.t 101) (.seq (.reg [⟨some 2, .mov (.c (.bool false)), none, false⟩] [2]) .ret) .skip)) (.seq (.reg [⟨some 102, .faddr 3 (.t 1), none, false⟩, ⟨some 103, .load false 1 (.t 102), none, false⟩, ⟨some 104, .bin .eql (.t 103) (.c (.int .i64 (-1))), none, false⟩, ⟨some 105, .mov (.t 104), none, false⟩, ⟨some 106, .load true 5 (.t 1), some (105, false), false⟩, ⟨some 107, .faddr 3 (.t 1), some (105, false), false⟩, ⟨some 108, .load false 1 (.t 107), some (105, false), false⟩, ⟨some 109, .call (.c (.func 50 [] [])) [.t 106, .t 108], some (105, false), false⟩, ⟨some 110, .mov (.t 109), some (105, false), false⟩, ⟨some 111, .faddr 0 (.t 1), some (110, true), false⟩, ⟨some 112, .load false 1 (.t 111), some (110, true), false⟩, ⟨some 113, .faddr 3 (.t 1), some (110, true), false⟩, ⟨some 114, .load false 1 (.t 113), some (110, true), false⟩, ⟨some 115, .iaddr 3 (.t 112) (.t 114), some (110, true), false⟩, ⟨some 116, .faddr 1 (.t 115), some (110, true), false⟩, ⟨some 117, .load false 1 (.t 116), some (110, true), false⟩, ⟨some 118, .bin .eql (.t 117) (.c (.int .i64 3)), some (110, true), false⟩, ⟨some 119, .pick (.t 110) (.t 118) (.c (.bool false)), some (105, false), false⟩, ⟨some 120, .pick (.t 105) (.c (.bool true)) (.t 119), none, false⟩, ⟨some 2, .mov (.t 120), none, false⟩] [2]) .ret)))))
def x35 : XF := ⟨1, b35, [.t 2]⟩
def h35 : Hints := fun id => match id with
  | 0 => [1]
  | 1 => [1, 28]
  | 2 => [2]
  | 3 => [1, 3]
  | 4 => [1, 3, 33]
  | 5 => [1, 3]
  | 6 => [1, 3, 4]
  | 7 => [1, 3, 4, 54]
  | 8 => [2]
  | 9 => [1, 3, 4, 5]
  | 10 => [1, 3, 4, 5, 57]
  | 11 => [1, 3, 4, 5]
  | 12 => [1, 3, 4, 5, 68]
  | 13 => [2]
  | 14 => [1, 71]
  | 15 => [2]
  | 16 => [1, 101]
  | 17 => [2]
  | 18 => [2]
  | _ => []
theorem cv35 : cvF Tryd.prog h35 Tryd.f35 = some x35 := by kernel_rfl

/-- winnower/winnowerref16.node -/
def b36 : XC := .seq (.reg [⟨some 3, .box 24 (.t 0), none, false⟩, ⟨some 4, .box 41 (.t 1), none, false⟩, ⟨some 6, .mov (.c (.int .i64 0)), none, false⟩] [2, 3, 4]) (.seq (.seq (.reg [⟨some 8, .faddr 0 (.t 4), none, false⟩, ⟨some 9, .load false 1 (.t 8), none, false⟩, ⟨some 10, .bin .lss (.t 9) (.c (.int .i64 0)), none, false⟩, ⟨some 11, .mov (.t 10), none, false⟩, ⟨some 12, .faddr 0 (.t 4), some (11, false), false⟩, ⟨some 13, .load false 1 (.t 12), some (11, false), false⟩, ⟨some 14, .bin .gtr (.t 13) (.c (.int .i64 10)), some (11, false), false⟩, ⟨some 15, .pick (.t 11) (.c (.bool true)) (.t 14), none, false⟩] [2, 3, 4, 15]) (.cond (.t 15) (.seq (.reg [⟨some 6, .mov (.c (.int .i64 1)), none, false⟩] [6]) .ret) .skip)) (.seq (.seq (.reg [⟨some 16, .faddr 0 (.t 4), none, false⟩, ⟨some 17, .load false 1 (.t 16), none, false⟩, ⟨some 18, .bin .geq (.t 17) (.c (.int .i64 1)), none, false⟩, ⟨some 19, .mov (.t 18), none, false⟩, ⟨some 20, .faddr 0 (.t 4), some (19, true), false⟩, ⟨some 21, .load false 1 (.t 20), some (19, true), false⟩, ⟨some 22, .bin .leq (.t 21) (.c (.int .i64 7)), some (19, true), false⟩, ⟨some 23, .pick (.t 19) (.t 22) (.c (.bool false)), none, false⟩, ⟨some 24, .mov (.t 23), none, false⟩, ⟨some 25, .load true 5 (.t 3), some (24, true), false⟩, ⟨some 26, .faddr 1 (.t 4), some (24, true), false⟩, ⟨some 27, .load false 1 (.t 26), some (24, true), false⟩, ⟨some 28, .call (.c (.func 37 [] [])) [.t 25, .t 27], some (24, true), false⟩, ⟨some 29, .un .not (.t 28), some (24, true), false⟩, ⟨some 30, .pick (.t 24) (.t 29) (.c (.bool false)), none, false⟩] [2, 3, 4, 30]) (.cond (.t 30) (.seq (.reg [⟨some 6, .mov (.c (.int .i64 3)), none, false⟩] [6]) .ret) .skip)) (.seq (.seq (.reg [⟨some 31, .faddr 0 (.t 4), none, false⟩, ⟨some 32, .load false 1 (.t 31), none, false⟩, ⟨some 33, .bin .geq (.t 32) (.c (.int .i64 1)), none, false⟩, ⟨some 34, .mov (.t 33), none, false⟩, ⟨some 35, .faddr 0 (.t 4), some (34, true), false⟩, ⟨some 36, .load false 1 (.t 35), some (34, true), false⟩, ⟨some 37, .bin .leq (.t 36) (.c (.int .i64 6)), some (34, true), false⟩, ⟨some 38, .pick (.t 34) (.t 37) (.c (.bool false)), none, false⟩] [2, 3, 4, 38]) (.cond (.t 38) (.seq (.reg [⟨some 39, .faddr 2 (.t 4), none, false⟩, ⟨some 40, .load true 4 (.t 39), none, false⟩, ⟨some 41, .call (.c (.func 51 [] [])) [.t 40], none, false⟩, ⟨some 7, .mov (.t 41), none, false⟩] [2, 3, 4, 7]) (.seq (.reg [⟨some 42, .mov (.t 7), none, false⟩, ⟨some 43, .un .not (.t 42), none, false⟩, ⟨some 44, .mov (.t 43), none, false⟩, ⟨some 45, .faddr 2 (.t 4), some (44, false), false⟩, ⟨some 46, .faddr 0 (.t 45), some (44, false), false⟩, ⟨some 47, .load false 1 (.t 46), some (44, false), false⟩, ⟨some 48, .faddr 0 (.t 3), some (44, false), false⟩, ⟨some 49, .load false 1 (.t 48), some (44, false), false⟩, ⟨some 50, .faddr 1 (.t 4), some (44, false), false⟩, ⟨some 51, .load false 1 (.t 50), some (44, false), false⟩, ⟨some 52, .iaddr 3 (.t 49) (.t 51), some (44, false), false⟩, ⟨some 53, .faddr 1 (.t 52), some (44, false), false⟩, ⟨some 54, .load false 1 (.t 53), some (44, false), false⟩, ⟨some 55, .bin .neq (.t 47) (.t 54), some (44, false), false⟩, ⟨some 56, .pick (.t 44) (.c (.bool true)) (.t 55), none, false⟩] [2, 4, 56]) (.cond (.t 56) (.seq (.reg [⟨some 6, .mov (.c (.int .i64 9)), none, false⟩] [6]) .ret) .skip))) .skip)) (.seq (.seq (.reg [⟨some 57, .faddr 0 (.t 4), none, false⟩, ⟨some 58, .load false 1 (.t 57), none, false⟩, ⟨some 59, .bin .geq (.t 58) (.c (.int .i64 8)), none, false⟩, ⟨some 60, .mov (.t 59), none, false⟩, ⟨some 61, .faddr 6 (.t 4), some (60, true), false⟩, ⟨some 62, .load false 1 (.t 61), some (60, true), false⟩, ⟨some 63, .bin .lss (.t 62) (.c (.int .i64 0)), some (60, true), false⟩, ⟨some 64, .mov (.t 63), some (60, true), false⟩, ⟨some 65, .faddr 6 (.t 4), some (64, false), false⟩, ⟨some 66, .load false 1 (.t 65), some (64, false), false⟩, ⟨some 67, .mov (.t 2), some (64, false), false⟩, ⟨some 68, .bin .geq (.t 66) (.t 67), some (64, false), false⟩, ⟨some 69, .pick (.t 64) (.c (.bool true)) (.t 68), some (60, true), false⟩, ⟨some 70, .pick (.t 60) (.t 69) (.c (.bool false)), none, false⟩] [2, 4, 70]) (.cond (.t 70) (.seq (.reg [⟨some 6, .mov (.c (.int .i64 5)), none, false⟩] [6]) .ret) .skip)) (.seq (.seq (.reg [⟨some 71, .faddr 0 (.t 4), none, false⟩, ⟨some 72, .load false 1 (.t 71), none, false⟩, ⟨some 73, .bin .eql (.t 72) (.c (.int .i64 8)), none, false⟩, ⟨some 74, .mov (.t 73), none, false⟩, ⟨some 75, .faddr 0 (.t 4), some (74, false), false⟩, ⟨some 76, .load false 1 (.t 75), some (74, false), false⟩, ⟨some 77, .bin .eql (.t 76) (.c (.int .i64 9)), some (74, false), false⟩, ⟨some 78, .pick (.t 74) (.c (.bool true)) (.t 77), none, false⟩, ⟨some 79, .mov (.t 78), none, false⟩, ⟨some 80, .faddr 7 (.t 4), some (79, true), false⟩, ⟨some 81, .load false 1 (.t 80), some (79, true), false⟩, ⟨some 82, .bin .lss (.t 81) (.c (.int .i64 0)), some (79, true), false⟩, ⟨some 83, .mov (.t 82), some (79, true), false⟩, ⟨some 84, .faddr 7 (.t 4), some (83, false), false⟩, ⟨some 85, .load false 1 (.t 84), some (83, false), false⟩, ⟨some 86, .mov (.t 2), some (83, false), false⟩, ⟨some 87, .bin .geq (.t 85) (.t 86), some (83, false), false⟩, ⟨some 88, .pick (.t 83) (.c (.bool true)) (.t 87), some (79, true), false⟩, ⟨some 89, .pick (.t 79) (.t 88) (.c (.bool false)), none, false⟩] [89]) (.cond (.t 89) (.seq (.reg [⟨some 6, .mov (.c (.int .i64 5)), none, false⟩] [6]) .ret) .skip)) (.seq (.reg [⟨some 6, .mov (.c (.int .i64 0)), none, false⟩] [6]) .ret))))))
def x36 : XF := ⟨3, b36, [.t 6]⟩
def h36 : Hints := fun id => match id with
  | 0 => [2, 3, 4]
  | 1 => [2, 3, 4, 15]
  | 2 => [6]
  | 3 => [2, 3, 4, 30]
  | 4 => [6]
  | 5 => [2, 3, 4, 38]
  | 6 => [2, 3, 4, 7]
  | 7 => [2, 4, 56]
  | 8 => [6]
  | 9 => [2, 4, 70]
  | 10 => [6]
  | 11 => [89]
  | 12 => [6]
  | 13 => [6]
  | _ => []
theorem cv36 : cvF Tryd.prog h36 Tryd.f36 = some x36 := by kernel_rfl

/-- winnower/winnowerref16.has -/
def b37 : XC := .seq (.reg [⟨some 2, .box 24 (.t 0), none, false⟩, ⟨some 4, .mov (.c (.bool false)), none, false⟩] [1, 2]) (.seq (.reg [⟨some 5, .mov (.t 1), none, false⟩, ⟨some 6, .bin .geq (.t 5) (.c (.int .i64 0)), none, false⟩, ⟨some 7, .mov (.t 6), none, false⟩, ⟨some 8, .mov (.t 1), some (7, true), false⟩, ⟨some 9, .faddr 0 (.t 2), some (7, true), false⟩, ⟨some 10, .load false 1 (.t 9), some (7, true), false⟩, ⟨some 11, .len 3 (.t 10), some (7, true), false⟩, ⟨some 12, .bin .lss (.t 8) (.t 11), some (7, true), false⟩, ⟨some 13, .pick (.t 7) (.t 12) (.c (.bool false)), none, false⟩, ⟨some 4, .mov (.t 13), none, false⟩] [4]) .ret)
def x37 : XF := ⟨2, b37, [.t 4]⟩
def h37 : Hints := fun id => match id with
  | 0 => [1, 2]
  | 1 => [4]
  | _ => []
theorem cv37 : cvF Tryd.prog h37 Tryd.f37 = some x37 := by kernel_rfl

/-- winnower/winnowerref16.agg -/
def b38 : XC := .seq (.reg [⟨some 2, .box 24 (.t 0), none, false⟩, ⟨some 3, .box 51 (.t 1), none, false⟩, ⟨some 4, .mov (.c (.int .i64 0)), none, false⟩] [2, 3]) (.seq (.seq (.reg [⟨some 5, .faddr 0 (.t 3), none, false⟩, ⟨some 6, .load false 1 (.t 5), none, false⟩, ⟨some 7, .bin .lss (.t 6) (.c (.int .i64 1)), none, false⟩, ⟨some 8, .mov (.t 7), none, false⟩, ⟨some 9, .faddr 0 (.t 3), some (8, false), false⟩, ⟨some 10, .load false 1 (.t 9), some (8, false), false⟩, ⟨some 11, .bin .gtr (.t 10) (.c (.int .i64 5)), some (8, false), false⟩, ⟨some 12, .pick (.t 8) (.c (.bool true)) (.t 11), none, false⟩] [2, 3, 12]) (.cond (.t 12) (.seq (.reg [⟨some 4, .mov (.c (.int .i64 1)), none, false⟩] [4]) .ret) .skip)) (.seq (.seq (.reg [⟨some 13, .faddr 0 (.t 3), none, false⟩, ⟨some 14, .load false 1 (.t 13), none, false⟩, ⟨some 15, .bin .eql (.t 14) (.c (.int .i64 1)), none, false⟩, ⟨some 16, .mov (.t 15), none, false⟩, ⟨some 17, .faddr 1 (.t 3), some (16, true), false⟩, ⟨some 18, .load false 1 (.t 17), some (16, true), false⟩, ⟨some 19, .bin .eql (.t 18) (.c (.int .i64 (-1))), some (16, true), false⟩, ⟨some 20, .pick (.t 16) (.t 19) (.c (.bool false)), none, false⟩] [2, 3, 20]) (.cond (.t 20) (.seq (.reg [⟨some 4, .mov (.c (.int .i64 0)), none, false⟩] [4]) .ret) .skip)) (.seq (.seq (.reg [⟨some 21, .load true 5 (.t 2), none, false⟩, ⟨some 22, .faddr 1 (.t 3), none, false⟩, ⟨some 23, .load false 1 (.t 22), none, false⟩, ⟨some 24, .call (.c (.func 37 [] [])) [.t 21, .t 23], none, false⟩, ⟨some 25, .un .not (.t 24), none, false⟩] [2, 3, 25]) (.cond (.t 25) (.seq (.reg [⟨some 4, .mov (.c (.int .i64 3)), none, false⟩] [4]) .ret) .skip)) (.seq (.seq (.reg [⟨some 26, .faddr 0 (.t 3), none, false⟩, ⟨some 27, .load false 1 (.t 26), none, false⟩, ⟨some 28, .bin .eql (.t 27) (.c (.int .i64 2)), none, false⟩, ⟨some 29, .mov (.t 28), none, false⟩, ⟨some 30, .faddr 0 (.t 2), some (29, true), false⟩, ⟨some 31, .load false 1 (.t 30), some (29, true), false⟩, ⟨some 32, .faddr 1 (.t 3), some (29, true), false⟩, ⟨some 33, .load false 1 (.t 32), some (29, true), false⟩, ⟨some 34, .iaddr 3 (.t 31) (.t 33), some (29, true), false⟩, ⟨some 35, .faddr 1 (.t 34), some (29, true), false⟩, ⟨some 36, .load false 1 (.t 35), some (29, true), false⟩, ⟨some 37, .bin .neq (.t 36) (.c (.int .i64 1)), some (29, true), false⟩, ⟨some 38, .pick (.t 29) (.t 37) (.c (.bool false)), none, false⟩] [38]) (.cond (.t 38) (.seq (.reg [⟨some 4, .mov (.c (.int .i64 9)), none, false⟩] [4]) .ret) .skip)) (.seq (.reg [⟨some 4, .mov (.c (.int .i64 0)), none, false⟩] [4]) .ret)))))
def x38 : XF := ⟨2, b38, [.t 4]⟩
def h38 : Hints := fun id => match id with
  | 0 => [2, 3]
  | 1 => [2, 3, 12]
  | 2 => [4]
  | 3 => [2, 3, 20]
  | 4 => [4]
  | 5 => [2, 3, 25]
  | 6 => [4]
  | 7 => [38]
  | 8 => [4]
  | 9 => [4]
  | _ => []
theorem cv38 : cvF Tryd.prog h38 Tryd.f38 = some x38 := by kernel_rfl

/-- winnower/schema.name -/
def b39 : XC := .seq (.reg [⟨some 2, .mov (.c (.bool false)), none, false⟩] [0]) (.seq (.reg [⟨some 3, .mov (.t 0), none, false⟩, ⟨some 4, .lens (.t 3), none, false⟩, ⟨some 5, .bin .geq (.t 4) (.c (.int .i64 1)), none, false⟩, ⟨some 6, .mov (.t 5), none, false⟩, ⟨some 7, .mov (.t 0), some (6, true), false⟩, ⟨some 8, .lens (.t 7), some (6, true), false⟩, ⟨some 9, .bin .leq (.t 8) (.c (.int .i64 16)), some (6, true), false⟩, ⟨some 10, .pick (.t 6) (.t 9) (.c (.bool false)), none, false⟩, ⟨some 11, .mov (.t 10), none, false⟩, ⟨some 12, .mov (.t 0), some (11, true), false⟩, ⟨some 13, .call (.c (.func 52 [] [])) [.t 12, .c (.str ⟨#[97, 98, 99, 100, 101, 102, 103, 104, 105, 106, 107, 108, 109, 110, 111, 112, 113, 114, 115, 116, 117, 118, 119, 120, 121, 122, 48, 49, 50, 51, 52, 53, 54, 55, 56, 57, 95]⟩)], some (11, true), false⟩, ⟨some 14, .bin .eql (.t 13) (.c (.str ⟨#[]⟩)), some (11, true), false⟩, ⟨some 15, .pick (.t 11) (.t 14) (.c (.bool false)), none, false⟩, ⟨some 2, .mov (.t 15), none, false⟩] [2]) .ret)
def x39 : XF := ⟨1, b39, [.t 2]⟩
def h39 : Hints := fun id => match id with
  | 0 => [0]
  | 1 => [2]
  | _ => []
theorem cv39 : cvF Tryd.prog h39 Tryd.f39 = some x39 := by kernel_rfl

/-- winnower/schema.Find -/
def b40 : XC := .seq (.reg [⟨some 2, .box 24 (.t 0), none, false⟩, ⟨some 3, .box 9 (.t 1), none, false⟩, ⟨some 4, .mov (.c (.int .i64 0)), none, false⟩] [2, 3]) (.seq (.reg [⟨some 5, .faddr 0 (.t 2), none, false⟩, ⟨some 6, .load false 1 (.t 5), none, false⟩, ⟨some 7, .mkfn 54 [] [.t 3], none, false⟩, ⟨some 8, .call (.c (.func 53 [] [])) [.t 6, .t 7], none, false⟩, ⟨some 4, .mov (.t 8), none, false⟩] [4]) .ret)
def x40 : XF := ⟨2, b40, [.t 4]⟩
def h40 : Hints := fun id => match id with
  | 0 => [2, 3]
  | 1 => [4]
  | _ => []
theorem cv40 : cvF Tryd.prog h40 Tryd.f40 = some x40 := by kernel_rfl

/-- winnower/schema.keyed -/
def b41 : XC := .seq (.reg [⟨some 1, .box 24 (.t 0), none, false⟩, ⟨some 2, .mov (.c (.bool false)), none, false⟩] [1]) (.seq (.seq (.reg [⟨some 3, .faddr 1 (.t 1), none, false⟩, ⟨some 4, .load false 1 (.t 3), none, false⟩, ⟨some 5, .bin .eql (.t 4) (.c (.int .i64 (-1))), none, false⟩] [1, 5]) (.cond (.t 5) (.seq (.reg [⟨some 6, .faddr 2 (.t 1), none, false⟩, ⟨some 7, .load false 1 (.t 6), none, false⟩, ⟨some 8, .bin .eql (.t 7) (.c (.int .i64 (-1))), none, false⟩, ⟨some 9, .mov (.t 8), none, false⟩, ⟨some 10, .faddr 3 (.t 1), some (9, true), false⟩, ⟨some 11, .load false 1 (.t 10), some (9, true), false⟩, ⟨some 12, .bin .eql (.t 11) (.c (.int .i64 (-1))), some (9, true), false⟩, ⟨some 13, .pick (.t 9) (.t 12) (.c (.bool false)), none, false⟩, ⟨some 2, .mov (.t 13), none, false⟩] [2]) .ret) .skip)) (.seq (.reg [⟨some 14, .load true 5 (.t 1), none, false⟩, ⟨some 15, .faddr 1 (.t 1), none, false⟩, ⟨some 16, .load false 1 (.t 15), none, false⟩, ⟨some 17, .call (.c (.func 55 [] [])) [.t 14, .t 16, .c (.int .i64 0)], none, false⟩, ⟨some 18, .mov (.t 17), none, false⟩, ⟨some 19, .load true 5 (.t 1), some (18, true), false⟩, ⟨some 20, .faddr 2 (.t 1), some (18, true), false⟩, ⟨some 21, .load false 1 (.t 20), some (18, true), false⟩, ⟨some 22, .call (.c (.func 55 [] [])) [.t 19, .t 21, .c (.int .i64 1)], some (18, true), false⟩, ⟨some 23, .pick (.t 18) (.t 22) (.c (.bool false)), none, false⟩, ⟨some 24, .mov (.t 23), none, false⟩, ⟨some 25, .faddr 3 (.t 1), some (24, true), false⟩, ⟨some 26, .load false 1 (.t 25), some (24, true), false⟩, ⟨some 27, .bin .eql (.t 26) (.c (.int .i64 (-1))), some (24, true), false⟩, ⟨some 28, .mov (.t 27), some (24, true), false⟩, ⟨some 29, .load true 5 (.t 1), some (28, false), false⟩, ⟨some 30, .faddr 3 (.t 1), some (28, false), false⟩, ⟨some 31, .load false 1 (.t 30), some (28, false), false⟩, ⟨some 32, .call (.c (.func 55 [] [])) [.t 29, .t 31, .c (.int .i64 3)], some (28, false), false⟩, ⟨some 33, .pick (.t 28) (.c (.bool true)) (.t 32), some (24, true), false⟩, ⟨some 34, .pick (.t 24) (.t 33) (.c (.bool false)), none, false⟩, ⟨some 2, .mov (.t 34), none, false⟩] [2]) .ret))
def x41 : XF := ⟨1, b41, [.t 2]⟩
def h41 : Hints := fun id => match id with
  | 0 => [1]
  | 1 => [1, 5]
  | 2 => [2]
  | 3 => [2]
  | _ => []
theorem cv41 : cvF Tryd.prog h41 Tryd.f41 = some x41 := by kernel_rfl

/-- winnower/query.filter$1 -/
def b42 : XC := .seq (.reg [⟨some 3, .mov (.c (.bool false)), none, false⟩] [0, 1]) (.seq (.reg [⟨some 4, .mov (.t 0), none, false⟩, ⟨some 5, .bin .geq (.t 4) (.c (.int .i64 0)), none, false⟩, ⟨some 6, .mov (.t 5), none, false⟩, ⟨some 7, .mov (.t 0), some (6, true), false⟩, ⟨some 8, .load false 1 (.t 1), some (6, true), false⟩, ⟨some 9, .bin .lss (.t 7) (.t 8), some (6, true), false⟩, ⟨some 10, .pick (.t 6) (.t 9) (.c (.bool false)), none, false⟩, ⟨some 3, .mov (.t 10), none, false⟩] [3]) .ret)
def x42 : XF := ⟨2, b42, [.t 3]⟩
def h42 : Hints := fun id => match id with
  | 0 => [0, 1]
  | 1 => [3]
  | _ => []
theorem cv42 : cvF Tryd.prog h42 Tryd.f42 = some x42 := by kernel_rfl

/-- winnower/value.May -/
def b43 : XC := .seq (.reg [⟨some 1, .box 39 (.t 0), none, false⟩, ⟨some 2, .mov (.c (.bool false)), none, false⟩] [1]) (.seq (.reg [⟨some 4, .faddr 0 (.t 1), none, false⟩, ⟨some 5, .load false 1 (.t 4), none, false⟩, ⟨some 6, .build [.int .i64 0, .int .i64 0, .str ⟨#[]⟩, .bool false] [(0, (1, .t 5))], none, false⟩, ⟨some 3, .alloc 39 [.int .i64 0, .int .i64 0, .str ⟨#[]⟩, .bool false], none, false⟩, ⟨none, .store 4 (.t 3) (.t 6), none, false⟩] [1, 3]) (.seq (.seq (.reg [⟨some 7, .faddr 0 (.t 1), none, false⟩, ⟨some 8, .load false 1 (.t 7), none, false⟩] [1, 3, 8]) (.block 0 (.seq (.block 5 (.seq (.block 4 (.seq (.block 3 (.seq (.block 2 (.seq (.block 1 (.seq (.seq (.seq (.reg [⟨some 10, .bin .eql (.t 8) (.c (.int .i64 1)), none, false⟩, ⟨some 9, .mov (.t 10), none, false⟩] [1, 3, 8, 9]) (.cond (.t 9) (.exit 1) .skip)) (.seq (.seq (.reg [⟨some 12, .bin .eql (.t 8) (.c (.int .i64 2)), none, false⟩, ⟨some 11, .mov (.t 12), none, false⟩] [1, 3, 8, 11]) (.cond (.t 11) (.exit 2) .skip)) (.seq (.seq (.reg [⟨some 14, .bin .eql (.t 8) (.c (.int .i64 3)), none, false⟩, ⟨some 13, .mov (.t 14), none, false⟩] [1, 3, 8, 13]) (.cond (.t 13) (.exit 3) .skip)) (.seq (.reg [⟨some 16, .bin .eql (.t 8) (.c (.int .i64 0)), none, false⟩, ⟨some 15, .mov (.t 16), none, false⟩] [1, 3, 15]) (.cond (.t 15) (.exit 4) .skip))))) (.exit 5))) (.seq (.reg [⟨some 17, .faddr 1 (.t 1), none, false⟩, ⟨some 18, .load false 1 (.t 17), none, false⟩, ⟨some 19, .faddr 1 (.t 3), none, false⟩, ⟨none, .store 1 (.t 19) (.t 18), none, false⟩] [1, 3]) (.exit 0)))) (.seq (.seq (.reg [⟨some 20, .faddr 2 (.t 1), none, false⟩, ⟨some 21, .load false 1 (.t 20), none, false⟩, ⟨some 22, .faddr 2 (.t 3), none, false⟩, ⟨none, .store 1 (.t 22) (.t 21), none, false⟩] [1, 3]) (.seq (.reg [⟨some 23, .faddr 2 (.t 1), none, false⟩, ⟨some 24, .load false 1 (.t 23), none, false⟩, ⟨some 25, .lens (.t 24), none, false⟩, ⟨some 26, .bin .gtr (.t 25) (.c (.int .i64 64)), none, false⟩] [1, 3, 26]) (.cond (.t 26) (.seq (.reg [⟨some 2, .mov (.c (.bool false)), none, false⟩] [2]) .ret) .skip))) (.exit 0)))) (.reg [⟨some 27, .faddr 3 (.t 1), none, false⟩, ⟨some 28, .load false 1 (.t 27), none, false⟩, ⟨some 29, .faddr 3 (.t 3), none, false⟩, ⟨none, .store 1 (.t 29) (.t 28), none, false⟩] [1, 3]))) (.seq (.exit 0) (.exit 0)))) (.seq (.seq (.reg [⟨some 2, .mov (.c (.bool false)), none, false⟩] [2]) .ret) (.exit 0))))) (.seq (.reg [⟨some 30, .load true 4 (.t 1), none, false⟩, ⟨some 31, .load true 4 (.t 3), none, false⟩, ⟨some 32, .eqa [1, 1, 2, 0] false (.t 30) (.t 31), none, false⟩, ⟨some 2, .mov (.t 32), none, false⟩] [2]) .ret)))
def x43 : XF := ⟨1, b43, [.t 2]⟩
def h43 : Hints := fun id => match id with
  | 0 => [1]
  | 1 => [1, 3]
  | 2 => [1, 3, 8]
  | 3 => [1, 3, 8, 9]
  | 4 => [1, 3, 8, 11]
  | 5 => [1, 3, 8, 13]
  | 6 => [1, 3, 15]
  | 7 => [1, 3]
  | 8 => [1, 3]
  | 9 => [1, 3, 26]
  | 10 => [2]
  | 11 => [1, 3]
  | 12 => [2]
  | 13 => [2]
  | _ => []
theorem cv43 : cvF Tryd.prog h43 Tryd.f43 = some x43 := by kernel_rfl

/-- slices.IndexFunc[[]int,int] -/
def lp44_0 : XC := .seq (.reg [⟨some 9, .bin .lss (.t 8) (.t 7), none, false⟩] [0, 1, 7, 8, 9]) (.seq (.cond (.t 9) .skip (.exit 0)) (.seq (.block 1 (.seq (.reg [⟨some 10, .mov (.t 8), none, false⟩, ⟨some 5, .mov (.t 10), none, false⟩] [0, 1, 5, 7, 8]) (.seq (.reg [⟨some 11, .mov (.t 1), none, false⟩, ⟨some 12, .mov (.t 0), none, false⟩, ⟨some 13, .mov (.t 5), none, false⟩, ⟨some 14, .iaddr 1 (.t 12) (.t 13), none, false⟩, ⟨some 15, .load false 1 (.t 14), none, false⟩, ⟨some 16, .call (.t 11) [.t 15], none, false⟩] [0, 1, 5, 7, 8, 16]) (.cond (.t 16) (.seq (.reg [⟨some 17, .mov (.t 5), none, false⟩, ⟨some 4, .mov (.t 17), none, false⟩] [4]) .ret) .skip)))) (.reg [⟨some 18, .bin .add (.t 8) (.c (.int .i64 1)), none, false⟩, ⟨some 8, .mov (.t 18), none, false⟩] [0, 1, 7, 8])))
def b44 : XC := .seq (.reg [⟨some 4, .mov (.c (.int .i64 0)), none, false⟩] [0, 1]) (.seq (.seq (.reg [⟨some 6, .mov (.t 0), none, false⟩, ⟨some 7, .len 1 (.t 6), none, false⟩, ⟨some 8, .mov (.c (.int .i64 0)), none, false⟩] [0, 1, 7, 8]) (.block 0 (.loop lp44_0))) (.seq (.reg [⟨some 4, .mov (.c (.int .i64 (-1))), none, false⟩] [4]) .ret))
def x44 : XF := ⟨2, b44, [.t 4]⟩
def h44 : Hints := fun id => match id with
  | 0 => [0, 1]
  | 1 => [0, 1, 7, 8]
  | 2 => [0, 1, 7, 8, 9]
  | 3 => [0, 1, 5, 7, 8]
  | 4 => [0, 1, 5, 7, 8, 16]
  | 5 => [4]
  | 6 => [0, 1, 7, 8]
  | 7 => [4]
  | _ => []
theorem cv44 : cvF Tryd.prog h44 Tryd.f44 = some x44 := by kernel_rfl

/-- slices.Grow[[]int,int] -/
def b45 : XC := .seq (.reg [⟨some 4, .mov (.c .nils), none, false⟩] [0, 1]) (.seq (.seq (.reg [⟨some 5, .mov (.t 1), none, false⟩, ⟨some 6, .bin .lss (.t 5) (.c (.int .i64 0)), none, false⟩] [0, 1, 6]) (.cond (.t 6) (.reg [⟨some 7, .mkif 9 (.c (.str ⟨#[99, 97, 110, 110, 111, 116, 32, 98, 101, 32, 110, 101, 103, 97, 116, 105, 118, 101]⟩)), none, false⟩, ⟨none, .ext (.c .undef) 0, none, false⟩] [0, 1]) .skip)) (.seq (.seq (.reg [⟨some 8, .mov (.t 1), none, false⟩, ⟨some 9, .mov (.t 0), none, false⟩, ⟨some 10, .capn (.t 9), none, false⟩, ⟨some 11, .mov (.t 0), none, false⟩, ⟨some 12, .len 1 (.t 11), none, false⟩, ⟨some 13, .bin .sub (.t 10) (.t 12), none, false⟩, ⟨some 14, .bin .sub (.t 8) (.t 13), none, false⟩, ⟨some 1, .mov (.t 14), none, false⟩] [0, 1]) (.seq (.reg [⟨some 15, .mov (.t 1), none, false⟩, ⟨some 16, .bin .gtr (.t 15) (.c (.int .i64 0)), none, false⟩] [0, 1, 16]) (.cond (.t 16) (.reg [⟨some 17, .mov (.t 0), none, false⟩, ⟨some 18, .mov (.t 0), none, false⟩, ⟨some 19, .capn (.t 18), none, false⟩, ⟨some 20, .slc 1 (.t 17) none (some (.t 19)) none, none, false⟩, ⟨some 21, .mov (.t 1), none, false⟩, ⟨some 22, .appz 3 1 8 (.int .i64 0) (.t 20) (.t 21), none, false⟩, ⟨some 23, .mov (.t 0), none, false⟩, ⟨some 24, .len 1 (.t 23), none, false⟩, ⟨some 25, .slc 1 (.t 22) none (some (.t 24)) none, none, false⟩, ⟨some 0, .mov (.t 25), none, false⟩] [0]) .skip))) (.seq (.reg [⟨some 26, .mov (.t 0), none, false⟩, ⟨some 4, .mov (.t 26), none, false⟩] [4]) .ret)))
def x45 : XF := ⟨2, b45, [.t 4]⟩
def h45 : Hints := fun id => match id with
  | 0 => [0, 1]
  | 1 => [0, 1, 6]
  | 2 => [0, 1]
  | 3 => [0, 1]
  | 4 => [0, 1, 16]
  | 5 => [0]
  | 6 => [4]
  | _ => []
theorem cv45 : cvF Tryd.prog h45 Tryd.f45 = some x45 := by kernel_rfl

/-- slices.IndexFunc[[]winnower/api.By,winnower/api.By] -/
def lp46_0 : XC := .seq (.reg [⟨some 9, .bin .lss (.t 8) (.t 7), none, false⟩] [0, 1, 7, 8, 9]) (.seq (.cond (.t 9) .skip (.exit 0)) (.seq (.block 1 (.seq (.reg [⟨some 10, .mov (.t 8), none, false⟩, ⟨some 5, .mov (.t 10), none, false⟩] [0, 1, 5, 7, 8]) (.seq (.reg [⟨some 11, .mov (.t 1), none, false⟩, ⟨some 12, .mov (.t 0), none, false⟩, ⟨some 13, .mov (.t 5), none, false⟩, ⟨some 14, .iaddr 2 (.t 12) (.t 13), none, false⟩, ⟨some 15, .load true 2 (.t 14), none, false⟩, ⟨some 16, .call (.t 11) [.t 15], none, false⟩] [0, 1, 5, 7, 8, 16]) (.cond (.t 16) (.seq (.reg [⟨some 17, .mov (.t 5), none, false⟩, ⟨some 4, .mov (.t 17), none, false⟩] [4]) .ret) .skip)))) (.reg [⟨some 18, .bin .add (.t 8) (.c (.int .i64 1)), none, false⟩, ⟨some 8, .mov (.t 18), none, false⟩] [0, 1, 7, 8])))
def b46 : XC := .seq (.reg [⟨some 4, .mov (.c (.int .i64 0)), none, false⟩] [0, 1]) (.seq (.seq (.reg [⟨some 6, .mov (.t 0), none, false⟩, ⟨some 7, .len 2 (.t 6), none, false⟩, ⟨some 8, .mov (.c (.int .i64 0)), none, false⟩] [0, 1, 7, 8]) (.block 0 (.loop lp46_0))) (.seq (.reg [⟨some 4, .mov (.c (.int .i64 (-1))), none, false⟩] [4]) .ret))
def x46 : XF := ⟨2, b46, [.t 4]⟩
def h46 : Hints := fun id => match id with
  | 0 => [0, 1]
  | 1 => [0, 1, 7, 8]
  | 2 => [0, 1, 7, 8, 9]
  | 3 => [0, 1, 5, 7, 8]
  | 4 => [0, 1, 5, 7, 8, 16]
  | 5 => [4]
  | 6 => [0, 1, 7, 8]
  | 7 => [4]
  | _ => []
theorem cv46 : cvF Tryd.prog h46 Tryd.f46 = some x46 := by kernel_rfl

/-- winnower/winnowerref07.name -/
def lp49_0 : XC := .seq (.seq (.reg [⟨some 13, .mov (.t 3), none, false⟩, ⟨some 14, .mov (.t 0), none, false⟩, ⟨some 15, .lens (.t 14), none, false⟩, ⟨some 16, .bin .lss (.t 13) (.t 15), none, false⟩] [0, 3, 16]) (.cond (.t 16) .skip (.exit 0))) (.seq (.block 1 (.seq (.reg [⟨some 19, .mov (.t 0), none, false⟩, ⟨some 20, .mov (.t 3), none, false⟩, ⟨some 21, .idxs (.t 19) (.t 20), none, false⟩, ⟨some 4, .mov (.t 21), none, false⟩] [0, 3, 4]) (.seq (.reg [⟨some 22, .mov (.t 4), none, false⟩, ⟨some 23, .bin .geq (.t 22) (.c (.int .u8 97)), none, false⟩, ⟨some 24, .mov (.t 23), none, false⟩, ⟨some 25, .mov (.t 4), some (24, true), false⟩, ⟨some 26, .bin .leq (.t 25) (.c (.int .u8 122)), some (24, true), false⟩, ⟨some 27, .pick (.t 24) (.t 26) (.c (.bool false)), none, false⟩, ⟨some 28, .mov (.t 27), none, false⟩, ⟨some 29, .mov (.t 4), some (28, false), false⟩, ⟨some 30, .bin .geq (.t 29) (.c (.int .u8 48)), some (28, false), false⟩, ⟨some 31, .mov (.t 30), some (28, false), false⟩, ⟨some 32, .mov (.t 4), some (31, true), false⟩, ⟨some 33, .bin .leq (.t 32) (.c (.int .u8 57)), some (31, true), false⟩, ⟨some 34, .pick (.t 31) (.t 33) (.c (.bool false)), some (28, false), false⟩, ⟨some 35, .pick (.t 28) (.c (.bool true)) (.t 34), none, false⟩, ⟨some 36, .mov (.t 35), none, false⟩, ⟨some 37, .mov (.t 4), some (36, false), false⟩, ⟨some 38, .bin .eql (.t 37) (.c (.int .u8 95)), some (36, false), false⟩, ⟨some 39, .pick (.t 36) (.c (.bool true)) (.t 38), none, false⟩, ⟨some 40, .un .not (.t 39), none, false⟩] [0, 3, 40]) (.cond (.t 40) (.seq (.reg [⟨some 2, .mov (.c (.bool false)), none, false⟩] [2]) .ret) .skip)))) (.reg [⟨some 17, .mov (.t 3), none, false⟩, ⟨some 18, .bin .add (.t 17) (.c (.int .i64 1)), none, false⟩, ⟨some 3, .mov (.t 18), none, false⟩] [0, 3]))
def b49 : XC := .seq (.reg [⟨some 2, .mov (.c (.bool false)), none, false⟩] [0]) (.seq (.seq (.reg [⟨some 5, .mov (.t 0), none, false⟩, ⟨some 6, .lens (.t 5), none, false⟩, ⟨some 7, .bin .lss (.t 6) (.c (.int .i64 1)), none, false⟩, ⟨some 8, .mov (.t 7), none, false⟩, ⟨some 9, .mov (.t 0), some (8, false), false⟩, ⟨some 10, .lens (.t 9), some (8, false), false⟩, ⟨some 11, .bin .gtr (.t 10) (.c (.int .i64 16)), some (8, false), false⟩, ⟨some 12, .pick (.t 8) (.c (.bool true)) (.t 11), none, false⟩] [0, 12]) (.cond (.t 12) (.seq (.reg [⟨some 2, .mov (.c (.bool false)), none, false⟩] [2]) .ret) .skip)) (.seq (.seq (.reg [⟨some 3, .mov (.c (.int .i64 0)), none, false⟩] [0, 3]) (.block 0 (.loop lp49_0))) (.seq (.reg [⟨some 2, .mov (.c (.bool true)), none, false⟩] [2]) .ret)))
def x49 : XF := ⟨1, b49, [.t 2]⟩
def h49 : Hints := fun id => match id with
  | 0 => [0]
  | 1 => [0, 12]
  | 2 => [2]
  | 3 => [0, 3]
  | 4 => [0, 3, 16]
  | 5 => [0, 3]
  | 6 => [0, 3, 4]
  | 7 => [0, 3, 40]
  | 8 => [2]
  | 9 => [2]
  | _ => []
theorem cv49 : cvF Tryd.prog h49 Tryd.f49 = some x49 := by kernel_rfl

/-- winnower/winnowerref07.whole -/
def b50 : XC := .seq (.reg [⟨some 2, .box 24 (.t 0), none, false⟩, ⟨some 4, .mov (.c (.bool false)), none, false⟩] [1, 2]) (.seq (.reg [⟨some 5, .mov (.t 1), none, false⟩, ⟨some 6, .bin .geq (.t 5) (.c (.int .i64 0)), none, false⟩, ⟨some 7, .mov (.t 6), none, false⟩, ⟨some 8, .mov (.t 1), some (7, true), false⟩, ⟨some 9, .faddr 0 (.t 2), some (7, true), false⟩, ⟨some 10, .load false 1 (.t 9), some (7, true), false⟩, ⟨some 11, .len 3 (.t 10), some (7, true), false⟩, ⟨some 12, .bin .lss (.t 8) (.t 11), some (7, true), false⟩, ⟨some 13, .pick (.t 7) (.t 12) (.c (.bool false)), none, false⟩, ⟨some 14, .mov (.t 13), none, false⟩, ⟨some 15, .faddr 0 (.t 2), some (14, true), false⟩, ⟨some 16, .load false 1 (.t 15), some (14, true), false⟩, ⟨some 17, .mov (.t 1), some (14, true), false⟩, ⟨some 18, .iaddr 3 (.t 16) (.t 17), some (14, true), false⟩, ⟨some 19, .faddr 2 (.t 18), some (14, true), false⟩, ⟨some 20, .load false 1 (.t 19), some (14, true), false⟩, ⟨some 21, .un .not (.t 20), some (14, true), false⟩, ⟨some 22, .pick (.t 14) (.t 21) (.c (.bool false)), none, false⟩, ⟨some 4, .mov (.t 22), none, false⟩] [4]) .ret)
def x50 : XF := ⟨2, b50, [.t 4]⟩
def h50 : Hints := fun id => match id with
  | 0 => [1, 2]
  | 1 => [4]
  | _ => []
theorem cv50 : cvF Tryd.prog h50 Tryd.f50 = some x50 := by kernel_rfl

/-- winnower/winnowerref06.May -/
def b51 : XC := .seq (.reg [⟨some 1, .box 39 (.t 0), none, false⟩, ⟨some 2, .mov (.c (.bool false)), none, false⟩] [1]) (.seq (.reg [⟨some 6, .faddr 1 (.t 1), none, false⟩, ⟨some 7, .load false 1 (.t 6), none, false⟩, ⟨some 8, .bin .eql (.t 7) (.c (.int .i64 0)), none, false⟩, ⟨some 3, .mov (.t 8), none, false⟩] [1, 3]) (.seq (.reg [⟨some 9, .faddr 2 (.t 1), none, false⟩, ⟨some 10, .load false 1 (.t 9), none, false⟩, ⟨some 11, .bin .eql (.t 10) (.c (.str ⟨#[]⟩)), none, false⟩, ⟨some 4, .mov (.t 11), none, false⟩] [1, 3, 4]) (.seq (.reg [⟨some 12, .faddr 3 (.t 1), none, false⟩, ⟨some 13, .load false 1 (.t 12), none, false⟩, ⟨some 14, .un .not (.t 13), none, false⟩, ⟨some 5, .mov (.t 14), none, false⟩] [1, 3, 4, 5]) (.seq (.seq (.reg [⟨some 15, .faddr 0 (.t 1), none, false⟩, ⟨some 16, .load false 1 (.t 15), none, false⟩] [1, 3, 4, 5, 16]) (.block 0 (.seq (.reg [⟨some 18, .bin .eql (.t 16) (.c (.int .i64 0)), none, false⟩, ⟨some 17, .mov (.t 18), none, false⟩] [1, 3, 4, 5, 16, 17]) (.cond (.t 17) (.seq (.reg [⟨some 19, .mov (.t 3), none, false⟩, ⟨some 20, .mov (.t 19), none, false⟩, ⟨some 21, .mov (.t 4), some (20, true), false⟩, ⟨some 22, .pick (.t 20) (.t 21) (.c (.bool false)), none, false⟩, ⟨some 23, .mov (.t 22), none, false⟩, ⟨some 24, .mov (.t 5), some (23, true), false⟩, ⟨some 25, .pick (.t 23) (.t 24) (.c (.bool false)), none, false⟩, ⟨some 2, .mov (.t 25), none, false⟩] [2]) .ret) (.seq (.reg [⟨some 27, .bin .eql (.t 16) (.c (.int .i64 1)), none, false⟩, ⟨some 26, .mov (.t 27), none, false⟩] [1, 3, 4, 5, 16, 26]) (.cond (.t 26) (.seq (.reg [⟨some 28, .mov (.t 4), none, false⟩, ⟨some 29, .mov (.t 28), none, false⟩, ⟨some 30, .mov (.t 5), some (29, true), false⟩, ⟨some 31, .pick (.t 29) (.t 30) (.c (.bool false)), none, false⟩, ⟨some 2, .mov (.t 31), none, false⟩] [2]) .ret) (.seq (.reg [⟨some 33, .bin .eql (.t 16) (.c (.int .i64 2)), none, false⟩, ⟨some 32, .mov (.t 33), none, false⟩] [1, 3, 4, 5, 16, 32]) (.cond (.t 32) (.seq (.reg [⟨some 34, .mov (.t 3), none, false⟩, ⟨some 35, .mov (.t 34), none, false⟩, ⟨some 36, .mov (.t 5), some (35, true), false⟩, ⟨some 37, .pick (.t 35) (.t 36) (.c (.bool false)), none, false⟩, ⟨some 38, .mov (.t 37), none, false⟩, ⟨some 39, .faddr 2 (.t 1), some (38, true), false⟩, ⟨some 40, .load false 1 (.t 39), some (38, true), false⟩, ⟨some 41, .lens (.t 40), some (38, true), false⟩, ⟨some 42, .bin .leq (.t 41) (.c (.int .i64 64)), some (38, true), false⟩, ⟨some 43, .pick (.t 38) (.t 42) (.c (.bool false)), none, false⟩, ⟨some 2, .mov (.t 43), none, false⟩] [2]) .ret) (.seq (.reg [⟨some 45, .bin .eql (.t 16) (.c (.int .i64 3)), none, false⟩, ⟨some 44, .mov (.t 45), none, false⟩] [3, 4, 44]) (.cond (.t 44) (.seq (.reg [⟨some 46, .mov (.t 3), none, false⟩, ⟨some 47, .mov (.t 46), none, false⟩, ⟨some 48, .mov (.t 4), some (47, true), false⟩, ⟨some 49, .pick (.t 47) (.t 48) (.c (.bool false)), none, false⟩, ⟨some 2, .mov (.t 49), none, false⟩] [2]) .ret) .skip)))))))))) (.seq (.reg [⟨some 2, .mov (.c (.bool false)), none, false⟩] [2]) .ret)))))
def x51 : XF := ⟨1, b51, [.t 2]⟩
def h51 : Hints := fun id => match id with
  | 0 => [1]
  | 1 => [1, 3]
  | 2 => [1, 3, 4]
  | 3 => [1, 3, 4, 5]
  | 4 => [1, 3, 4, 5, 16]
  | 5 => [1, 3, 4, 5, 16, 17]
  | 6 => [2]
  | 7 => [1, 3, 4, 5, 16, 26]
  | 8 => [2]
  | 9 => [1, 3, 4, 5, 16, 32]
  | 10 => [2]
  | 11 => [3, 4, 44]
  | 12 => [2]
  | 13 => [2]
  | _ => []
theorem cv51 : cvF Tryd.prog h51 Tryd.f51 = some x51 := by kernel_rfl

/-- strings.Trim -/
def b52 : XC := .seq (.reg [⟨some 4, .mov (.c (.str ⟨#[]⟩)), none, false⟩] [0, 1]) (.seq (.seq (.reg [⟨some 7, .mov (.t 0), none, false⟩, ⟨some 8, .bin .eql (.t 7) (.c (.str ⟨#[]⟩)), none, false⟩, ⟨some 9, .mov (.t 8), none, false⟩, ⟨some 10, .mov (.t 1), some (9, false), false⟩, ⟨some 11, .bin .eql (.t 10) (.c (.str ⟨#[]⟩)), some (9, false), false⟩, ⟨some 12, .pick (.t 9) (.c (.bool true)) (.t 11), none, false⟩] [0, 1, 12]) (.cond (.t 12) (.seq (.reg [⟨some 13, .mov (.t 0), none, false⟩, ⟨some 4, .mov (.t 13), none, false⟩] [4]) .ret) .skip)) (.seq (.seq (.reg [⟨some 14, .mov (.t 1), none, false⟩, ⟨some 15, .lens (.t 14), none, false⟩, ⟨some 16, .bin .eql (.t 15) (.c (.int .i64 1)), none, false⟩, ⟨some 17, .mov (.t 16), none, false⟩, ⟨some 18, .mov (.t 1), some (17, true), false⟩, ⟨some 19, .idxs (.t 18) (.c (.int .i64 0)), some (17, true), false⟩, ⟨some 20, .bin .lss (.t 19) (.c (.int .u8 128)), some (17, true), false⟩, ⟨some 21, .pick (.t 17) (.t 20) (.c (.bool false)), none, false⟩] [0, 1, 21]) (.cond (.t 21) (.seq (.reg [⟨some 22, .mov (.t 0), none, false⟩, ⟨some 23, .mov (.t 1), none, false⟩, ⟨some 24, .idxs (.t 23) (.c (.int .i64 0)), none, false⟩, ⟨some 25, .call (.c (.func 68 [] [])) [.t 22, .t 24], none, false⟩, ⟨some 26, .mov (.t 1), none, false⟩, ⟨some 27, .idxs (.t 26) (.c (.int .i64 0)), none, false⟩, ⟨some 28, .call (.c (.func 67 [] [])) [.t 25, .t 27], none, false⟩, ⟨some 4, .mov (.t 28), none, false⟩] [4]) .ret) .skip)) (.seq (.seq (.reg [⟨some 30, .mov (.t 1), none, false⟩, ⟨some 31, .call (.c (.func 69 [] [])) [.t 30], none, false⟩, ⟨some 29, .mov (.t 31), none, false⟩, ⟨some 32, .ext (.t 29) 0, none, false⟩, ⟨some 33, .ext (.t 29) 1, none, false⟩, ⟨some 5, .alloc 98 (zrep 256 (.bool false)), none, false⟩, ⟨none, .store 256 (.t 5) (.t 32), none, false⟩, ⟨some 6, .mov (.t 33), none, false⟩] [0, 1, 5, 6]) (.seq (.reg [⟨some 34, .mov (.t 6), none, false⟩] [0, 1, 5, 34]) (.cond (.t 34) (.seq (.reg [⟨some 35, .mov (.t 0), none, false⟩, ⟨some 36, .call (.c (.func 71 [] [])) [.t 35, .t 5], none, false⟩, ⟨some 37, .call (.c (.func 70 [] [])) [.t 36, .t 5], none, false⟩, ⟨some 4, .mov (.t 37), none, false⟩] [4]) .ret) .skip))) (.seq (.reg [⟨some 38, .mov (.t 0), none, false⟩, ⟨some 39, .mov (.t 1), none, false⟩, ⟨some 40, .call (.c (.func 73 [] [])) [.t 38, .t 39], none, false⟩, ⟨some 41, .mov (.t 1), none, false⟩, ⟨some 42, .call (.c (.func 72 [] [])) [.t 40, .t 41], none, false⟩, ⟨some 4, .mov (.t 42), none, false⟩] [4]) .ret))))
def x52 : XF := ⟨2, b52, [.t 4]⟩
def h52 : Hints := fun id => match id with
  | 0 => [0, 1]
  | 1 => [0, 1, 12]
  | 2 => [4]
  | 3 => [0, 1, 21]
  | 4 => [4]
  | 5 => [0, 1, 5, 6]
  | 6 => [0, 1, 5, 34]
  | 7 => [4]
  | 8 => [4]
  | _ => []
theorem cv52 : cvF Tryd.prog h52 Tryd.f52 = some x52 := by kernel_rfl

/-- slices.IndexFunc[[]winnower/api.Col,winnower/api.Col] -/
def lp53_0 : XC := .seq (.reg [⟨some 9, .bin .lss (.t 8) (.t 7), none, false⟩] [0, 1, 7, 8, 9]) (.seq (.cond (.t 9) .skip (.exit 0)) (.seq (.block 1 (.seq (.reg [⟨some 10, .mov (.t 8), none, false⟩, ⟨some 5, .mov (.t 10), none, false⟩] [0, 1, 5, 7, 8]) (.seq (.reg [⟨some 11, .mov (.t 1), none, false⟩, ⟨some 12, .mov (.t 0), none, false⟩, ⟨some 13, .mov (.t 5), none, false⟩, ⟨some 14, .iaddr 3 (.t 12) (.t 13), none, false⟩, ⟨some 15, .load true 3 (.t 14), none, false⟩, ⟨some 16, .call (.t 11) [.t 15], none, false⟩] [0, 1, 5, 7, 8, 16]) (.cond (.t 16) (.seq (.reg [⟨some 17, .mov (.t 5), none, false⟩, ⟨some 4, .mov (.t 17), none, false⟩] [4]) .ret) .skip)))) (.reg [⟨some 18, .bin .add (.t 8) (.c (.int .i64 1)), none, false⟩, ⟨some 8, .mov (.t 18), none, false⟩] [0, 1, 7, 8])))
def b53 : XC := .seq (.reg [⟨some 4, .mov (.c (.int .i64 0)), none, false⟩] [0, 1]) (.seq (.seq (.reg [⟨some 6, .mov (.t 0), none, false⟩, ⟨some 7, .len 3 (.t 6), none, false⟩, ⟨some 8, .mov (.c (.int .i64 0)), none, false⟩] [0, 1, 7, 8]) (.block 0 (.loop lp53_0))) (.seq (.reg [⟨some 4, .mov (.c (.int .i64 (-1))), none, false⟩] [4]) .ret))
def x53 : XF := ⟨2, b53, [.t 4]⟩
def h53 : Hints := fun id => match id with
  | 0 => [0, 1]
  | 1 => [0, 1, 7, 8]
  | 2 => [0, 1, 7, 8, 9]
  | 3 => [0, 1, 5, 7, 8]
  | 4 => [0, 1, 5, 7, 8, 16]
  | 5 => [4]
  | 6 => [0, 1, 7, 8]
  | 7 => [4]
  | _ => []
theorem cv53 : cvF Tryd.prog h53 Tryd.f53 = some x53 := by kernel_rfl

/-- winnower/schema.Find$1 -/
def b54 : XC := .seq (.reg [⟨some 2, .box 53 (.t 0), none, false⟩, ⟨some 3, .mov (.c (.bool false)), none, false⟩] [1, 2]) (.seq (.reg [⟨some 4, .faddr 0 (.t 2), none, false⟩, ⟨some 5, .load false 1 (.t 4), none, false⟩, ⟨some 6, .load false 1 (.t 1), none, false⟩, ⟨some 7, .bin .eql (.t 5) (.t 6), none, false⟩, ⟨some 3, .mov (.t 7), none, false⟩] [3]) .ret)
def x54 : XF := ⟨2, b54, [.t 3]⟩
def h54 : Hints := fun id => match id with
  | 0 => [1, 2]
  | 1 => [3]
  | _ => []
theorem cv54 : cvF Tryd.prog h54 Tryd.f54 = some x54 := by kernel_rfl

/-- winnower/schema.of -/
def b55 : XC := .seq (.reg [⟨some 3, .box 24 (.t 0), none, false⟩, ⟨some 6, .mov (.c (.bool false)), none, false⟩] [1, 2, 3]) (.seq (.reg [⟨some 7, .mov (.t 1), none, false⟩, ⟨some 8, .bin .geq (.t 7) (.c (.int .i64 0)), none, false⟩, ⟨some 9, .mov (.t 8), none, false⟩, ⟨some 10, .mov (.t 1), some (9, true), false⟩, ⟨some 11, .faddr 0 (.t 3), some (9, true), false⟩, ⟨some 12, .load false 1 (.t 11), some (9, true), false⟩, ⟨some 13, .len 3 (.t 12), some (9, true), false⟩, ⟨some 14, .bin .lss (.t 10) (.t 13), some (9, true), false⟩, ⟨some 15, .pick (.t 9) (.t 14) (.c (.bool false)), none, false⟩, ⟨some 16, .mov (.t 15), none, false⟩, ⟨some 17, .faddr 0 (.t 3), some (16, true), false⟩, ⟨some 18, .load false 1 (.t 17), some (16, true), false⟩, ⟨some 19, .mov (.t 1), some (16, true), false⟩, ⟨some 20, .iaddr 3 (.t 18) (.t 19), some (16, true), false⟩, ⟨some 21, .faddr 2 (.t 20), some (16, true), false⟩, ⟨some 22, .load false 1 (.t 21), some (16, true), false⟩, ⟨some 23, .un .not (.t 22), some (16, true), false⟩, ⟨some 24, .pick (.t 16) (.t 23) (.c (.bool false)), none, false⟩, ⟨some 25, .mov (.t 24), none, false⟩, ⟨some 26, .mov (.t 2), some (25, true), false⟩, ⟨some 27, .bin .eql (.t 26) (.c (.int .i64 0)), some (25, true), false⟩, ⟨some 28, .mov (.t 27), some (25, true), false⟩, ⟨some 29, .faddr 0 (.t 3), some (28, false), false⟩, ⟨some 30, .load false 1 (.t 29), some (28, false), false⟩, ⟨some 31, .mov (.t 1), some (28, false), false⟩, ⟨some 32, .iaddr 3 (.t 30) (.t 31), some (28, false), false⟩, ⟨some 33, .faddr 1 (.t 32), some (28, false), false⟩, ⟨some 34, .load false 1 (.t 33), some (28, false), false⟩, ⟨some 35, .mov (.t 2), some (28, false), false⟩, ⟨some 36, .bin .eql (.t 34) (.t 35), some (28, false), false⟩, ⟨some 37, .pick (.t 28) (.c (.bool true)) (.t 36), some (25, true), false⟩, ⟨some 38, .pick (.t 25) (.t 37) (.c (.bool false)), none, false⟩, ⟨some 6, .mov (.t 38), none, false⟩] [6]) .ret)
def x55 : XF := ⟨3, b55, [.t 6]⟩
def h55 : Hints := fun id => match id with
  | 0 => [1, 2, 3]
  | 1 => [6]
  | _ => []
theorem cv55 : cvF Tryd.prog h55 Tryd.f55 = some x55 := by kernel_rfl

/-- strings.makeASCIISet -/
def lp69_0 : XC := .seq (.seq (.reg [⟨some 6, .mov (.t 4), none, false⟩, ⟨some 7, .mov (.t 0), none, false⟩, ⟨some 8, .lens (.t 7), none, false⟩, ⟨some 9, .bin .lss (.t 6) (.t 8), none, false⟩] [0, 2, 4, 9]) (.cond (.t 9) .skip (.exit 0))) (.seq (.block 1 (.seq (.reg [⟨some 12, .mov (.t 0), none, false⟩, ⟨some 13, .mov (.t 4), none, false⟩, ⟨some 14, .idxs (.t 12) (.t 13), none, false⟩, ⟨some 5, .mov (.t 14), none, false⟩] [0, 2, 4, 5]) (.seq (.seq (.reg [⟨some 15, .mov (.t 5), none, false⟩, ⟨some 16, .bin .geq (.t 15) (.c (.int .u8 128)), none, false⟩] [0, 2, 4, 5, 16]) (.cond (.t 16) (.seq (.reg [⟨some 17, .load true 256 (.t 2), none, false⟩, ⟨none, .store 256 (.t 2) (.t 17), none, false⟩, ⟨some 3, .mov (.c (.bool false)), none, false⟩] [2, 3]) .ret) .skip)) (.reg [⟨some 18, .mov (.t 5), none, false⟩, ⟨some 19, .iaddra 256 1 (.t 2) (.t 18), none, false⟩, ⟨none, .store 1 (.t 19) (.c (.bool true)), none, false⟩] [0, 2, 4])))) (.reg [⟨some 10, .mov (.t 4), none, false⟩, ⟨some 11, .bin .add (.t 10) (.c (.int .i64 1)), none, false⟩, ⟨some 4, .mov (.t 11), none, false⟩] [0, 2, 4]))
def b69 : XC := .seq (.reg [⟨some 2, .alloc 98 (zrep 256 (.bool false)), none, false⟩, ⟨some 3, .mov (.c (.bool false)), none, false⟩] [0, 2]) (.seq (.seq (.reg [⟨some 4, .mov (.c (.int .i64 0)), none, false⟩] [0, 2, 4]) (.block 0 (.loop lp69_0))) (.seq (.reg [⟨some 20, .load true 256 (.t 2), none, false⟩, ⟨none, .store 256 (.t 2) (.t 20), none, false⟩, ⟨some 3, .mov (.c (.bool true)), none, false⟩] [2, 3]) .ret))
def x69 : XF := ⟨1, b69, [.cell 2 true 256, .t 3]⟩
def h69 : Hints := fun id => match id with
  | 0 => [0, 2]
  | 1 => [0, 2, 4]
  | 2 => [0, 2, 4, 9]
  | 3 => [0, 2, 4]
  | 4 => [0, 2, 4, 5]
  | 5 => [0, 2, 4, 5, 16]
  | 6 => [2, 3]
  | 7 => [0, 2, 4]
  | 8 => [2, 3]
  | _ => []
theorem cv69 : cvF Tryd.prog h69 Tryd.f69 = some x69 := by kernel_rfl

/-- strings.trimLeftASCII -/
def lp70_0 : XC := .seq (.seq (.reg [⟨some 5, .mov (.t 0), none, false⟩, ⟨some 6, .lens (.t 5), none, false⟩, ⟨some 7, .bin .gtr (.t 6) (.c (.int .i64 0)), none, false⟩] [0, 1, 7]) (.cond (.t 7) .skip (.exit 0))) (.block 1 (.seq (.seq (.reg [⟨some 8, .mov (.t 1), none, false⟩, ⟨some 9, .mov (.t 0), none, false⟩, ⟨some 10, .idxs (.t 9) (.c (.int .i64 0)), none, false⟩, ⟨some 11, .call (.c (.func 80 [] [])) [.t 8, .t 10], none, false⟩, ⟨some 12, .un .not (.t 11), none, false⟩] [0, 1, 12]) (.cond (.t 12) (.exit 0) .skip)) (.reg [⟨some 13, .mov (.t 0), none, false⟩, ⟨some 14, .slcs (.t 13) (some (.c (.int .i64 1))) none, none, false⟩, ⟨some 0, .mov (.t 14), none, false⟩] [0, 1])))
def b70 : XC := .seq (.reg [⟨some 4, .mov (.c (.str ⟨#[]⟩)), none, false⟩] [0, 1]) (.seq (.block 0 (.loop lp70_0)) (.seq (.reg [⟨some 15, .mov (.t 0), none, false⟩, ⟨some 4, .mov (.t 15), none, false⟩] [4]) .ret))
def x70 : XF := ⟨2, b70, [.t 4]⟩
def h70 : Hints := fun id => match id with
  | 0 => [0, 1]
  | 1 => [0, 1, 7]
  | 2 => [0, 1, 12]
  | 3 => [0, 1]
  | 4 => [4]
  | _ => []
theorem cv70 : cvF Tryd.prog h70 Tryd.f70 = some x70 := by kernel_rfl

/-- strings.trimRightASCII -/
def lp71_0 : XC := .seq (.seq (.reg [⟨some 5, .mov (.t 0), none, false⟩, ⟨some 6, .lens (.t 5), none, false⟩, ⟨some 7, .bin .gtr (.t 6) (.c (.int .i64 0)), none, false⟩] [0, 1, 7]) (.cond (.t 7) .skip (.exit 0))) (.block 1 (.seq (.seq (.reg [⟨some 8, .mov (.t 1), none, false⟩, ⟨some 9, .mov (.t 0), none, false⟩, ⟨some 10, .mov (.t 0), none, false⟩, ⟨some 11, .lens (.t 10), none, false⟩, ⟨some 12, .bin .sub (.t 11) (.c (.int .i64 1)), none, false⟩, ⟨some 13, .idxs (.t 9) (.t 12), none, false⟩, ⟨some 14, .call (.c (.func 80 [] [])) [.t 8, .t 13], none, false⟩, ⟨some 15, .un .not (.t 14), none, false⟩] [0, 1, 15]) (.cond (.t 15) (.exit 0) .skip)) (.reg [⟨some 16, .mov (.t 0), none, false⟩, ⟨some 17, .mov (.t 0), none, false⟩, ⟨some 18, .lens (.t 17), none, false⟩, ⟨some 19, .bin .sub (.t 18) (.c (.int .i64 1)), none, false⟩, ⟨some 20, .slcs (.t 16) none (some (.t 19)), none, false⟩, ⟨some 0, .mov (.t 20), none, false⟩] [0, 1])))
def b71 : XC := .seq (.reg [⟨some 4, .mov (.c (.str ⟨#[]⟩)), none, false⟩] [0, 1]) (.seq (.block 0 (.loop lp71_0)) (.seq (.reg [⟨some 21, .mov (.t 0), none, false⟩, ⟨some 4, .mov (.t 21), none, false⟩] [4]) .ret))
def x71 : XF := ⟨2, b71, [.t 4]⟩
def h71 : Hints := fun id => match id with
  | 0 => [0, 1]
  | 1 => [0, 1, 7]
  | 2 => [0, 1, 15]
  | 3 => [0, 1]
  | 4 => [4]
  | _ => []
theorem cv71 : cvF Tryd.prog h71 Tryd.f71 = some x71 := by kernel_rfl

/-- (*strings.asciiSet).contains -/
def b80 : XC := .seq (.reg [⟨some 4, .mov (.c (.bool false)), none, false⟩] [0, 1]) (.seq (.reg [⟨some 5, .mov (.t 0), none, false⟩, ⟨some 6, .mov (.t 1), none, false⟩, ⟨some 7, .nilck (.t 5), none, false⟩, ⟨some 8, .iaddra 256 1 (.t 7) (.t 6), none, false⟩, ⟨some 9, .load false 1 (.t 8), none, false⟩, ⟨some 4, .mov (.t 9), none, false⟩] [4]) .ret)
def x80 : XF := ⟨2, b80, [.t 4]⟩
def h80 : Hints := fun id => match id with
  | 0 => [0, 1]
  | 1 => [4]
  | _ => []
theorem cv80 : cvF Tryd.prog h80 Tryd.f80 = some x80 := by kernel_rfl

def X : Nat → Option XK := fun f => match f with
  | 32 => some (.ext gSortI)
  | 5 => some (.fn x5)
  | 7 => some (.fn x7)
  | 8 => some (.fn x8)
  | 9 => some (.fn x9)
  | 10 => some (.fn x10)
  | 11 => some (.fn x11)
  | 12 => some (.fn x12)
  | 13 => some (.fn x13)
  | 14 => some (.fn x14)
  | 15 => some (.fn x15)
  | 16 => some (.fn x16)
  | 17 => some (.fn x17)
  | 18 => some (.fn x18)
  | 19 => some (.fn x19)
  | 20 => some (.fn x20)
  | 21 => some (.fn x21)
  | 22 => some (.fn x22)
  | 23 => some (.fn x23)
  | 24 => some (.fn x24)
  | 25 => some (.fn x25)
  | 26 => some (.fn x26)
  | 27 => some (.fn x27)
  | 28 => some (.fn x28)
  | 29 => some (.fn x29)
  | 30 => some (.fn x30)
  | 31 => some (.fn x31)
  | 33 => some (.fn x33)
  | 34 => some (.fn x34)
  | 35 => some (.fn x35)
  | 36 => some (.fn x36)
  | 37 => some (.fn x37)
  | 38 => some (.fn x38)
  | 39 => some (.fn x39)
  | 40 => some (.fn x40)
  | 41 => some (.fn x41)
  | 42 => some (.fn x42)
  | 43 => some (.fn x43)
  | 44 => some (.fn x44)
  | 45 => some (.fn x45)
  | 46 => some (.fn x46)
  | 49 => some (.fn x49)
  | 50 => some (.fn x50)
  | 51 => some (.fn x51)
  | 52 => some (.fn x52)
  | 53 => some (.fn x53)
  | 54 => some (.fn x54)
  | 55 => some (.fn x55)
  | 69 => some (.fn x69)
  | 70 => some (.fn x70)
  | 71 => some (.fn x71)
  | 80 => some (.fn x80)
  | _ => none
def hints : Nat → Hints := fun f => match f with
  | 5 => h5
  | 7 => h7
  | 8 => h8
  | 9 => h9
  | 10 => h10
  | 11 => h11
  | 12 => h12
  | 13 => h13
  | 14 => h14
  | 15 => h15
  | 16 => h16
  | 17 => h17
  | 18 => h18
  | 19 => h19
  | 20 => h20
  | 21 => h21
  | 22 => h22
  | 23 => h23
  | 24 => h24
  | 25 => h25
  | 26 => h26
  | 27 => h27
  | 28 => h28
  | 29 => h29
  | 30 => h30
  | 31 => h31
  | 33 => h33
  | 34 => h34
  | 35 => h35
  | 36 => h36
  | 37 => h37
  | 38 => h38
  | 39 => h39
  | 40 => h40
  | 41 => h41
  | 42 => h42
  | 43 => h43
  | 44 => h44
  | 45 => h45
  | 46 => h46
  | 49 => h49
  | 50 => h50
  | 51 => h51
  | 52 => h52
  | 53 => h53
  | 54 => h54
  | 55 => h55
  | 69 => h69
  | 70 => h70
  | 71 => h71
  | 80 => h80
  | _ => fun _ => []
theorem sound : Sound Tryd.prog X hints where
  mixed := by kernel_rfl
  ext f g h := by unfold X at h; split at h <;> first | (injection h with h; injection h with h; subst h; exact sortIOk) | cases h
  fn f x h := by
    unfold X at h
    split at h
    · cases h
    · injection h with h; injection h with h; subst h; exact ⟨Tryd.f5, by kernel_rfl, cv5⟩
    · injection h with h; injection h with h; subst h; exact ⟨Tryd.f7, by kernel_rfl, cv7⟩
    · injection h with h; injection h with h; subst h; exact ⟨Tryd.f8, by kernel_rfl, cv8⟩
    · injection h with h; injection h with h; subst h; exact ⟨Tryd.f9, by kernel_rfl, cv9⟩
    · injection h with h; injection h with h; subst h; exact ⟨Tryd.f10, by kernel_rfl, cv10⟩
    · injection h with h; injection h with h; subst h; exact ⟨Tryd.f11, by kernel_rfl, cv11⟩
    · injection h with h; injection h with h; subst h; exact ⟨Tryd.f12, by kernel_rfl, cv12⟩
    · injection h with h; injection h with h; subst h; exact ⟨Tryd.f13, by kernel_rfl, cv13⟩
    · injection h with h; injection h with h; subst h; exact ⟨Tryd.f14, by kernel_rfl, cv14⟩
    · injection h with h; injection h with h; subst h; exact ⟨Tryd.f15, by kernel_rfl, cv15⟩
    · injection h with h; injection h with h; subst h; exact ⟨Tryd.f16, by kernel_rfl, cv16⟩
    · injection h with h; injection h with h; subst h; exact ⟨Tryd.f17, by kernel_rfl, cv17⟩
    · injection h with h; injection h with h; subst h; exact ⟨Tryd.f18, by kernel_rfl, cv18⟩
    · injection h with h; injection h with h; subst h; exact ⟨Tryd.f19, by kernel_rfl, cv19⟩
    · injection h with h; injection h with h; subst h; exact ⟨Tryd.f20, by kernel_rfl, cv20⟩
    · injection h with h; injection h with h; subst h; exact ⟨Tryd.f21, by kernel_rfl, cv21⟩
    · injection h with h; injection h with h; subst h; exact ⟨Tryd.f22, by kernel_rfl, cv22⟩
    · injection h with h; injection h with h; subst h; exact ⟨Tryd.f23, by kernel_rfl, cv23⟩
    · injection h with h; injection h with h; subst h; exact ⟨Tryd.f24, by kernel_rfl, cv24⟩
    · injection h with h; injection h with h; subst h; exact ⟨Tryd.f25, by kernel_rfl, cv25⟩
    · injection h with h; injection h with h; subst h; exact ⟨Tryd.f26, by kernel_rfl, cv26⟩
    · injection h with h; injection h with h; subst h; exact ⟨Tryd.f27, by kernel_rfl, cv27⟩
    · injection h with h; injection h with h; subst h; exact ⟨Tryd.f28, by kernel_rfl, cv28⟩
    · injection h with h; injection h with h; subst h; exact ⟨Tryd.f29, by kernel_rfl, cv29⟩
    · injection h with h; injection h with h; subst h; exact ⟨Tryd.f30, by kernel_rfl, cv30⟩
    · injection h with h; injection h with h; subst h; exact ⟨Tryd.f31, by kernel_rfl, cv31⟩
    · injection h with h; injection h with h; subst h; exact ⟨Tryd.f33, by kernel_rfl, cv33⟩
    · injection h with h; injection h with h; subst h; exact ⟨Tryd.f34, by kernel_rfl, cv34⟩
    · injection h with h; injection h with h; subst h; exact ⟨Tryd.f35, by kernel_rfl, cv35⟩
    · injection h with h; injection h with h; subst h; exact ⟨Tryd.f36, by kernel_rfl, cv36⟩
    · injection h with h; injection h with h; subst h; exact ⟨Tryd.f37, by kernel_rfl, cv37⟩
    · injection h with h; injection h with h; subst h; exact ⟨Tryd.f38, by kernel_rfl, cv38⟩
    · injection h with h; injection h with h; subst h; exact ⟨Tryd.f39, by kernel_rfl, cv39⟩
    · injection h with h; injection h with h; subst h; exact ⟨Tryd.f40, by kernel_rfl, cv40⟩
    · injection h with h; injection h with h; subst h; exact ⟨Tryd.f41, by kernel_rfl, cv41⟩
    · injection h with h; injection h with h; subst h; exact ⟨Tryd.f42, by kernel_rfl, cv42⟩
    · injection h with h; injection h with h; subst h; exact ⟨Tryd.f43, by kernel_rfl, cv43⟩
    · injection h with h; injection h with h; subst h; exact ⟨Tryd.f44, by kernel_rfl, cv44⟩
    · injection h with h; injection h with h; subst h; exact ⟨Tryd.f45, by kernel_rfl, cv45⟩
    · injection h with h; injection h with h; subst h; exact ⟨Tryd.f46, by kernel_rfl, cv46⟩
    · injection h with h; injection h with h; subst h; exact ⟨Tryd.f49, by kernel_rfl, cv49⟩
    · injection h with h; injection h with h; subst h; exact ⟨Tryd.f50, by kernel_rfl, cv50⟩
    · injection h with h; injection h with h; subst h; exact ⟨Tryd.f51, by kernel_rfl, cv51⟩
    · injection h with h; injection h with h; subst h; exact ⟨Tryd.f52, by kernel_rfl, cv52⟩
    · injection h with h; injection h with h; subst h; exact ⟨Tryd.f53, by kernel_rfl, cv53⟩
    · injection h with h; injection h with h; subst h; exact ⟨Tryd.f54, by kernel_rfl, cv54⟩
    · injection h with h; injection h with h; subst h; exact ⟨Tryd.f55, by kernel_rfl, cv55⟩
    · injection h with h; injection h with h; subst h; exact ⟨Tryd.f69, by kernel_rfl, cv69⟩
    · injection h with h; injection h with h; subst h; exact ⟨Tryd.f70, by kernel_rfl, cv70⟩
    · injection h with h; injection h with h; subst h; exact ⟨Tryd.f71, by kernel_rfl, cv71⟩
    · injection h with h; injection h with h; subst h; exact ⟨Tryd.f80, by kernel_rfl, cv80⟩
    · cases h
end Go.Proofs.YtobpbjmnonbblaaDoor
