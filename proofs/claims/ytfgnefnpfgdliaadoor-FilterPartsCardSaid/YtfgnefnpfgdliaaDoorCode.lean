/- The program's functions, for the ideal machine. MADE BY gen.py. -/
import Derived.Test.YtfgnefnpfgdliaaDoorChecked
import Derived.Test.YtfgnefnpfgdliaaDoorEngW
import Derived.Test.YtfgnefnpfgdliaaDoorList
namespace Go.Proofs.YtfgnefnpfgdliaaDoor
set_option maxRecDepth 100000

/-- winnower/winnowerlaw17.FilterTells -/
def b3 : XC := .seq (.reg [⟨some 4, .mov (.c (.bool false)), none, false⟩] [0, 1]) (.seq (.reg [⟨some 9, .call (.c (.func 9 [] [])) [], none, false⟩, ⟨some 5, .mov (.t 9), none, false⟩] [0, 1, 5]) (.seq (.reg [⟨some 10, .mov (.t 0), none, false⟩, ⟨some 11, .call (.c (.func 10 [] [])) [.t 10], none, false⟩, ⟨some 6, .mov (.t 11), none, false⟩] [0, 1, 5, 6]) (.seq (.reg [⟨some 12, .mov (.t 1), none, false⟩, ⟨some 13, .call (.c (.func 11 [] [])) [.t 12], none, false⟩, ⟨some 7, .mov (.t 13), none, false⟩] [0, 1, 5, 6, 7]) (.seq (.seq (.reg [⟨some 14, .mov (.t 5), none, false⟩, ⟨some 15, .un .not (.t 14), none, false⟩, ⟨some 16, .mov (.t 15), none, false⟩, ⟨some 17, .mov (.t 6), some (16, false), false⟩, ⟨some 18, .un .not (.t 17), some (16, false), false⟩, ⟨some 19, .pick (.t 16) (.c (.bool true)) (.t 18), none, false⟩, ⟨some 20, .mov (.t 19), none, false⟩, ⟨some 21, .mov (.t 7), some (20, false), false⟩, ⟨some 22, .un .not (.t 21), some (20, false), false⟩, ⟨some 23, .pick (.t 20) (.c (.bool true)) (.t 22), none, false⟩] [0, 1, 5, 23]) (.cond (.t 23) (.seq (.reg [⟨some 24, .mov (.t 5), none, false⟩, ⟨some 4, .mov (.t 24), none, false⟩] [4]) .ret) .skip)) (.seq (.seq (.reg [⟨some 8, .mov (.c (.int .i64 0)), none, false⟩] [0, 1, 8]) (.block 0 (.loop (.seq (.seq (.reg [⟨some 25, .mov (.t 8), none, false⟩, ⟨some 26, .mov (.t 1), none, false⟩, ⟨some 27, .len 1 (.t 26), none, false⟩, ⟨some 28, .bin .lss (.t 25) (.t 27), none, false⟩] [0, 1, 8, 28]) (.cond (.t 28) .skip (.exit 0))) (.seq (.block 1 (.seq (.reg [⟨some 31, .mov (.t 0), none, false⟩, ⟨some 32, .mov (.t 1), none, false⟩, ⟨some 33, .mov (.t 8), none, false⟩, ⟨some 34, .iaddr 1 (.t 32) (.t 33), none, false⟩, ⟨some 35, .load false 1 (.t 34), none, false⟩, ⟨some 36, .call (.c (.func 12 [] [])) [.t 31, .t 35], none, true⟩, ⟨some 37, .mov (.t 0), none, false⟩, ⟨some 38, .mov (.t 1), none, false⟩, ⟨some 39, .mov (.t 8), none, false⟩, ⟨some 40, .iaddr 1 (.t 38) (.t 39), none, false⟩, ⟨some 41, .load false 1 (.t 40), none, false⟩, ⟨some 42, .call (.c (.func 13 [] [])) [.t 37, .t 41], none, false⟩, ⟨some 43, .eqk 0 true (.t 36) (.t 42), none, false⟩] [0, 1, 8, 43]) (.cond (.t 43) (.seq (.reg [⟨some 4, .mov (.c (.bool false)), none, false⟩] [4]) .ret) .skip))) (.reg [⟨some 29, .mov (.t 8), none, false⟩, ⟨some 30, .bin .add (.t 29) (.c (.int .i64 1)), none, false⟩, ⟨some 8, .mov (.t 30), none, false⟩] [0, 1, 8])))))) (.seq (.reg [⟨some 44, .mov (.t 0), none, false⟩, ⟨some 45, .mov (.t 1), none, false⟩, ⟨some 46, .call (.c (.func 16 [] [])) [.t 44, .t 45], none, false⟩, ⟨some 47, .call (.c (.func 15 [] [])) [.t 46, .c (.int .i64 (-1))], none, false⟩, ⟨some 48, .mov (.t 0), none, false⟩, ⟨some 49, .mov (.t 1), none, false⟩, ⟨some 50, .call (.c (.func 17 [] [])) [.t 48, .t 49], none, false⟩, ⟨some 51, .call (.c (.func 14 [] [])) [.t 47, .t 50], none, false⟩, ⟨some 4, .mov (.t 51), none, false⟩] [4]) .ret))))))
def lp3_0 : XC := .seq (.seq (.reg [⟨some 25, .mov (.t 8), none, false⟩, ⟨some 26, .mov (.t 1), none, false⟩, ⟨some 27, .len 1 (.t 26), none, false⟩, ⟨some 28, .bin .lss (.t 25) (.t 27), none, false⟩] [0, 1, 8, 28]) (.cond (.t 28) .skip (.exit 0))) (.seq (.block 1 (.seq (.reg [⟨some 31, .mov (.t 0), none, false⟩, ⟨some 32, .mov (.t 1), none, false⟩, ⟨some 33, .mov (.t 8), none, false⟩, ⟨some 34, .iaddr 1 (.t 32) (.t 33), none, false⟩, ⟨some 35, .load false 1 (.t 34), none, false⟩, ⟨some 36, .call (.c (.func 12 [] [])) [.t 31, .t 35], none, true⟩, ⟨some 37, .mov (.t 0), none, false⟩, ⟨some 38, .mov (.t 1), none, false⟩, ⟨some 39, .mov (.t 8), none, false⟩, ⟨some 40, .iaddr 1 (.t 38) (.t 39), none, false⟩, ⟨some 41, .load false 1 (.t 40), none, false⟩, ⟨some 42, .call (.c (.func 13 [] [])) [.t 37, .t 41], none, false⟩, ⟨some 43, .eqk 0 true (.t 36) (.t 42), none, false⟩] [0, 1, 8, 43]) (.cond (.t 43) (.seq (.reg [⟨some 4, .mov (.c (.bool false)), none, false⟩] [4]) .ret) .skip))) (.reg [⟨some 29, .mov (.t 8), none, false⟩, ⟨some 30, .bin .add (.t 29) (.c (.int .i64 1)), none, false⟩, ⟨some 8, .mov (.t 30), none, false⟩] [0, 1, 8]))
def x3 : XF := ⟨2, b3, [.t 4]⟩
def h3 : Hints := fun id => match id with
  | 0 => [0, 1]
  | 1 => [0, 1, 5]
  | 2 => [0, 1, 5, 6]
  | 3 => [0, 1, 5, 6, 7]
  | 4 => [0, 1, 5, 23]
  | 5 => [4]
  | 6 => [0, 1, 8]
  | 7 => [0, 1, 8, 28]
  | 8 => [0, 1, 8]
  | 9 => [0, 1, 8, 43]
  | 10 => [4]
  | 11 => [4]
  | _ => []
theorem cv3 : cvF Tryd.prog h3 Tryd.f3 = some x3 := by kernel_rfl

/-- winnower/winnowerlaw17.FilterSets -/
def b4 : XC := .seq (.reg [⟨some 6, .mov (.c (.bool false)), none, false⟩] [0, 1, 2]) (.seq (.reg [⟨some 21, .call (.c (.func 9 [] [])) [], none, false⟩, ⟨some 7, .mov (.t 21), none, false⟩] [0, 1, 2, 7]) (.seq (.reg [⟨some 22, .mov (.t 0), none, false⟩, ⟨some 23, .call (.c (.func 10 [] [])) [.t 22], none, false⟩, ⟨some 8, .mov (.t 23), none, false⟩] [0, 1, 2, 7, 8]) (.seq (.reg [⟨some 24, .mov (.t 1), none, false⟩, ⟨some 25, .call (.c (.func 10 [] [])) [.t 24], none, false⟩, ⟨some 9, .mov (.t 25), none, false⟩] [0, 1, 2, 7, 8, 9]) (.seq (.reg [⟨some 26, .mov (.t 2), none, false⟩, ⟨some 27, .call (.c (.func 11 [] [])) [.t 26], none, false⟩, ⟨some 10, .mov (.t 27), none, false⟩] [0, 1, 2, 7, 8, 9, 10]) (.seq (.seq (.reg [⟨some 28, .mov (.t 7), none, false⟩, ⟨some 29, .un .not (.t 28), none, false⟩, ⟨some 30, .mov (.t 29), none, false⟩, ⟨some 31, .mov (.t 8), some (30, false), false⟩, ⟨some 32, .un .not (.t 31), some (30, false), false⟩, ⟨some 33, .pick (.t 30) (.c (.bool true)) (.t 32), none, false⟩, ⟨some 34, .mov (.t 33), none, false⟩, ⟨some 35, .mov (.t 9), some (34, false), false⟩, ⟨some 36, .un .not (.t 35), some (34, false), false⟩, ⟨some 37, .pick (.t 34) (.c (.bool true)) (.t 36), none, false⟩, ⟨some 38, .mov (.t 37), none, false⟩, ⟨some 39, .mov (.t 10), some (38, false), false⟩, ⟨some 40, .un .not (.t 39), some (38, false), false⟩, ⟨some 41, .pick (.t 38) (.c (.bool true)) (.t 40), none, false⟩, ⟨some 42, .mov (.t 41), none, false⟩, ⟨some 43, .mov (.t 0), some (42, false), false⟩, ⟨some 44, .len 8 (.t 43), some (42, false), false⟩, ⟨some 45, .bin .lss (.t 44) (.c (.int .i64 1)), some (42, false), false⟩, ⟨some 46, .pick (.t 42) (.c (.bool true)) (.t 45), none, false⟩, ⟨some 47, .mov (.t 46), none, false⟩, ⟨some 48, .mov (.t 1), some (47, false), false⟩, ⟨some 49, .len 8 (.t 48), some (47, false), false⟩, ⟨some 50, .bin .lss (.t 49) (.c (.int .i64 1)), some (47, false), false⟩, ⟨some 51, .pick (.t 47) (.c (.bool true)) (.t 50), none, false⟩, ⟨some 52, .mov (.t 51), none, false⟩, ⟨some 53, .mov (.t 0), some (52, false), false⟩, ⟨some 54, .len 8 (.t 53), some (52, false), false⟩, ⟨some 55, .bin .gtr (.t 54) (.c (.int .i64 30)), some (52, false), false⟩, ⟨some 56, .pick (.t 52) (.c (.bool true)) (.t 55), none, false⟩, ⟨some 57, .mov (.t 56), none, false⟩, ⟨some 58, .mov (.t 1), some (57, false), false⟩, ⟨some 59, .len 8 (.t 58), some (57, false), false⟩, ⟨some 60, .bin .gtr (.t 59) (.c (.int .i64 30)), some (57, false), false⟩, ⟨some 61, .pick (.t 57) (.c (.bool true)) (.t 60), none, false⟩] [0, 1, 2, 7, 61]) (.cond (.t 61) (.seq (.reg [⟨some 62, .mov (.t 7), none, false⟩, ⟨some 6, .mov (.t 62), none, false⟩] [6]) .ret) .skip)) (.seq (.reg [⟨some 63, .mov (.t 0), none, false⟩, ⟨some 64, .app 41 8 72 (.c .nils) (.t 63), none, false⟩, ⟨some 11, .mov (.t 64), none, false⟩] [0, 1, 2, 11]) (.seq (.seq (.reg [⟨some 12, .mov (.c (.int .i64 0)), none, false⟩] [0, 1, 2, 11, 12]) (.block 0 (.loop (.seq (.seq (.reg [⟨some 65, .mov (.t 12), none, false⟩, ⟨some 66, .mov (.t 1), none, false⟩, ⟨some 67, .len 8 (.t 66), none, false⟩, ⟨some 68, .bin .lss (.t 65) (.t 67), none, false⟩] [0, 1, 2, 11, 12, 68]) (.cond (.t 68) .skip (.exit 0))) (.seq (.block 1 (.seq (.reg [⟨some 71, .mov (.t 1), none, false⟩, ⟨some 72, .mov (.t 12), none, false⟩, ⟨some 73, .iaddr 8 (.t 71) (.t 72), none, false⟩, ⟨some 74, .load true 8 (.t 73), none, false⟩, ⟨some 13, .alloc 41 [.int .i64 0, .int .i64 0, .int .i64 0, .int .i64 0, .str ⟨#[]⟩, .bool false, .int .i64 0, .int .i64 0], none, false⟩, ⟨none, .store 8 (.t 13) (.t 74), none, false⟩] [0, 1, 2, 11, 12, 13]) (.seq (.seq (.reg [⟨some 75, .faddr 6 (.t 13), none, false⟩, ⟨some 76, .load false 1 (.t 75), none, false⟩, ⟨some 77, .mov (.t 12), none, false⟩, ⟨some 78, .bin .geq (.t 76) (.t 77), none, false⟩, ⟨some 79, .mov (.t 78), none, false⟩, ⟨some 80, .faddr 6 (.t 13), some (79, false), false⟩, ⟨some 81, .load false 1 (.t 80), some (79, false), false⟩, ⟨some 82, .bin .lss (.t 81) (.c (.int .i64 0)), some (79, false), false⟩, ⟨some 83, .pick (.t 79) (.c (.bool true)) (.t 82), none, false⟩, ⟨some 84, .mov (.t 83), none, false⟩, ⟨some 85, .faddr 7 (.t 13), some (84, false), false⟩, ⟨some 86, .load false 1 (.t 85), some (84, false), false⟩, ⟨some 87, .mov (.t 12), some (84, false), false⟩, ⟨some 88, .bin .geq (.t 86) (.t 87), some (84, false), false⟩, ⟨some 89, .pick (.t 84) (.c (.bool true)) (.t 88), none, false⟩, ⟨some 90, .mov (.t 89), none, false⟩, ⟨some 91, .faddr 7 (.t 13), some (90, false), false⟩, ⟨some 92, .load false 1 (.t 91), some (90, false), false⟩, ⟨some 93, .bin .lss (.t 92) (.c (.int .i64 0)), some (90, false), false⟩, ⟨some 94, .pick (.t 90) (.c (.bool true)) (.t 93), none, false⟩] [0, 1, 2, 11, 12, 13, 94]) (.cond (.t 94) (.seq (.reg [⟨some 95, .mov (.t 0), none, false⟩, ⟨some 96, .len 8 (.t 95), none, false⟩, ⟨some 97, .un .neg (.t 96), none, false⟩, ⟨some 98, .bin .sub (.t 97) (.c (.int .i64 1)), none, false⟩, ⟨some 99, .faddr 6 (.t 13), none, false⟩, ⟨none, .store 1 (.t 99) (.t 98), none, false⟩] [0, 1, 2, 11, 12, 13]) (.seq (.reg [⟨some 100, .mov (.t 0), none, false⟩, ⟨some 101, .len 8 (.t 100), none, false⟩, ⟨some 102, .un .neg (.t 101), none, false⟩, ⟨some 103, .bin .sub (.t 102) (.c (.int .i64 1)), none, false⟩, ⟨some 104, .faddr 7 (.t 13), none, false⟩, ⟨none, .store 1 (.t 104) (.t 103), none, false⟩] [0, 1, 2, 11, 12, 13]) (.seq (.reg [⟨some 105, .mov (.t 1), none, false⟩, ⟨some 106, .mov (.t 12), none, false⟩, ⟨some 107, .iaddr 8 (.t 105) (.t 106), none, false⟩, ⟨some 108, .faddr 0 (.t 107), none, false⟩, ⟨some 109, .load false 1 (.t 108), none, false⟩, ⟨some 110, .bin .geq (.t 109) (.c (.int .i64 8)), none, false⟩] [0, 1, 2, 11, 12, 13, 110]) (.cond (.t 110) (.seq (.reg [⟨some 6, .mov (.c (.bool true)), none, false⟩] [6]) .ret) .skip)))) .skip)) (.seq (.reg [⟨some 111, .faddr 6 (.t 13), none, false⟩, ⟨some 112, .load false 1 (.t 111), none, false⟩, ⟨some 113, .mov (.t 0), none, false⟩, ⟨some 114, .len 8 (.t 113), none, false⟩, ⟨some 115, .bin .add (.t 112) (.t 114), none, false⟩, ⟨some 116, .faddr 6 (.t 13), none, false⟩, ⟨none, .store 1 (.t 116) (.t 115), none, false⟩] [0, 1, 2, 11, 12, 13]) (.seq (.reg [⟨some 117, .faddr 7 (.t 13), none, false⟩, ⟨some 118, .load false 1 (.t 117), none, false⟩, ⟨some 119, .mov (.t 0), none, false⟩, ⟨some 120, .len 8 (.t 119), none, false⟩, ⟨some 121, .bin .add (.t 118) (.t 120), none, false⟩, ⟨some 122, .faddr 7 (.t 13), none, false⟩, ⟨none, .store 1 (.t 122) (.t 121), none, false⟩] [0, 1, 2, 11, 12, 13]) (.reg [⟨some 123, .mov (.t 11), none, false⟩, ⟨some 124, .load true 8 (.t 13), none, false⟩, ⟨some 125, .mkslice true 41 8 [.t 124], none, false⟩, ⟨some 126, .app 41 8 72 (.t 123) (.t 125), none, false⟩, ⟨some 11, .mov (.t 126), none, false⟩] [0, 1, 2, 11, 12])))))) (.reg [⟨some 69, .mov (.t 12), none, false⟩, ⟨some 70, .bin .add (.t 69) (.c (.int .i64 1)), none, false⟩, ⟨some 12, .mov (.t 70), none, false⟩] [0, 1, 2, 11, 12])))))) (.seq (.reg [⟨some 127, .mov (.t 0), none, false⟩, ⟨some 128, .mov (.t 2), none, false⟩, ⟨some 129, .call (.c (.func 16 [] [])) [.t 127, .t 128], none, false⟩, ⟨some 14, .alloc 34 [.nils], none, false⟩, ⟨none, .store 1 (.t 14) (.t 129), none, false⟩] [0, 1, 2, 11, 14]) (.seq (.reg [⟨some 130, .mov (.t 1), none, false⟩, ⟨some 131, .mov (.t 2), none, false⟩, ⟨some 132, .call (.c (.func 16 [] [])) [.t 130, .t 131], none, false⟩, ⟨some 15, .alloc 34 [.nils], none, false⟩, ⟨none, .store 1 (.t 15) (.t 132), none, false⟩] [0, 2, 11, 14, 15]) (.seq (.reg [⟨some 133, .mov (.t 0), none, false⟩, ⟨some 134, .len 8 (.t 133), none, false⟩, ⟨some 135, .bin .sub (.t 134) (.c (.int .i64 1)), none, false⟩, ⟨some 16, .mov (.t 135), none, false⟩] [2, 11, 14, 15, 16]) (.seq (.reg [⟨some 136, .mov (.t 11), none, false⟩, ⟨some 137, .len 8 (.t 136), none, false⟩, ⟨some 138, .bin .sub (.t 137) (.c (.int .i64 1)), none, false⟩, ⟨some 17, .mov (.t 138), none, false⟩] [2, 11, 14, 15, 16, 17]) (.seq (.reg [⟨some 139, .mov (.t 11), none, false⟩, ⟨some 140, .app 41 8 72 (.c .nils) (.t 139), none, false⟩, ⟨some 141, .mov (.t 16), none, false⟩, ⟨some 142, .mov (.t 17), none, false⟩, ⟨some 143, .build [.int .i64 0, .int .i64 0, .int .i64 0, .int .i64 0, .str ⟨#[]⟩, .bool false, .int .i64 0, .int .i64 0] [(0, (1, .c (.int .i64 8))), (6, (1, .t 141)), (7, (1, .t 142))], none, false⟩, ⟨some 144, .mkslice true 41 8 [.t 143], none, false⟩, ⟨some 145, .app 41 8 72 (.t 140) (.t 144), none, false⟩, ⟨some 146, .mov (.t 2), none, false⟩, ⟨some 147, .call (.c (.func 16 [] [])) [.t 145, .t 146], none, false⟩, ⟨some 18, .alloc 34 [.nils], none, false⟩, ⟨none, .store 1 (.t 18) (.t 147), none, false⟩] [2, 11, 14, 15, 16, 17, 18]) (.seq (.reg [⟨some 148, .mov (.t 11), none, false⟩, ⟨some 149, .app 41 8 72 (.c .nils) (.t 148), none, false⟩, ⟨some 150, .mov (.t 16), none, false⟩, ⟨some 151, .mov (.t 17), none, false⟩, ⟨some 152, .build [.int .i64 0, .int .i64 0, .int .i64 0, .int .i64 0, .str ⟨#[]⟩, .bool false, .int .i64 0, .int .i64 0] [(0, (1, .c (.int .i64 9))), (6, (1, .t 150)), (7, (1, .t 151))], none, false⟩, ⟨some 153, .mkslice true 41 8 [.t 152], none, false⟩, ⟨some 154, .app 41 8 72 (.t 149) (.t 153), none, false⟩, ⟨some 155, .mov (.t 2), none, false⟩, ⟨some 156, .call (.c (.func 16 [] [])) [.t 154, .t 155], none, false⟩, ⟨some 19, .alloc 34 [.nils], none, false⟩, ⟨none, .store 1 (.t 19) (.t 156), none, false⟩] [2, 11, 14, 15, 17, 18, 19]) (.seq (.reg [⟨some 157, .mov (.t 11), none, false⟩, ⟨some 158, .app 41 8 72 (.c .nils) (.t 157), none, false⟩, ⟨some 159, .mov (.t 17), none, false⟩, ⟨some 160, .build [.int .i64 0, .int .i64 0, .int .i64 0, .int .i64 0, .str ⟨#[]⟩, .bool false, .int .i64 0, .int .i64 0] [(0, (1, .c (.int .i64 10))), (6, (1, .t 159))], none, false⟩, ⟨some 161, .mkslice true 41 8 [.t 160], none, false⟩, ⟨some 162, .app 41 8 72 (.t 158) (.t 161), none, false⟩, ⟨some 163, .mov (.t 2), none, false⟩, ⟨some 164, .call (.c (.func 16 [] [])) [.t 162, .t 163], none, false⟩, ⟨some 20, .alloc 34 [.nils], none, false⟩, ⟨none, .store 1 (.t 20) (.t 164), none, false⟩] [2, 14, 15, 18, 19, 20]) (.seq (.reg [⟨some 165, .load true 1 (.t 18), none, false⟩, ⟨some 166, .load true 1 (.t 14), none, false⟩, ⟨some 167, .load true 1 (.t 15), none, false⟩, ⟨some 168, .call (.c (.func 19 [] [])) [.t 166, .t 167], none, true⟩, ⟨some 169, .call (.c (.func 18 [] [])) [.t 165, .t 168], none, false⟩, ⟨some 170, .mov (.t 169), none, false⟩, ⟨some 171, .load true 1 (.t 19), some (170, true), false⟩, ⟨some 172, .load true 1 (.t 14), some (170, true), false⟩, ⟨some 173, .load true 1 (.t 15), some (170, true), false⟩, ⟨some 174, .call (.c (.func 20 [] [])) [.t 172, .t 173], some (170, true), true⟩, ⟨some 175, .call (.c (.func 18 [] [])) [.t 171, .t 174], some (170, true), false⟩, ⟨some 176, .pick (.t 170) (.t 175) (.c (.bool false)), none, false⟩, ⟨some 177, .mov (.t 176), none, false⟩, ⟨some 178, .load true 1 (.t 20), some (177, true), false⟩, ⟨some 179, .load true 1 (.t 15), some (177, true), false⟩, ⟨some 180, .mov (.t 2), some (177, true), false⟩, ⟨some 181, .len 1 (.t 180), some (177, true), false⟩, ⟨some 182, .call (.c (.func 21 [] [])) [.t 179, .t 181], some (177, true), true⟩, ⟨some 183, .call (.c (.func 18 [] [])) [.t 178, .t 182], some (177, true), false⟩, ⟨some 184, .pick (.t 177) (.t 183) (.c (.bool false)), none, false⟩, ⟨some 6, .mov (.t 184), none, false⟩] [6]) .ret)))))))))))))))
def lp4_0 : XC := .seq (.seq (.reg [⟨some 65, .mov (.t 12), none, false⟩, ⟨some 66, .mov (.t 1), none, false⟩, ⟨some 67, .len 8 (.t 66), none, false⟩, ⟨some 68, .bin .lss (.t 65) (.t 67), none, false⟩] [0, 1, 2, 11, 12, 68]) (.cond (.t 68) .skip (.exit 0))) (.seq (.block 1 (.seq (.reg [⟨some 71, .mov (.t 1), none, false⟩, ⟨some 72, .mov (.t 12), none, false⟩, ⟨some 73, .iaddr 8 (.t 71) (.t 72), none, false⟩, ⟨some 74, .load true 8 (.t 73), none, false⟩, ⟨some 13, .alloc 41 [.int .i64 0, .int .i64 0, .int .i64 0, .int .i64 0, .str ⟨#[]⟩, .bool false, .int .i64 0, .int .i64 0], none, false⟩, ⟨none, .store 8 (.t 13) (.t 74), none, false⟩] [0, 1, 2, 11, 12, 13]) (.seq (.seq (.reg [⟨some 75, .faddr 6 (.t 13), none, false⟩, ⟨some 76, .load false 1 (.t 75), none, false⟩, ⟨some 77, .mov (.t 12), none, false⟩, ⟨some 78, .bin .geq (.t 76) (.t 77), none, false⟩, ⟨some 79, .mov (.t 78), none, false⟩, ⟨some 80, .faddr 6 (.t 13), some (79, false), false⟩, ⟨some 81, .load false 1 (.t 80), some (79, false), false⟩, ⟨some 82, .bin .lss (.t 81) (.c (.int .i64 0)), some (79, false), false⟩, ⟨some 83, .pick (.t 79) (.c (.bool true)) (.t 82), none, false⟩, ⟨some 84, .mov (.t 83), none, false⟩, ⟨some 85, .faddr 7 (.t 13), some (84, false), false⟩, ⟨some 86, .load false 1 (.t 85), some (84, false), false⟩, ⟨some 87, .mov (.t 12), some (84, false), false⟩, ⟨some 88, .bin .geq (.t 86) (.t 87), some (84, false), false⟩, ⟨some 89, .pick (.t 84) (.c (.bool true)) (.t 88), none, false⟩, ⟨some 90, .mov (.t 89), none, false⟩, ⟨some 91, .faddr 7 (.t 13), some (90, false), false⟩, ⟨some 92, .load false 1 (.t 91), some (90, false), false⟩, ⟨some 93, .bin .lss (.t 92) (.c (.int .i64 0)), some (90, false), false⟩, ⟨some 94, .pick (.t 90) (.c (.bool true)) (.t 93), none, false⟩] [0, 1, 2, 11, 12, 13, 94]) (.cond (.t 94) (.seq (.reg [⟨some 95, .mov (.t 0), none, false⟩, ⟨some 96, .len 8 (.t 95), none, false⟩, ⟨some 97, .un .neg (.t 96), none, false⟩, ⟨some 98, .bin .sub (.t 97) (.c (.int .i64 1)), none, false⟩, ⟨some 99, .faddr 6 (.t 13), none, false⟩, ⟨none, .store 1 (.t 99) (.t 98), none, false⟩] [0, 1, 2, 11, 12, 13]) (.seq (.reg [⟨some 100, .mov (.t 0), none, false⟩, ⟨some 101, .len 8 (.t 100), none, false⟩, ⟨some 102, .un .neg (.t 101), none, false⟩, ⟨some 103, .bin .sub (.t 102) (.c (.int .i64 1)), none, false⟩, ⟨some 104, .faddr 7 (.t 13), none, false⟩, ⟨none, .store 1 (.t 104) (.t 103), none, false⟩] [0, 1, 2, 11, 12, 13]) (.seq (.reg [⟨some 105, .mov (.t 1), none, false⟩, ⟨some 106, .mov (.t 12), none, false⟩, ⟨some 107, .iaddr 8 (.t 105) (.t 106), none, false⟩, ⟨some 108, .faddr 0 (.t 107), none, false⟩, ⟨some 109, .load false 1 (.t 108), none, false⟩, ⟨some 110, .bin .geq (.t 109) (.c (.int .i64 8)), none, false⟩] [0, 1, 2, 11, 12, 13, 110]) (.cond (.t 110) (.seq (.reg [⟨some 6, .mov (.c (.bool true)), none, false⟩] [6]) .ret) .skip)))) .skip)) (.seq (.reg [⟨some 111, .faddr 6 (.t 13), none, false⟩, ⟨some 112, .load false 1 (.t 111), none, false⟩, ⟨some 113, .mov (.t 0), none, false⟩, ⟨some 114, .len 8 (.t 113), none, false⟩, ⟨some 115, .bin .add (.t 112) (.t 114), none, false⟩, ⟨some 116, .faddr 6 (.t 13), none, false⟩, ⟨none, .store 1 (.t 116) (.t 115), none, false⟩] [0, 1, 2, 11, 12, 13]) (.seq (.reg [⟨some 117, .faddr 7 (.t 13), none, false⟩, ⟨some 118, .load false 1 (.t 117), none, false⟩, ⟨some 119, .mov (.t 0), none, false⟩, ⟨some 120, .len 8 (.t 119), none, false⟩, ⟨some 121, .bin .add (.t 118) (.t 120), none, false⟩, ⟨some 122, .faddr 7 (.t 13), none, false⟩, ⟨none, .store 1 (.t 122) (.t 121), none, false⟩] [0, 1, 2, 11, 12, 13]) (.reg [⟨some 123, .mov (.t 11), none, false⟩, ⟨some 124, .load true 8 (.t 13), none, false⟩, ⟨some 125, .mkslice true 41 8 [.t 124], none, false⟩, ⟨some 126, .app 41 8 72 (.t 123) (.t 125), none, false⟩, ⟨some 11, .mov (.t 126), none, false⟩] [0, 1, 2, 11, 12])))))) (.reg [⟨some 69, .mov (.t 12), none, false⟩, ⟨some 70, .bin .add (.t 69) (.c (.int .i64 1)), none, false⟩, ⟨some 12, .mov (.t 70), none, false⟩] [0, 1, 2, 11, 12]))
def x4 : XF := ⟨3, b4, [.t 6]⟩
def h4 : Hints := fun id => match id with
  | 0 => [0, 1, 2]
  | 1 => [0, 1, 2, 7]
  | 2 => [0, 1, 2, 7, 8]
  | 3 => [0, 1, 2, 7, 8, 9]
  | 4 => [0, 1, 2, 7, 8, 9, 10]
  | 5 => [0, 1, 2, 7, 61]
  | 6 => [6]
  | 7 => [0, 1, 2, 11]
  | 8 => [0, 1, 2, 11, 12]
  | 9 => [0, 1, 2, 11, 12, 68]
  | 10 => [0, 1, 2, 11, 12]
  | 11 => [0, 1, 2, 11, 12, 13]
  | 12 => [0, 1, 2, 11, 12, 13, 94]
  | 13 => [0, 1, 2, 11, 12, 13]
  | 14 => [0, 1, 2, 11, 12, 13]
  | 15 => [0, 1, 2, 11, 12, 13, 110]
  | 16 => [6]
  | 17 => [0, 1, 2, 11, 12, 13]
  | 18 => [0, 1, 2, 11, 12, 13]
  | 19 => [0, 1, 2, 11, 12]
  | 20 => [0, 1, 2, 11, 14]
  | 21 => [0, 2, 11, 14, 15]
  | 22 => [2, 11, 14, 15, 16]
  | 23 => [2, 11, 14, 15, 16, 17]
  | 24 => [2, 11, 14, 15, 16, 17, 18]
  | 25 => [2, 11, 14, 15, 17, 18, 19]
  | 26 => [2, 14, 15, 18, 19, 20]
  | 27 => [6]
  | _ => []
theorem cv4 : cvF Tryd.prog h4 Tryd.f4 = some x4 := by kernel_rfl

/-- winnower/winnowerlaw17.FilterParts -/
def b5 : XC := .seq (.reg [⟨some 4, .box 39 (.t 1), none, false⟩, ⟨some 6, .mov (.c (.bool false)), none, false⟩] [0, 2, 4]) (.seq (.reg [⟨some 16, .call (.c (.func 9 [] [])) [], none, false⟩, ⟨some 7, .mov (.t 16), none, false⟩] [0, 2, 4, 7]) (.seq (.reg [⟨some 17, .mov (.t 2), none, false⟩, ⟨some 18, .call (.c (.func 11 [] [])) [.t 17], none, false⟩, ⟨some 8, .mov (.t 18), none, false⟩] [0, 2, 4, 7, 8]) (.seq (.seq (.reg [⟨some 19, .mov (.t 7), none, false⟩, ⟨some 20, .un .not (.t 19), none, false⟩, ⟨some 21, .mov (.t 20), none, false⟩, ⟨some 22, .mov (.t 8), some (21, false), false⟩, ⟨some 23, .un .not (.t 22), some (21, false), false⟩, ⟨some 24, .pick (.t 21) (.c (.bool true)) (.t 23), none, false⟩, ⟨some 25, .mov (.t 24), none, false⟩, ⟨some 26, .faddr 2 (.t 4), some (25, false), false⟩, ⟨some 27, .load false 1 (.t 26), some (25, false), false⟩, ⟨some 28, .lens (.t 27), some (25, false), false⟩, ⟨some 29, .bin .gtr (.t 28) (.c (.int .i64 300)), some (25, false), false⟩, ⟨some 30, .pick (.t 25) (.c (.bool true)) (.t 29), none, false⟩] [0, 2, 4, 7, 30]) (.cond (.t 30) (.seq (.reg [⟨some 31, .mov (.t 7), none, false⟩, ⟨some 6, .mov (.t 31), none, false⟩] [6]) .ret) .skip)) (.seq (.reg [⟨some 32, .mkslice true 3 1 [.c (.int .i64 7), .c (.int .i64 3), .c (.int .i64 1), .c (.int .i64 5)], none, false⟩, ⟨some 9, .mov (.t 32), none, false⟩] [0, 2, 4, 9]) (.seq (.reg [⟨some 10, .mov (.c (.int .i64 0)), none, false⟩] [0, 2, 4, 9, 10]) (.seq (.reg [⟨some 33, .call (.c (.func 22 [] [])) [.c .nils], none, false⟩, ⟨some 11, .alloc 34 [.nils], none, false⟩, ⟨none, .store 1 (.t 11) (.t 33), none, false⟩] [0, 2, 4, 9, 10, 11]) (.seq (.seq (.reg [⟨some 12, .mov (.c (.int .i64 0)), none, false⟩] [0, 2, 4, 9, 10, 11, 12]) (.block 0 (.loop (.seq (.seq (.reg [⟨some 34, .mov (.t 12), none, false⟩, ⟨some 35, .bin .lss (.t 34) (.c (.int .i64 4)), none, false⟩] [0, 2, 4, 9, 10, 11, 12, 35]) (.cond (.t 35) .skip (.exit 0))) (.seq (.block 1 (.seq (.reg [⟨some 13, .alloc 34 [.nils], none, true⟩, ⟨some 38, .mov (.t 9), none, false⟩, ⟨some 39, .mov (.t 12), none, false⟩, ⟨some 40, .iaddr 1 (.t 38) (.t 39), none, false⟩, ⟨some 41, .load false 1 (.t 40), none, false⟩, ⟨some 42, .mov (.t 0), none, false⟩, ⟨some 43, .load true 4 (.t 4), none, false⟩, ⟨some 44, .build [.int .i64 0, .int .i64 0, .int .i64 0, .int .i64 0, .str ⟨#[]⟩, .bool false, .int .i64 0, .int .i64 0] [(0, (1, .t 41)), (1, (1, .t 42)), (2, (4, .t 43))], none, false⟩, ⟨some 45, .mkslice true 41 8 [.t 44], none, true⟩, ⟨some 46, .mov (.t 2), none, false⟩, ⟨some 47, .call (.c (.func 16 [] [])) [.t 45, .t 46], none, true⟩, ⟨none, .store 1 (.t 13) (.t 47), none, false⟩] [0, 2, 4, 9, 10, 11, 12, 13]) (.seq (.reg [⟨some 48, .mov (.t 10), none, false⟩, ⟨some 49, .load true 1 (.t 13), none, false⟩, ⟨some 50, .call (.c (.func 23 [] [])) [.t 49], none, false⟩, ⟨some 51, .bin .add (.t 48) (.t 50), none, false⟩, ⟨some 10, .mov (.t 51), none, false⟩] [0, 2, 4, 9, 10, 11, 12, 13]) (.reg [⟨some 52, .load true 1 (.t 11), none, false⟩, ⟨some 53, .load true 1 (.t 13), none, false⟩, ⟨some 54, .call (.c (.func 20 [] [])) [.t 52, .t 53], none, false⟩, ⟨none, .store 1 (.t 11) (.t 54), none, false⟩] [0, 2, 4, 9, 10, 11, 12])))) (.reg [⟨some 36, .mov (.t 12), none, false⟩, ⟨some 37, .bin .add (.t 36) (.c (.int .i64 1)), none, false⟩, ⟨some 12, .mov (.t 37), none, false⟩] [0, 2, 4, 9, 10, 11, 12])))))) (.seq (.reg [⟨some 14, .mov (.c (.int .i64 0)), none, false⟩] [0, 2, 10, 11, 14]) (.seq (.seq (.reg [⟨some 15, .mov (.c (.int .i64 0)), none, false⟩] [0, 2, 10, 11, 14, 15]) (.block 2 (.loop (.seq (.seq (.reg [⟨some 55, .mov (.t 15), none, false⟩, ⟨some 56, .mov (.t 2), none, false⟩, ⟨some 57, .len 1 (.t 56), none, false⟩, ⟨some 58, .bin .lss (.t 55) (.t 57), none, false⟩] [0, 2, 10, 11, 14, 15, 58]) (.cond (.t 58) .skip (.exit 2))) (.seq (.block 3 (.seq (.reg [⟨some 61, .mov (.t 0), none, false⟩, ⟨some 62, .bin .geq (.t 61) (.c (.int .i64 0)), none, false⟩, ⟨some 63, .mov (.t 62), none, false⟩, ⟨some 64, .mov (.t 0), some (63, true), false⟩, ⟨some 65, .mov (.t 2), some (63, true), false⟩, ⟨some 66, .mov (.t 15), some (63, true), false⟩, ⟨some 67, .iaddr 1 (.t 65) (.t 66), some (63, true), false⟩, ⟨some 68, .load false 1 (.t 67), some (63, true), false⟩, ⟨some 69, .len 4 (.t 68), some (63, true), false⟩, ⟨some 70, .bin .lss (.t 64) (.t 69), some (63, true), false⟩, ⟨some 71, .pick (.t 63) (.t 70) (.c (.bool false)), none, false⟩] [0, 2, 10, 11, 14, 15, 71]) (.cond (.t 71) (.reg [⟨some 72, .mov (.t 14), none, false⟩, ⟨some 73, .bin .add (.t 72) (.c (.int .i64 1)), none, false⟩, ⟨some 14, .mov (.t 73), none, false⟩] [0, 2, 10, 11, 14, 15]) .skip))) (.reg [⟨some 59, .mov (.t 15), none, false⟩, ⟨some 60, .bin .add (.t 59) (.c (.int .i64 1)), none, false⟩, ⟨some 15, .mov (.t 60), none, false⟩] [0, 2, 10, 11, 14, 15])))))) (.seq (.reg [⟨some 74, .mov (.t 10), none, false⟩, ⟨some 75, .mov (.t 14), none, false⟩, ⟨some 76, .bin .eql (.t 74) (.t 75), none, false⟩, ⟨some 77, .mov (.t 76), none, false⟩, ⟨some 78, .load true 1 (.t 11), some (77, true), false⟩, ⟨some 79, .call (.c (.func 23 [] [])) [.t 78], some (77, true), false⟩, ⟨some 80, .mov (.t 14), some (77, true), false⟩, ⟨some 81, .bin .eql (.t 79) (.t 80), some (77, true), false⟩, ⟨some 82, .pick (.t 77) (.t 81) (.c (.bool false)), none, false⟩, ⟨some 6, .mov (.t 82), none, false⟩] [6]) .ret))))))))))
def lp5_0 : XC := .seq (.seq (.reg [⟨some 34, .mov (.t 12), none, false⟩, ⟨some 35, .bin .lss (.t 34) (.c (.int .i64 4)), none, false⟩] [0, 2, 4, 9, 10, 11, 12, 35]) (.cond (.t 35) .skip (.exit 0))) (.seq (.block 1 (.seq (.reg [⟨some 13, .alloc 34 [.nils], none, true⟩, ⟨some 38, .mov (.t 9), none, false⟩, ⟨some 39, .mov (.t 12), none, false⟩, ⟨some 40, .iaddr 1 (.t 38) (.t 39), none, false⟩, ⟨some 41, .load false 1 (.t 40), none, false⟩, ⟨some 42, .mov (.t 0), none, false⟩, ⟨some 43, .load true 4 (.t 4), none, false⟩, ⟨some 44, .build [.int .i64 0, .int .i64 0, .int .i64 0, .int .i64 0, .str ⟨#[]⟩, .bool false, .int .i64 0, .int .i64 0] [(0, (1, .t 41)), (1, (1, .t 42)), (2, (4, .t 43))], none, false⟩, ⟨some 45, .mkslice true 41 8 [.t 44], none, true⟩, ⟨some 46, .mov (.t 2), none, false⟩, ⟨some 47, .call (.c (.func 16 [] [])) [.t 45, .t 46], none, true⟩, ⟨none, .store 1 (.t 13) (.t 47), none, false⟩] [0, 2, 4, 9, 10, 11, 12, 13]) (.seq (.reg [⟨some 48, .mov (.t 10), none, false⟩, ⟨some 49, .load true 1 (.t 13), none, false⟩, ⟨some 50, .call (.c (.func 23 [] [])) [.t 49], none, false⟩, ⟨some 51, .bin .add (.t 48) (.t 50), none, false⟩, ⟨some 10, .mov (.t 51), none, false⟩] [0, 2, 4, 9, 10, 11, 12, 13]) (.reg [⟨some 52, .load true 1 (.t 11), none, false⟩, ⟨some 53, .load true 1 (.t 13), none, false⟩, ⟨some 54, .call (.c (.func 20 [] [])) [.t 52, .t 53], none, false⟩, ⟨none, .store 1 (.t 11) (.t 54), none, false⟩] [0, 2, 4, 9, 10, 11, 12])))) (.reg [⟨some 36, .mov (.t 12), none, false⟩, ⟨some 37, .bin .add (.t 36) (.c (.int .i64 1)), none, false⟩, ⟨some 12, .mov (.t 37), none, false⟩] [0, 2, 4, 9, 10, 11, 12]))
def lp5_1 : XC := .seq (.seq (.reg [⟨some 55, .mov (.t 15), none, false⟩, ⟨some 56, .mov (.t 2), none, false⟩, ⟨some 57, .len 1 (.t 56), none, false⟩, ⟨some 58, .bin .lss (.t 55) (.t 57), none, false⟩] [0, 2, 10, 11, 14, 15, 58]) (.cond (.t 58) .skip (.exit 2))) (.seq (.block 3 (.seq (.reg [⟨some 61, .mov (.t 0), none, false⟩, ⟨some 62, .bin .geq (.t 61) (.c (.int .i64 0)), none, false⟩, ⟨some 63, .mov (.t 62), none, false⟩, ⟨some 64, .mov (.t 0), some (63, true), false⟩, ⟨some 65, .mov (.t 2), some (63, true), false⟩, ⟨some 66, .mov (.t 15), some (63, true), false⟩, ⟨some 67, .iaddr 1 (.t 65) (.t 66), some (63, true), false⟩, ⟨some 68, .load false 1 (.t 67), some (63, true), false⟩, ⟨some 69, .len 4 (.t 68), some (63, true), false⟩, ⟨some 70, .bin .lss (.t 64) (.t 69), some (63, true), false⟩, ⟨some 71, .pick (.t 63) (.t 70) (.c (.bool false)), none, false⟩] [0, 2, 10, 11, 14, 15, 71]) (.cond (.t 71) (.reg [⟨some 72, .mov (.t 14), none, false⟩, ⟨some 73, .bin .add (.t 72) (.c (.int .i64 1)), none, false⟩, ⟨some 14, .mov (.t 73), none, false⟩] [0, 2, 10, 11, 14, 15]) .skip))) (.reg [⟨some 59, .mov (.t 15), none, false⟩, ⟨some 60, .bin .add (.t 59) (.c (.int .i64 1)), none, false⟩, ⟨some 15, .mov (.t 60), none, false⟩] [0, 2, 10, 11, 14, 15]))
def x5 : XF := ⟨3, b5, [.t 6]⟩
def h5 : Hints := fun id => match id with
  | 0 => [0, 2, 4]
  | 1 => [0, 2, 4, 7]
  | 2 => [0, 2, 4, 7, 8]
  | 3 => [0, 2, 4, 7, 30]
  | 4 => [6]
  | 5 => [0, 2, 4, 9]
  | 6 => [0, 2, 4, 9, 10]
  | 7 => [0, 2, 4, 9, 10, 11]
  | 8 => [0, 2, 4, 9, 10, 11, 12]
  | 9 => [0, 2, 4, 9, 10, 11, 12, 35]
  | 10 => [0, 2, 4, 9, 10, 11, 12]
  | 11 => [0, 2, 4, 9, 10, 11, 12, 13]
  | 12 => [0, 2, 4, 9, 10, 11, 12, 13]
  | 13 => [0, 2, 4, 9, 10, 11, 12]
  | 14 => [0, 2, 10, 11, 14]
  | 15 => [0, 2, 10, 11, 14, 15]
  | 16 => [0, 2, 10, 11, 14, 15, 58]
  | 17 => [0, 2, 10, 11, 14, 15]
  | 18 => [0, 2, 10, 11, 14, 15, 71]
  | 19 => [0, 2, 10, 11, 14, 15]
  | 20 => [6]
  | _ => []
theorem cv5 : cvF Tryd.prog h5 Tryd.f5 = some x5 := by kernel_rfl

/-- winnower/winnowerlaw17.FilterRows -/
def b6 : XC := .seq (.reg [⟨some 6, .mov (.c (.bool false)), none, false⟩] [0, 1, 2]) (.seq (.reg [⟨some 15, .call (.c (.func 9 [] [])) [], none, false⟩, ⟨some 7, .mov (.t 15), none, false⟩] [0, 1, 2, 7]) (.seq (.reg [⟨some 16, .mov (.t 0), none, false⟩, ⟨some 17, .call (.c (.func 10 [] [])) [.t 16], none, false⟩, ⟨some 8, .mov (.t 17), none, false⟩] [0, 1, 2, 7, 8]) (.seq (.reg [⟨some 18, .mov (.t 1), none, false⟩, ⟨some 19, .call (.c (.func 11 [] [])) [.t 18], none, false⟩, ⟨some 9, .mov (.t 19), none, false⟩] [0, 1, 2, 7, 8, 9]) (.seq (.reg [⟨some 20, .mov (.t 2), none, false⟩, ⟨some 21, .call (.c (.func 11 [] [])) [.t 20], none, false⟩, ⟨some 10, .mov (.t 21), none, false⟩] [0, 1, 2, 7, 8, 9, 10]) (.seq (.seq (.reg [⟨some 22, .mov (.t 7), none, false⟩, ⟨some 23, .un .not (.t 22), none, false⟩, ⟨some 24, .mov (.t 23), none, false⟩, ⟨some 25, .mov (.t 8), some (24, false), false⟩, ⟨some 26, .un .not (.t 25), some (24, false), false⟩, ⟨some 27, .pick (.t 24) (.c (.bool true)) (.t 26), none, false⟩, ⟨some 28, .mov (.t 27), none, false⟩, ⟨some 29, .mov (.t 9), some (28, false), false⟩, ⟨some 30, .un .not (.t 29), some (28, false), false⟩, ⟨some 31, .pick (.t 28) (.c (.bool true)) (.t 30), none, false⟩, ⟨some 32, .mov (.t 31), none, false⟩, ⟨some 33, .mov (.t 10), some (32, false), false⟩, ⟨some 34, .un .not (.t 33), some (32, false), false⟩, ⟨some 35, .pick (.t 32) (.c (.bool true)) (.t 34), none, false⟩] [0, 1, 2, 7, 35]) (.cond (.t 35) (.seq (.reg [⟨some 36, .mov (.t 7), none, false⟩, ⟨some 6, .mov (.t 36), none, false⟩] [6]) .ret) .skip)) (.seq (.reg [⟨some 37, .mov (.t 0), none, false⟩, ⟨some 38, .mov (.t 1), none, false⟩, ⟨some 39, .call (.c (.func 16 [] [])) [.t 37, .t 38], none, false⟩, ⟨some 11, .alloc 34 [.nils], none, false⟩, ⟨none, .store 1 (.t 11) (.t 39), none, false⟩] [0, 1, 2, 11]) (.seq (.reg [⟨some 40, .mov (.t 0), none, false⟩, ⟨some 41, .mov (.t 1), none, false⟩, ⟨some 42, .app 28 1 24 (.c .nils) (.t 41), none, false⟩, ⟨some 43, .mov (.t 2), none, false⟩, ⟨some 44, .app 28 1 24 (.t 42) (.t 43), none, false⟩, ⟨some 45, .call (.c (.func 16 [] [])) [.t 40, .t 44], none, false⟩, ⟨some 12, .alloc 34 [.nils], none, false⟩, ⟨none, .store 1 (.t 12) (.t 45), none, false⟩] [0, 1, 2, 11, 12]) (.seq (.seq (.reg [⟨some 13, .mov (.c (.int .i64 0)), none, false⟩] [0, 1, 2, 11, 12, 13]) (.block 0 (.loop (.seq (.seq (.reg [⟨some 46, .mov (.t 13), none, false⟩, ⟨some 47, .mov (.t 1), none, false⟩, ⟨some 48, .len 1 (.t 47), none, false⟩, ⟨some 49, .bin .lss (.t 46) (.t 48), none, false⟩] [0, 1, 2, 11, 12, 13, 49]) (.cond (.t 49) .skip (.exit 0))) (.seq (.block 1 (.seq (.reg [⟨some 52, .load true 1 (.t 11), none, false⟩, ⟨some 53, .mov (.t 13), none, false⟩, ⟨some 54, .call (.c (.func 24 [] [])) [.t 52, .t 53], none, true⟩, ⟨some 55, .mov (.t 0), none, false⟩, ⟨some 56, .mov (.t 1), none, false⟩, ⟨some 57, .mov (.t 13), none, false⟩, ⟨some 58, .iaddr 1 (.t 56) (.t 57), none, false⟩, ⟨some 59, .load false 1 (.t 58), none, false⟩, ⟨some 60, .call (.c (.func 12 [] [])) [.t 55, .t 59], none, false⟩, ⟨some 61, .eqk 0 true (.t 54) (.t 60), none, false⟩, ⟨some 62, .mov (.t 61), none, false⟩, ⟨some 63, .load true 1 (.t 12), some (62, false), false⟩, ⟨some 64, .mov (.t 13), some (62, false), false⟩, ⟨some 65, .call (.c (.func 24 [] [])) [.t 63, .t 64], some (62, false), true⟩, ⟨some 66, .load true 1 (.t 11), some (62, false), false⟩, ⟨some 67, .mov (.t 13), some (62, false), false⟩, ⟨some 68, .call (.c (.func 24 [] [])) [.t 66, .t 67], some (62, false), false⟩, ⟨some 69, .eqk 0 true (.t 65) (.t 68), some (62, false), false⟩, ⟨some 70, .pick (.t 62) (.c (.bool true)) (.t 69), none, false⟩] [0, 1, 2, 11, 12, 13, 70]) (.cond (.t 70) (.seq (.reg [⟨some 6, .mov (.c (.bool false)), none, false⟩] [6]) .ret) .skip))) (.reg [⟨some 50, .mov (.t 13), none, false⟩, ⟨some 51, .bin .add (.t 50) (.c (.int .i64 1)), none, false⟩, ⟨some 13, .mov (.t 51), none, false⟩] [0, 1, 2, 11, 12, 13])))))) (.seq (.seq (.reg [⟨some 14, .mov (.c (.int .i64 0)), none, false⟩] [0, 1, 2, 11, 12, 14]) (.block 2 (.loop (.seq (.seq (.reg [⟨some 71, .mov (.t 14), none, false⟩, ⟨some 72, .mov (.t 2), none, false⟩, ⟨some 73, .len 1 (.t 72), none, false⟩, ⟨some 74, .bin .lss (.t 71) (.t 73), none, false⟩] [0, 1, 2, 11, 12, 14, 74]) (.cond (.t 74) .skip (.exit 2))) (.seq (.block 3 (.seq (.reg [⟨some 77, .load true 1 (.t 12), none, false⟩, ⟨some 78, .mov (.t 1), none, false⟩, ⟨some 79, .len 1 (.t 78), none, false⟩, ⟨some 80, .mov (.t 14), none, false⟩, ⟨some 81, .bin .add (.t 79) (.t 80), none, false⟩, ⟨some 82, .call (.c (.func 24 [] [])) [.t 77, .t 81], none, true⟩, ⟨some 83, .mov (.t 0), none, false⟩, ⟨some 84, .mov (.t 2), none, false⟩, ⟨some 85, .mov (.t 14), none, false⟩, ⟨some 86, .iaddr 1 (.t 84) (.t 85), none, false⟩, ⟨some 87, .load false 1 (.t 86), none, false⟩, ⟨some 88, .call (.c (.func 12 [] [])) [.t 83, .t 87], none, false⟩, ⟨some 89, .eqk 0 true (.t 82) (.t 88), none, false⟩] [0, 1, 2, 11, 12, 14, 89]) (.cond (.t 89) (.seq (.reg [⟨some 6, .mov (.c (.bool false)), none, false⟩] [6]) .ret) .skip))) (.reg [⟨some 75, .mov (.t 14), none, false⟩, ⟨some 76, .bin .add (.t 75) (.c (.int .i64 1)), none, false⟩, ⟨some 14, .mov (.t 76), none, false⟩] [0, 1, 2, 11, 12, 14])))))) (.seq (.reg [⟨some 90, .load true 1 (.t 12), none, false⟩, ⟨some 91, .call (.c (.func 23 [] [])) [.t 90], none, false⟩, ⟨some 92, .mov (.t 1), none, false⟩, ⟨some 93, .len 1 (.t 92), none, false⟩, ⟨some 94, .mov (.t 2), none, false⟩, ⟨some 95, .len 1 (.t 94), none, false⟩, ⟨some 96, .bin .add (.t 93) (.t 95), none, false⟩, ⟨some 97, .bin .leq (.t 91) (.t 96), none, false⟩, ⟨some 98, .mov (.t 97), none, false⟩, ⟨some 99, .load true 1 (.t 11), some (98, true), false⟩, ⟨some 100, .call (.c (.func 23 [] [])) [.t 99], some (98, true), false⟩, ⟨some 101, .mov (.t 1), some (98, true), false⟩, ⟨some 102, .len 1 (.t 101), some (98, true), false⟩, ⟨some 103, .bin .leq (.t 100) (.t 102), some (98, true), false⟩, ⟨some 104, .pick (.t 98) (.t 103) (.c (.bool false)), none, false⟩, ⟨some 6, .mov (.t 104), none, false⟩] [6]) .ret))))))))))
def lp6_0 : XC := .seq (.seq (.reg [⟨some 46, .mov (.t 13), none, false⟩, ⟨some 47, .mov (.t 1), none, false⟩, ⟨some 48, .len 1 (.t 47), none, false⟩, ⟨some 49, .bin .lss (.t 46) (.t 48), none, false⟩] [0, 1, 2, 11, 12, 13, 49]) (.cond (.t 49) .skip (.exit 0))) (.seq (.block 1 (.seq (.reg [⟨some 52, .load true 1 (.t 11), none, false⟩, ⟨some 53, .mov (.t 13), none, false⟩, ⟨some 54, .call (.c (.func 24 [] [])) [.t 52, .t 53], none, true⟩, ⟨some 55, .mov (.t 0), none, false⟩, ⟨some 56, .mov (.t 1), none, false⟩, ⟨some 57, .mov (.t 13), none, false⟩, ⟨some 58, .iaddr 1 (.t 56) (.t 57), none, false⟩, ⟨some 59, .load false 1 (.t 58), none, false⟩, ⟨some 60, .call (.c (.func 12 [] [])) [.t 55, .t 59], none, false⟩, ⟨some 61, .eqk 0 true (.t 54) (.t 60), none, false⟩, ⟨some 62, .mov (.t 61), none, false⟩, ⟨some 63, .load true 1 (.t 12), some (62, false), false⟩, ⟨some 64, .mov (.t 13), some (62, false), false⟩, ⟨some 65, .call (.c (.func 24 [] [])) [.t 63, .t 64], some (62, false), true⟩, ⟨some 66, .load true 1 (.t 11), some (62, false), false⟩, ⟨some 67, .mov (.t 13), some (62, false), false⟩, ⟨some 68, .call (.c (.func 24 [] [])) [.t 66, .t 67], some (62, false), false⟩, ⟨some 69, .eqk 0 true (.t 65) (.t 68), some (62, false), false⟩, ⟨some 70, .pick (.t 62) (.c (.bool true)) (.t 69), none, false⟩] [0, 1, 2, 11, 12, 13, 70]) (.cond (.t 70) (.seq (.reg [⟨some 6, .mov (.c (.bool false)), none, false⟩] [6]) .ret) .skip))) (.reg [⟨some 50, .mov (.t 13), none, false⟩, ⟨some 51, .bin .add (.t 50) (.c (.int .i64 1)), none, false⟩, ⟨some 13, .mov (.t 51), none, false⟩] [0, 1, 2, 11, 12, 13]))
def lp6_1 : XC := .seq (.seq (.reg [⟨some 71, .mov (.t 14), none, false⟩, ⟨some 72, .mov (.t 2), none, false⟩, ⟨some 73, .len 1 (.t 72), none, false⟩, ⟨some 74, .bin .lss (.t 71) (.t 73), none, false⟩] [0, 1, 2, 11, 12, 14, 74]) (.cond (.t 74) .skip (.exit 2))) (.seq (.block 3 (.seq (.reg [⟨some 77, .load true 1 (.t 12), none, false⟩, ⟨some 78, .mov (.t 1), none, false⟩, ⟨some 79, .len 1 (.t 78), none, false⟩, ⟨some 80, .mov (.t 14), none, false⟩, ⟨some 81, .bin .add (.t 79) (.t 80), none, false⟩, ⟨some 82, .call (.c (.func 24 [] [])) [.t 77, .t 81], none, true⟩, ⟨some 83, .mov (.t 0), none, false⟩, ⟨some 84, .mov (.t 2), none, false⟩, ⟨some 85, .mov (.t 14), none, false⟩, ⟨some 86, .iaddr 1 (.t 84) (.t 85), none, false⟩, ⟨some 87, .load false 1 (.t 86), none, false⟩, ⟨some 88, .call (.c (.func 12 [] [])) [.t 83, .t 87], none, false⟩, ⟨some 89, .eqk 0 true (.t 82) (.t 88), none, false⟩] [0, 1, 2, 11, 12, 14, 89]) (.cond (.t 89) (.seq (.reg [⟨some 6, .mov (.c (.bool false)), none, false⟩] [6]) .ret) .skip))) (.reg [⟨some 75, .mov (.t 14), none, false⟩, ⟨some 76, .bin .add (.t 75) (.c (.int .i64 1)), none, false⟩, ⟨some 14, .mov (.t 76), none, false⟩] [0, 1, 2, 11, 12, 14]))
def x6 : XF := ⟨3, b6, [.t 6]⟩
def h6 : Hints := fun id => match id with
  | 0 => [0, 1, 2]
  | 1 => [0, 1, 2, 7]
  | 2 => [0, 1, 2, 7, 8]
  | 3 => [0, 1, 2, 7, 8, 9]
  | 4 => [0, 1, 2, 7, 8, 9, 10]
  | 5 => [0, 1, 2, 7, 35]
  | 6 => [6]
  | 7 => [0, 1, 2, 11]
  | 8 => [0, 1, 2, 11, 12]
  | 9 => [0, 1, 2, 11, 12, 13]
  | 10 => [0, 1, 2, 11, 12, 13, 49]
  | 11 => [0, 1, 2, 11, 12, 13]
  | 12 => [0, 1, 2, 11, 12, 13, 70]
  | 13 => [6]
  | 14 => [0, 1, 2, 11, 12, 14]
  | 15 => [0, 1, 2, 11, 12, 14, 74]
  | 16 => [0, 1, 2, 11, 12, 14]
  | 17 => [0, 1, 2, 11, 12, 14, 89]
  | 18 => [6]
  | 19 => [6]
  | _ => []
theorem cv6 : cvF Tryd.prog h6 Tryd.f6 = some x6 := by kernel_rfl

/-- winnower/winnowerlaw17.awake -/
def b9 : XC := .seq (.reg [⟨some 0, .mov (.c (.bool false)), none, false⟩] []) (.seq (.reg [⟨some 6, .call (.c (.func 30 [] [])) [.c (.int .i64 3)], none, false⟩, ⟨some 7, .mkslice true 39 4 [.t 6], none, false⟩, ⟨some 8, .build [.int .i64 0, .int .i64 0, .str ⟨#[]⟩, .bool false] [], none, false⟩, ⟨some 9, .mkslice true 39 4 [.t 8], none, false⟩, ⟨some 10, .call (.c (.func 30 [] [])) [.c (.int .i64 7)], none, false⟩, ⟨some 11, .mkslice true 39 4 [.t 10], none, false⟩, ⟨some 12, .mkslice true 28 1 [.t 7, .t 9, .t 11], none, false⟩, ⟨some 1, .mov (.t 12), none, false⟩] [1]) (.seq (.reg [⟨some 13, .call (.c (.func 30 [] [])) [.c (.int .i64 5)], none, false⟩, ⟨some 14, .build [.int .i64 0, .int .i64 0, .int .i64 0, .int .i64 0, .str ⟨#[]⟩, .bool false, .int .i64 0, .int .i64 0] [(0, (1, .c (.int .i64 5))), (2, (4, .t 13))], none, false⟩, ⟨some 15, .build [.int .i64 0, .int .i64 0, .int .i64 0, .int .i64 0, .str ⟨#[]⟩, .bool false, .int .i64 0, .int .i64 0] [(0, (1, .c (.int .i64 10)))], none, false⟩, ⟨some 16, .mkslice true 41 8 [.t 14, .t 15], none, false⟩, ⟨some 2, .mov (.t 16), none, false⟩] [1, 2]) (.seq (.reg [⟨some 17, .mov (.t 2), none, false⟩, ⟨some 18, .slc 8 (.t 17) none (some (.c (.int .i64 1))) none, none, false⟩, ⟨some 19, .mov (.t 1), none, false⟩, ⟨some 20, .call (.c (.func 16 [] [])) [.t 18, .t 19], none, false⟩, ⟨some 21, .call (.c (.func 15 [] [])) [.t 20, .c (.int .i64 (-1))], none, false⟩, ⟨some 22, .mkslice true 3 1 [.c (.int .i64 2)], none, false⟩, ⟨some 23, .call (.c (.func 14 [] [])) [.t 21, .t 22], none, false⟩, ⟨some 3, .mov (.t 23), none, false⟩] [1, 2, 3]) (.seq (.reg [⟨some 24, .mov (.t 2), none, false⟩, ⟨some 25, .mov (.t 1), none, false⟩, ⟨some 26, .call (.c (.func 16 [] [])) [.t 24, .t 25], none, false⟩, ⟨some 27, .call (.c (.func 15 [] [])) [.t 26, .c (.int .i64 (-1))], none, false⟩, ⟨some 28, .mkslice true 3 1 [.c (.int .i64 0), .c (.int .i64 1)], none, false⟩, ⟨some 29, .call (.c (.func 14 [] [])) [.t 27, .t 28], none, false⟩, ⟨some 4, .mov (.t 29), none, false⟩] [1, 3, 4]) (.seq (.reg [⟨some 30, .call (.c (.func 30 [] [])) [.c (.int .i64 3)], none, false⟩, ⟨some 31, .build [.int .i64 0, .int .i64 0, .int .i64 0, .int .i64 0, .str ⟨#[]⟩, .bool false, .int .i64 0, .int .i64 0] [(0, (1, .c (.int .i64 2))), (2, (4, .t 30))], none, false⟩, ⟨some 32, .mkslice true 41 8 [.t 31], none, false⟩, ⟨some 33, .mov (.t 1), none, false⟩, ⟨some 34, .call (.c (.func 16 [] [])) [.t 32, .t 33], none, false⟩, ⟨some 35, .call (.c (.func 15 [] [])) [.t 34, .c (.int .i64 (-1))], none, false⟩, ⟨some 36, .mkslice true 3 1 [.c (.int .i64 2)], none, false⟩, ⟨some 37, .call (.c (.func 14 [] [])) [.t 35, .t 36], none, false⟩, ⟨some 5, .mov (.t 37), none, false⟩] [3, 4, 5]) (.seq (.reg [⟨some 38, .mov (.t 3), none, false⟩, ⟨some 39, .mov (.t 38), none, false⟩, ⟨some 40, .mov (.t 4), some (39, true), false⟩, ⟨some 41, .pick (.t 39) (.t 40) (.c (.bool false)), none, false⟩, ⟨some 42, .mov (.t 41), none, false⟩, ⟨some 43, .mov (.t 5), some (42, true), false⟩, ⟨some 44, .pick (.t 42) (.t 43) (.c (.bool false)), none, false⟩, ⟨some 45, .mov (.t 44), none, false⟩, ⟨some 46, .call (.c (.func 12 [] [])) [.c .nils, .c .nils], some (45, true), false⟩, ⟨some 47, .pick (.t 45) (.t 46) (.c (.bool false)), none, false⟩, ⟨some 0, .mov (.t 47), none, false⟩] [0]) .ret))))))
def x9 : XF := ⟨0, b9, [.t 0]⟩
def h9 : Hints := fun id => match id with
  | 1 => [1]
  | 2 => [1, 2]
  | 3 => [1, 2, 3]
  | 4 => [1, 3, 4]
  | 5 => [3, 4, 5]
  | 6 => [0]
  | _ => []
theorem cv9 : cvF Tryd.prog h9 Tryd.f9 = some x9 := by kernel_rfl

/-- winnower/winnowerref17.Few -/
def b10 : XC := .seq (.reg [⟨some 2, .mov (.c (.bool false)), none, false⟩] [0]) (.seq (.seq (.reg [⟨some 4, .mov (.t 0), none, false⟩, ⟨some 5, .len 8 (.t 4), none, false⟩, ⟨some 6, .bin .gtr (.t 5) (.c (.int .i64 60)), none, false⟩] [0, 6]) (.cond (.t 6) (.seq (.reg [⟨some 2, .mov (.c (.bool false)), none, false⟩] [2]) .ret) .skip)) (.seq (.seq (.reg [⟨some 3, .mov (.c (.int .i64 0)), none, false⟩] [0, 3]) (.block 0 (.loop (.seq (.seq (.reg [⟨some 7, .mov (.t 3), none, false⟩, ⟨some 8, .mov (.t 0), none, false⟩, ⟨some 9, .len 8 (.t 8), none, false⟩, ⟨some 10, .bin .lss (.t 7) (.t 9), none, false⟩] [0, 3, 10]) (.cond (.t 10) .skip (.exit 0))) (.seq (.block 1 (.seq (.reg [⟨some 13, .mov (.t 0), none, false⟩, ⟨some 14, .mov (.t 3), none, false⟩, ⟨some 15, .iaddr 8 (.t 13) (.t 14), none, false⟩, ⟨some 16, .faddr 2 (.t 15), none, false⟩, ⟨some 17, .faddr 2 (.t 16), none, false⟩, ⟨some 18, .load false 1 (.t 17), none, false⟩, ⟨some 19, .lens (.t 18), none, false⟩, ⟨some 20, .bin .gtr (.t 19) (.c (.int .i64 300)), none, false⟩] [0, 3, 20]) (.cond (.t 20) (.seq (.reg [⟨some 2, .mov (.c (.bool false)), none, false⟩] [2]) .ret) .skip))) (.reg [⟨some 11, .mov (.t 3), none, false⟩, ⟨some 12, .bin .add (.t 11) (.c (.int .i64 1)), none, false⟩, ⟨some 3, .mov (.t 12), none, false⟩] [0, 3])))))) (.seq (.reg [⟨some 2, .mov (.c (.bool true)), none, false⟩] [2]) .ret)))
def lp10_0 : XC := .seq (.seq (.reg [⟨some 7, .mov (.t 3), none, false⟩, ⟨some 8, .mov (.t 0), none, false⟩, ⟨some 9, .len 8 (.t 8), none, false⟩, ⟨some 10, .bin .lss (.t 7) (.t 9), none, false⟩] [0, 3, 10]) (.cond (.t 10) .skip (.exit 0))) (.seq (.block 1 (.seq (.reg [⟨some 13, .mov (.t 0), none, false⟩, ⟨some 14, .mov (.t 3), none, false⟩, ⟨some 15, .iaddr 8 (.t 13) (.t 14), none, false⟩, ⟨some 16, .faddr 2 (.t 15), none, false⟩, ⟨some 17, .faddr 2 (.t 16), none, false⟩, ⟨some 18, .load false 1 (.t 17), none, false⟩, ⟨some 19, .lens (.t 18), none, false⟩, ⟨some 20, .bin .gtr (.t 19) (.c (.int .i64 300)), none, false⟩] [0, 3, 20]) (.cond (.t 20) (.seq (.reg [⟨some 2, .mov (.c (.bool false)), none, false⟩] [2]) .ret) .skip))) (.reg [⟨some 11, .mov (.t 3), none, false⟩, ⟨some 12, .bin .add (.t 11) (.c (.int .i64 1)), none, false⟩, ⟨some 3, .mov (.t 12), none, false⟩] [0, 3]))
def x10 : XF := ⟨1, b10, [.t 2]⟩
def h10 : Hints := fun id => match id with
  | 0 => [0]
  | 1 => [0, 6]
  | 2 => [2]
  | 3 => [0, 3]
  | 4 => [0, 3, 10]
  | 5 => [0, 3]
  | 6 => [0, 3, 20]
  | 7 => [2]
  | 8 => [2]
  | _ => []
theorem cv10 : cvF Tryd.prog h10 Tryd.f10 = some x10 := by kernel_rfl

/-- winnower/winnowerref17.Light -/
def b11 : XC := .seq (.reg [⟨some 2, .mov (.c (.bool false)), none, false⟩] [0]) (.seq (.seq (.reg [⟨some 5, .mov (.t 0), none, false⟩, ⟨some 6, .len 1 (.t 5), none, false⟩, ⟨some 7, .bin .gtr (.t 6) (.c (.int .i64 60)), none, false⟩] [0, 7]) (.cond (.t 7) (.seq (.reg [⟨some 2, .mov (.c (.bool false)), none, false⟩] [2]) .ret) .skip)) (.seq (.seq (.reg [⟨some 3, .mov (.c (.int .i64 0)), none, false⟩] [0, 3]) (.block 0 (.loop (.seq (.seq (.reg [⟨some 8, .mov (.t 3), none, false⟩, ⟨some 9, .mov (.t 0), none, false⟩, ⟨some 10, .len 1 (.t 9), none, false⟩, ⟨some 11, .bin .lss (.t 8) (.t 10), none, false⟩] [0, 3, 11]) (.cond (.t 11) .skip (.exit 0))) (.seq (.block 1 (.seq (.reg [⟨some 14, .mov (.t 0), none, false⟩, ⟨some 15, .mov (.t 3), none, false⟩, ⟨some 16, .iaddr 1 (.t 14) (.t 15), none, false⟩, ⟨some 17, .load false 1 (.t 16), none, false⟩, ⟨some 18, .call (.c (.func 31 [] [])) [.t 17], none, false⟩, ⟨some 4, .mov (.t 18), none, false⟩] [0, 3, 4]) (.seq (.reg [⟨some 19, .mov (.t 4), none, false⟩, ⟨some 20, .un .not (.t 19), none, false⟩] [0, 3, 20]) (.cond (.t 20) (.seq (.reg [⟨some 2, .mov (.c (.bool false)), none, false⟩] [2]) .ret) .skip)))) (.reg [⟨some 12, .mov (.t 3), none, false⟩, ⟨some 13, .bin .add (.t 12) (.c (.int .i64 1)), none, false⟩, ⟨some 3, .mov (.t 13), none, false⟩] [0, 3])))))) (.seq (.reg [⟨some 2, .mov (.c (.bool true)), none, false⟩] [2]) .ret)))
def lp11_0 : XC := .seq (.seq (.reg [⟨some 8, .mov (.t 3), none, false⟩, ⟨some 9, .mov (.t 0), none, false⟩, ⟨some 10, .len 1 (.t 9), none, false⟩, ⟨some 11, .bin .lss (.t 8) (.t 10), none, false⟩] [0, 3, 11]) (.cond (.t 11) .skip (.exit 0))) (.seq (.block 1 (.seq (.reg [⟨some 14, .mov (.t 0), none, false⟩, ⟨some 15, .mov (.t 3), none, false⟩, ⟨some 16, .iaddr 1 (.t 14) (.t 15), none, false⟩, ⟨some 17, .load false 1 (.t 16), none, false⟩, ⟨some 18, .call (.c (.func 31 [] [])) [.t 17], none, false⟩, ⟨some 4, .mov (.t 18), none, false⟩] [0, 3, 4]) (.seq (.reg [⟨some 19, .mov (.t 4), none, false⟩, ⟨some 20, .un .not (.t 19), none, false⟩] [0, 3, 20]) (.cond (.t 20) (.seq (.reg [⟨some 2, .mov (.c (.bool false)), none, false⟩] [2]) .ret) .skip)))) (.reg [⟨some 12, .mov (.t 3), none, false⟩, ⟨some 13, .bin .add (.t 12) (.c (.int .i64 1)), none, false⟩, ⟨some 3, .mov (.t 13), none, false⟩] [0, 3]))
def x11 : XF := ⟨1, b11, [.t 2]⟩
def h11 : Hints := fun id => match id with
  | 0 => [0]
  | 1 => [0, 7]
  | 2 => [2]
  | 3 => [0, 3]
  | 4 => [0, 3, 11]
  | 5 => [0, 3]
  | 6 => [0, 3, 4]
  | 7 => [0, 3, 20]
  | 8 => [2]
  | 9 => [2]
  | _ => []
theorem cv11 : cvF Tryd.prog h11 Tryd.f11 = some x11 := by kernel_rfl

/-- winnower/filter.Holds -/
def b12 : XC := .seq (.reg [⟨some 4, .mov (.c (.bool false)), none, false⟩] [0, 1]) (.seq (.reg [⟨some 5, .mov (.t 0), none, false⟩, ⟨some 6, .mov (.t 1), none, false⟩, ⟨some 7, .mkslice true 28 1 [.t 6], none, false⟩, ⟨some 8, .call (.c (.func 16 [] [])) [.t 5, .t 7], none, false⟩, ⟨some 9, .call (.c (.func 24 [] [])) [.t 8, .c (.int .i64 0)], none, false⟩, ⟨some 4, .mov (.t 9), none, false⟩] [4]) .ret)
def x12 : XF := ⟨2, b12, [.t 4]⟩
def h12 : Hints := fun id => match id with
  | 0 => [0, 1]
  | 1 => [4]
  | _ => []
theorem cv12 : cvF Tryd.prog h12 Tryd.f12 = some x12 := by kernel_rfl

/-- winnower/winnowerref17.Holds -/
def b13 : XC := .seq (.reg [⟨some 4, .mov (.c (.bool false)), none, false⟩] [0, 1]) (.seq (.seq (.reg [⟨some 11, .mov (.t 0), none, false⟩, ⟨some 12, .len 8 (.t 11), none, false⟩, ⟨some 13, .bin .eql (.t 12) (.c (.int .i64 0)), none, false⟩] [0, 1, 13]) (.cond (.t 13) (.seq (.reg [⟨some 4, .mov (.c (.bool true)), none, false⟩] [4]) .ret) .skip)) (.seq (.reg [⟨some 14, .mov (.t 0), none, false⟩, ⟨some 15, .len 8 (.t 14), none, false⟩, ⟨some 16, .make 4 1 1 (.bool false) (.t 15) (.t 15), none, false⟩, ⟨some 5, .mov (.t 16), none, false⟩] [0, 1, 5]) (.seq (.seq (.reg [⟨some 6, .mov (.c (.int .i64 0)), none, false⟩] [0, 1, 5, 6]) (.block 0 (.loop (.seq (.seq (.reg [⟨some 17, .mov (.t 6), none, false⟩, ⟨some 18, .mov (.t 0), none, false⟩, ⟨some 19, .len 8 (.t 18), none, false⟩, ⟨some 20, .bin .lss (.t 17) (.t 19), none, false⟩] [0, 1, 5, 6, 20]) (.cond (.t 20) .skip (.exit 0))) (.seq (.block 1 (.seq (.reg [⟨some 23, .mov (.t 0), none, false⟩, ⟨some 24, .mov (.t 6), none, false⟩, ⟨some 25, .iaddr 8 (.t 23) (.t 24), none, false⟩, ⟨some 26, .load true 8 (.t 25), none, false⟩, ⟨some 7, .alloc 41 [.int .i64 0, .int .i64 0, .int .i64 0, .int .i64 0, .str ⟨#[]⟩, .bool false, .int .i64 0, .int .i64 0], none, false⟩, ⟨none, .store 8 (.t 7) (.t 26), none, false⟩] [0, 1, 5, 6, 7]) (.seq (.reg [⟨some 27, .faddr 1 (.t 7), none, false⟩, ⟨some 28, .load false 1 (.t 27), none, false⟩, ⟨some 29, .bin .geq (.t 28) (.c (.int .i64 0)), none, false⟩, ⟨some 30, .mov (.t 29), none, false⟩, ⟨some 31, .faddr 1 (.t 7), some (30, true), false⟩, ⟨some 32, .load false 1 (.t 31), some (30, true), false⟩, ⟨some 33, .mov (.t 1), some (30, true), false⟩, ⟨some 34, .len 4 (.t 33), some (30, true), false⟩, ⟨some 35, .bin .lss (.t 32) (.t 34), some (30, true), false⟩, ⟨some 36, .pick (.t 30) (.t 35) (.c (.bool false)), none, false⟩, ⟨some 8, .mov (.t 36), none, false⟩] [0, 1, 5, 6, 7, 8]) (.seq (.reg [⟨some 37, .faddr 6 (.t 7), none, false⟩, ⟨some 38, .load false 1 (.t 37), none, false⟩, ⟨some 39, .bin .geq (.t 38) (.c (.int .i64 0)), none, false⟩, ⟨some 40, .mov (.t 39), none, false⟩, ⟨some 41, .faddr 6 (.t 7), some (40, true), false⟩, ⟨some 42, .load false 1 (.t 41), some (40, true), false⟩, ⟨some 43, .mov (.t 6), some (40, true), false⟩, ⟨some 44, .bin .lss (.t 42) (.t 43), some (40, true), false⟩, ⟨some 45, .pick (.t 40) (.t 44) (.c (.bool false)), none, false⟩, ⟨some 9, .mov (.t 45), none, false⟩] [0, 1, 5, 6, 7, 8, 9]) (.seq (.reg [⟨some 46, .faddr 7 (.t 7), none, false⟩, ⟨some 47, .load false 1 (.t 46), none, false⟩, ⟨some 48, .bin .geq (.t 47) (.c (.int .i64 0)), none, false⟩, ⟨some 49, .mov (.t 48), none, false⟩, ⟨some 50, .faddr 7 (.t 7), some (49, true), false⟩, ⟨some 51, .load false 1 (.t 50), some (49, true), false⟩, ⟨some 52, .mov (.t 6), some (49, true), false⟩, ⟨some 53, .bin .lss (.t 51) (.t 52), some (49, true), false⟩, ⟨some 54, .pick (.t 49) (.t 53) (.c (.bool false)), none, false⟩, ⟨some 10, .mov (.t 54), none, false⟩] [0, 1, 5, 6, 7, 8, 9, 10]) (.seq (.reg [⟨some 55, .faddr 0 (.t 7), none, false⟩, ⟨some 56, .load false 1 (.t 55), none, false⟩] [0, 1, 5, 6, 7, 8, 9, 10, 56]) (.block 2 (.seq (.reg [⟨some 71, .bin .eql (.t 56) (.c (.int .i64 0)), none, false⟩, ⟨some 70, .mov (.t 71), none, false⟩] [0, 1, 5, 6, 7, 8, 9, 10, 56, 70]) (.cond (.t 70) (.reg [⟨some 72, .mov (.t 5), none, false⟩, ⟨some 73, .mov (.t 6), none, false⟩, ⟨some 74, .iaddr 1 (.t 72) (.t 73), none, false⟩, ⟨none, .store 1 (.t 74) (.c (.bool true)), none, false⟩] [0, 1, 5, 6]) (.seq (.reg [⟨some 76, .bin .eql (.t 56) (.c (.int .i64 7)), none, false⟩, ⟨some 75, .mov (.t 76), none, false⟩] [0, 1, 5, 6, 7, 8, 9, 10, 56, 75]) (.cond (.t 75) (.reg [⟨some 77, .mov (.t 5), none, false⟩, ⟨some 78, .mov (.t 6), none, false⟩, ⟨some 79, .mov (.t 8), none, false⟩, ⟨some 80, .mov (.t 79), none, false⟩, ⟨some 81, .mov (.t 1), some (80, true), false⟩, ⟨some 82, .faddr 1 (.t 7), some (80, true), false⟩, ⟨some 83, .load false 1 (.t 82), some (80, true), false⟩, ⟨some 84, .iaddr 4 (.t 81) (.t 83), some (80, true), false⟩, ⟨some 85, .faddr 0 (.t 84), some (80, true), false⟩, ⟨some 86, .load false 1 (.t 85), some (80, true), false⟩, ⟨some 87, .bin .eql (.t 86) (.c (.int .i64 0)), some (80, true), false⟩, ⟨some 88, .pick (.t 80) (.t 87) (.c (.bool false)), none, false⟩, ⟨some 89, .iaddr 1 (.t 77) (.t 78), none, false⟩, ⟨none, .store 1 (.t 89) (.t 88), none, false⟩] [0, 1, 5, 6]) (.seq (.reg [⟨some 91, .bin .eql (.t 56) (.c (.int .i64 8)), none, false⟩, ⟨some 90, .mov (.t 91), none, false⟩] [0, 1, 5, 6, 7, 8, 9, 10, 56, 90]) (.cond (.t 90) (.reg [⟨some 92, .mov (.t 5), none, false⟩, ⟨some 93, .mov (.t 6), none, false⟩, ⟨some 94, .mov (.t 9), none, false⟩, ⟨some 95, .mov (.t 94), none, false⟩, ⟨some 96, .mov (.t 10), some (95, true), false⟩, ⟨some 97, .pick (.t 95) (.t 96) (.c (.bool false)), none, false⟩, ⟨some 98, .mov (.t 97), none, false⟩, ⟨some 99, .mov (.t 5), some (98, true), false⟩, ⟨some 100, .faddr 6 (.t 7), some (98, true), false⟩, ⟨some 101, .load false 1 (.t 100), some (98, true), false⟩, ⟨some 102, .iaddr 1 (.t 99) (.t 101), some (98, true), false⟩, ⟨some 103, .load false 1 (.t 102), some (98, true), false⟩, ⟨some 104, .pick (.t 98) (.t 103) (.c (.bool false)), none, false⟩, ⟨some 105, .mov (.t 104), none, false⟩, ⟨some 106, .mov (.t 5), some (105, true), false⟩, ⟨some 107, .faddr 7 (.t 7), some (105, true), false⟩, ⟨some 108, .load false 1 (.t 107), some (105, true), false⟩, ⟨some 109, .iaddr 1 (.t 106) (.t 108), some (105, true), false⟩, ⟨some 110, .load false 1 (.t 109), some (105, true), false⟩, ⟨some 111, .pick (.t 105) (.t 110) (.c (.bool false)), none, false⟩, ⟨some 112, .iaddr 1 (.t 92) (.t 93), none, false⟩, ⟨none, .store 1 (.t 112) (.t 111), none, false⟩] [0, 1, 5, 6]) (.seq (.reg [⟨some 114, .bin .eql (.t 56) (.c (.int .i64 9)), none, false⟩, ⟨some 113, .mov (.t 114), none, false⟩] [0, 1, 5, 6, 7, 8, 9, 10, 56, 113]) (.cond (.t 113) (.reg [⟨some 115, .mov (.t 5), none, false⟩, ⟨some 116, .mov (.t 6), none, false⟩, ⟨some 117, .mov (.t 9), none, false⟩, ⟨some 118, .mov (.t 117), none, false⟩, ⟨some 119, .mov (.t 10), some (118, true), false⟩, ⟨some 120, .pick (.t 118) (.t 119) (.c (.bool false)), none, false⟩, ⟨some 121, .mov (.t 120), none, false⟩, ⟨some 122, .mov (.t 5), some (121, true), false⟩, ⟨some 123, .faddr 6 (.t 7), some (121, true), false⟩, ⟨some 124, .load false 1 (.t 123), some (121, true), false⟩, ⟨some 125, .iaddr 1 (.t 122) (.t 124), some (121, true), false⟩, ⟨some 126, .load false 1 (.t 125), some (121, true), false⟩, ⟨some 127, .mov (.t 126), some (121, true), false⟩, ⟨some 128, .mov (.t 5), some (127, false), false⟩, ⟨some 129, .faddr 7 (.t 7), some (127, false), false⟩, ⟨some 130, .load false 1 (.t 129), some (127, false), false⟩, ⟨some 131, .iaddr 1 (.t 128) (.t 130), some (127, false), false⟩, ⟨some 132, .load false 1 (.t 131), some (127, false), false⟩, ⟨some 133, .pick (.t 127) (.c (.bool true)) (.t 132), some (121, true), false⟩, ⟨some 134, .pick (.t 121) (.t 133) (.c (.bool false)), none, false⟩, ⟨some 135, .iaddr 1 (.t 115) (.t 116), none, false⟩, ⟨none, .store 1 (.t 135) (.t 134), none, false⟩] [0, 1, 5, 6]) (.seq (.reg [⟨some 137, .bin .eql (.t 56) (.c (.int .i64 10)), none, false⟩, ⟨some 136, .mov (.t 137), none, false⟩] [0, 1, 5, 6, 7, 8, 9, 136]) (.cond (.t 136) (.reg [⟨some 138, .mov (.t 5), none, false⟩, ⟨some 139, .mov (.t 6), none, false⟩, ⟨some 140, .mov (.t 9), none, false⟩, ⟨some 141, .mov (.t 140), none, false⟩, ⟨some 142, .mov (.t 5), some (141, true), false⟩, ⟨some 143, .faddr 6 (.t 7), some (141, true), false⟩, ⟨some 144, .load false 1 (.t 143), some (141, true), false⟩, ⟨some 145, .iaddr 1 (.t 142) (.t 144), some (141, true), false⟩, ⟨some 146, .load false 1 (.t 145), some (141, true), false⟩, ⟨some 147, .un .not (.t 146), some (141, true), false⟩, ⟨some 148, .pick (.t 141) (.t 147) (.c (.bool false)), none, false⟩, ⟨some 149, .iaddr 1 (.t 138) (.t 139), none, false⟩, ⟨none, .store 1 (.t 149) (.t 148), none, false⟩] [0, 1, 5, 6]) (.reg [⟨some 57, .mov (.t 5), none, false⟩, ⟨some 58, .mov (.t 6), none, false⟩, ⟨some 59, .mov (.t 8), none, false⟩, ⟨some 60, .mov (.t 59), none, false⟩, ⟨some 61, .load true 8 (.t 7), some (60, true), false⟩, ⟨some 62, .mov (.t 1), some (60, true), false⟩, ⟨some 63, .faddr 1 (.t 7), some (60, true), false⟩, ⟨some 64, .load false 1 (.t 63), some (60, true), false⟩, ⟨some 65, .iaddr 4 (.t 62) (.t 64), some (60, true), false⟩, ⟨some 66, .load true 4 (.t 65), some (60, true), false⟩, ⟨some 67, .call (.c (.func 32 [] [])) [.t 61, .t 66], some (60, true), false⟩, ⟨some 68, .pick (.t 60) (.t 67) (.c (.bool false)), none, false⟩, ⟨some 69, .iaddr 1 (.t 57) (.t 58), none, false⟩, ⟨none, .store 1 (.t 69) (.t 68), none, false⟩] [0, 1, 5, 6])))))))))))))))))) (.reg [⟨some 21, .mov (.t 6), none, false⟩, ⟨some 22, .bin .add (.t 21) (.c (.int .i64 1)), none, false⟩, ⟨some 6, .mov (.t 22), none, false⟩] [0, 1, 5, 6])))))) (.seq (.reg [⟨some 150, .mov (.t 5), none, false⟩, ⟨some 151, .mov (.t 0), none, false⟩, ⟨some 152, .len 8 (.t 151), none, false⟩, ⟨some 153, .bin .sub (.t 152) (.c (.int .i64 1)), none, false⟩, ⟨some 154, .iaddr 1 (.t 150) (.t 153), none, false⟩, ⟨some 155, .load false 1 (.t 154), none, false⟩, ⟨some 4, .mov (.t 155), none, false⟩] [4]) .ret))))
def lp13_0 : XC := .seq (.seq (.reg [⟨some 17, .mov (.t 6), none, false⟩, ⟨some 18, .mov (.t 0), none, false⟩, ⟨some 19, .len 8 (.t 18), none, false⟩, ⟨some 20, .bin .lss (.t 17) (.t 19), none, false⟩] [0, 1, 5, 6, 20]) (.cond (.t 20) .skip (.exit 0))) (.seq (.block 1 (.seq (.reg [⟨some 23, .mov (.t 0), none, false⟩, ⟨some 24, .mov (.t 6), none, false⟩, ⟨some 25, .iaddr 8 (.t 23) (.t 24), none, false⟩, ⟨some 26, .load true 8 (.t 25), none, false⟩, ⟨some 7, .alloc 41 [.int .i64 0, .int .i64 0, .int .i64 0, .int .i64 0, .str ⟨#[]⟩, .bool false, .int .i64 0, .int .i64 0], none, false⟩, ⟨none, .store 8 (.t 7) (.t 26), none, false⟩] [0, 1, 5, 6, 7]) (.seq (.reg [⟨some 27, .faddr 1 (.t 7), none, false⟩, ⟨some 28, .load false 1 (.t 27), none, false⟩, ⟨some 29, .bin .geq (.t 28) (.c (.int .i64 0)), none, false⟩, ⟨some 30, .mov (.t 29), none, false⟩, ⟨some 31, .faddr 1 (.t 7), some (30, true), false⟩, ⟨some 32, .load false 1 (.t 31), some (30, true), false⟩, ⟨some 33, .mov (.t 1), some (30, true), false⟩, ⟨some 34, .len 4 (.t 33), some (30, true), false⟩, ⟨some 35, .bin .lss (.t 32) (.t 34), some (30, true), false⟩, ⟨some 36, .pick (.t 30) (.t 35) (.c (.bool false)), none, false⟩, ⟨some 8, .mov (.t 36), none, false⟩] [0, 1, 5, 6, 7, 8]) (.seq (.reg [⟨some 37, .faddr 6 (.t 7), none, false⟩, ⟨some 38, .load false 1 (.t 37), none, false⟩, ⟨some 39, .bin .geq (.t 38) (.c (.int .i64 0)), none, false⟩, ⟨some 40, .mov (.t 39), none, false⟩, ⟨some 41, .faddr 6 (.t 7), some (40, true), false⟩, ⟨some 42, .load false 1 (.t 41), some (40, true), false⟩, ⟨some 43, .mov (.t 6), some (40, true), false⟩, ⟨some 44, .bin .lss (.t 42) (.t 43), some (40, true), false⟩, ⟨some 45, .pick (.t 40) (.t 44) (.c (.bool false)), none, false⟩, ⟨some 9, .mov (.t 45), none, false⟩] [0, 1, 5, 6, 7, 8, 9]) (.seq (.reg [⟨some 46, .faddr 7 (.t 7), none, false⟩, ⟨some 47, .load false 1 (.t 46), none, false⟩, ⟨some 48, .bin .geq (.t 47) (.c (.int .i64 0)), none, false⟩, ⟨some 49, .mov (.t 48), none, false⟩, ⟨some 50, .faddr 7 (.t 7), some (49, true), false⟩, ⟨some 51, .load false 1 (.t 50), some (49, true), false⟩, ⟨some 52, .mov (.t 6), some (49, true), false⟩, ⟨some 53, .bin .lss (.t 51) (.t 52), some (49, true), false⟩, ⟨some 54, .pick (.t 49) (.t 53) (.c (.bool false)), none, false⟩, ⟨some 10, .mov (.t 54), none, false⟩] [0, 1, 5, 6, 7, 8, 9, 10]) (.seq (.reg [⟨some 55, .faddr 0 (.t 7), none, false⟩, ⟨some 56, .load false 1 (.t 55), none, false⟩] [0, 1, 5, 6, 7, 8, 9, 10, 56]) (.block 2 (.seq (.reg [⟨some 71, .bin .eql (.t 56) (.c (.int .i64 0)), none, false⟩, ⟨some 70, .mov (.t 71), none, false⟩] [0, 1, 5, 6, 7, 8, 9, 10, 56, 70]) (.cond (.t 70) (.reg [⟨some 72, .mov (.t 5), none, false⟩, ⟨some 73, .mov (.t 6), none, false⟩, ⟨some 74, .iaddr 1 (.t 72) (.t 73), none, false⟩, ⟨none, .store 1 (.t 74) (.c (.bool true)), none, false⟩] [0, 1, 5, 6]) (.seq (.reg [⟨some 76, .bin .eql (.t 56) (.c (.int .i64 7)), none, false⟩, ⟨some 75, .mov (.t 76), none, false⟩] [0, 1, 5, 6, 7, 8, 9, 10, 56, 75]) (.cond (.t 75) (.reg [⟨some 77, .mov (.t 5), none, false⟩, ⟨some 78, .mov (.t 6), none, false⟩, ⟨some 79, .mov (.t 8), none, false⟩, ⟨some 80, .mov (.t 79), none, false⟩, ⟨some 81, .mov (.t 1), some (80, true), false⟩, ⟨some 82, .faddr 1 (.t 7), some (80, true), false⟩, ⟨some 83, .load false 1 (.t 82), some (80, true), false⟩, ⟨some 84, .iaddr 4 (.t 81) (.t 83), some (80, true), false⟩, ⟨some 85, .faddr 0 (.t 84), some (80, true), false⟩, ⟨some 86, .load false 1 (.t 85), some (80, true), false⟩, ⟨some 87, .bin .eql (.t 86) (.c (.int .i64 0)), some (80, true), false⟩, ⟨some 88, .pick (.t 80) (.t 87) (.c (.bool false)), none, false⟩, ⟨some 89, .iaddr 1 (.t 77) (.t 78), none, false⟩, ⟨none, .store 1 (.t 89) (.t 88), none, false⟩] [0, 1, 5, 6]) (.seq (.reg [⟨some 91, .bin .eql (.t 56) (.c (.int .i64 8)), none, false⟩, ⟨some 90, .mov (.t 91), none, false⟩] [0, 1, 5, 6, 7, 8, 9, 10, 56, 90]) (.cond (.t 90) (.reg [⟨some 92, .mov (.t 5), none, false⟩, ⟨some 93, .mov (.t 6), none, false⟩, ⟨some 94, .mov (.t 9), none, false⟩, ⟨some 95, .mov (.t 94), none, false⟩, ⟨some 96, .mov (.t 10), some (95, true), false⟩, ⟨some 97, .pick (.t 95) (.t 96) (.c (.bool false)), none, false⟩, ⟨some 98, .mov (.t 97), none, false⟩, ⟨some 99, .mov (.t 5), some (98, true), false⟩, ⟨some 100, .faddr 6 (.t 7), some (98, true), false⟩, ⟨some 101, .load false 1 (.t 100), some (98, true), false⟩, ⟨some 102, .iaddr 1 (.t 99) (.t 101), some (98, true), false⟩, ⟨some 103, .load false 1 (.t 102), some (98, true), false⟩, ⟨some 104, .pick (.t 98) (.t 103) (.c (.bool false)), none, false⟩, ⟨some 105, .mov (.t 104), none, false⟩, ⟨some 106, .mov (.t 5), some (105, true), false⟩, ⟨some 107, .faddr 7 (.t 7), some (105, true), false⟩, ⟨some 108, .load false 1 (.t 107), some (105, true), false⟩, ⟨some 109, .iaddr 1 (.t 106) (.t 108), some (105, true), false⟩, ⟨some 110, .load false 1 (.t 109), some (105, true), false⟩, ⟨some 111, .pick (.t 105) (.t 110) (.c (.bool false)), none, false⟩, ⟨some 112, .iaddr 1 (.t 92) (.t 93), none, false⟩, ⟨none, .store 1 (.t 112) (.t 111), none, false⟩] [0, 1, 5, 6]) (.seq (.reg [⟨some 114, .bin .eql (.t 56) (.c (.int .i64 9)), none, false⟩, ⟨some 113, .mov (.t 114), none, false⟩] [0, 1, 5, 6, 7, 8, 9, 10, 56, 113]) (.cond (.t 113) (.reg [⟨some 115, .mov (.t 5), none, false⟩, ⟨some 116, .mov (.t 6), none, false⟩, ⟨some 117, .mov (.t 9), none, false⟩, ⟨some 118, .mov (.t 117), none, false⟩, ⟨some 119, .mov (.t 10), some (118, true), false⟩, ⟨some 120, .pick (.t 118) (.t 119) (.c (.bool false)), none, false⟩, ⟨some 121, .mov (.t 120), none, false⟩, ⟨some 122, .mov (.t 5), some (121, true), false⟩, ⟨some 123, .faddr 6 (.t 7), some (121, true), false⟩, ⟨some 124, .load false 1 (.t 123), some (121, true), false⟩, ⟨some 125, .iaddr 1 (.t 122) (.t 124), some (121, true), false⟩, ⟨some 126, .load false 1 (.t 125), some (121, true), false⟩, ⟨some 127, .mov (.t 126), some (121, true), false⟩, ⟨some 128, .mov (.t 5), some (127, false), false⟩, ⟨some 129, .faddr 7 (.t 7), some (127, false), false⟩, ⟨some 130, .load false 1 (.t 129), some (127, false), false⟩, ⟨some 131, .iaddr 1 (.t 128) (.t 130), some (127, false), false⟩, ⟨some 132, .load false 1 (.t 131), some (127, false), false⟩, ⟨some 133, .pick (.t 127) (.c (.bool true)) (.t 132), some (121, true), false⟩, ⟨some 134, .pick (.t 121) (.t 133) (.c (.bool false)), none, false⟩, ⟨some 135, .iaddr 1 (.t 115) (.t 116), none, false⟩, ⟨none, .store 1 (.t 135) (.t 134), none, false⟩] [0, 1, 5, 6]) (.seq (.reg [⟨some 137, .bin .eql (.t 56) (.c (.int .i64 10)), none, false⟩, ⟨some 136, .mov (.t 137), none, false⟩] [0, 1, 5, 6, 7, 8, 9, 136]) (.cond (.t 136) (.reg [⟨some 138, .mov (.t 5), none, false⟩, ⟨some 139, .mov (.t 6), none, false⟩, ⟨some 140, .mov (.t 9), none, false⟩, ⟨some 141, .mov (.t 140), none, false⟩, ⟨some 142, .mov (.t 5), some (141, true), false⟩, ⟨some 143, .faddr 6 (.t 7), some (141, true), false⟩, ⟨some 144, .load false 1 (.t 143), some (141, true), false⟩, ⟨some 145, .iaddr 1 (.t 142) (.t 144), some (141, true), false⟩, ⟨some 146, .load false 1 (.t 145), some (141, true), false⟩, ⟨some 147, .un .not (.t 146), some (141, true), false⟩, ⟨some 148, .pick (.t 141) (.t 147) (.c (.bool false)), none, false⟩, ⟨some 149, .iaddr 1 (.t 138) (.t 139), none, false⟩, ⟨none, .store 1 (.t 149) (.t 148), none, false⟩] [0, 1, 5, 6]) (.reg [⟨some 57, .mov (.t 5), none, false⟩, ⟨some 58, .mov (.t 6), none, false⟩, ⟨some 59, .mov (.t 8), none, false⟩, ⟨some 60, .mov (.t 59), none, false⟩, ⟨some 61, .load true 8 (.t 7), some (60, true), false⟩, ⟨some 62, .mov (.t 1), some (60, true), false⟩, ⟨some 63, .faddr 1 (.t 7), some (60, true), false⟩, ⟨some 64, .load false 1 (.t 63), some (60, true), false⟩, ⟨some 65, .iaddr 4 (.t 62) (.t 64), some (60, true), false⟩, ⟨some 66, .load true 4 (.t 65), some (60, true), false⟩, ⟨some 67, .call (.c (.func 32 [] [])) [.t 61, .t 66], some (60, true), false⟩, ⟨some 68, .pick (.t 60) (.t 67) (.c (.bool false)), none, false⟩, ⟨some 69, .iaddr 1 (.t 57) (.t 58), none, false⟩, ⟨none, .store 1 (.t 69) (.t 68), none, false⟩] [0, 1, 5, 6])))))))))))))))))) (.reg [⟨some 21, .mov (.t 6), none, false⟩, ⟨some 22, .bin .add (.t 21) (.c (.int .i64 1)), none, false⟩, ⟨some 6, .mov (.t 22), none, false⟩] [0, 1, 5, 6]))
def x13 : XF := ⟨2, b13, [.t 4]⟩
def h13 : Hints := fun id => match id with
  | 0 => [0, 1]
  | 1 => [0, 1, 13]
  | 2 => [4]
  | 3 => [0, 1, 5]
  | 4 => [0, 1, 5, 6]
  | 5 => [0, 1, 5, 6, 20]
  | 6 => [0, 1, 5, 6]
  | 7 => [0, 1, 5, 6, 7]
  | 8 => [0, 1, 5, 6, 7, 8]
  | 9 => [0, 1, 5, 6, 7, 8, 9]
  | 10 => [0, 1, 5, 6, 7, 8, 9, 10]
  | 11 => [0, 1, 5, 6, 7, 8, 9, 10, 56]
  | 12 => [0, 1, 5, 6]
  | 13 => [0, 1, 5, 6, 7, 8, 9, 10, 56, 70]
  | 14 => [0, 1, 5, 6]
  | 15 => [0, 1, 5, 6, 7, 8, 9, 10, 56, 75]
  | 16 => [0, 1, 5, 6]
  | 17 => [0, 1, 5, 6, 7, 8, 9, 10, 56, 90]
  | 18 => [0, 1, 5, 6]
  | 19 => [0, 1, 5, 6, 7, 8, 9, 10, 56, 113]
  | 20 => [0, 1, 5, 6]
  | 21 => [0, 1, 5, 6, 7, 8, 9, 136]
  | 22 => [0, 1, 5, 6]
  | 23 => [4]
  | _ => []
theorem cv13 : cvF Tryd.prog h13 Tryd.f13 = some x13 := by kernel_rfl

/-- winnower/winnowerref01.Ints -/
def b14 : XC := .seq (.reg [⟨some 4, .mov (.c (.bool false)), none, false⟩] [0, 1]) (.seq (.seq (.reg [⟨some 6, .mov (.t 0), none, false⟩, ⟨some 7, .len 1 (.t 6), none, false⟩, ⟨some 8, .mov (.t 1), none, false⟩, ⟨some 9, .len 1 (.t 8), none, false⟩, ⟨some 10, .bin .neq (.t 7) (.t 9), none, false⟩] [0, 1, 10]) (.cond (.t 10) (.seq (.reg [⟨some 4, .mov (.c (.bool false)), none, false⟩] [4]) .ret) .skip)) (.seq (.seq (.reg [⟨some 5, .mov (.c (.int .i64 0)), none, false⟩] [0, 1, 5]) (.block 0 (.loop (.seq (.seq (.reg [⟨some 11, .mov (.t 5), none, false⟩, ⟨some 12, .mov (.t 0), none, false⟩, ⟨some 13, .len 1 (.t 12), none, false⟩, ⟨some 14, .bin .lss (.t 11) (.t 13), none, false⟩] [0, 1, 5, 14]) (.cond (.t 14) .skip (.exit 0))) (.seq (.block 1 (.seq (.reg [⟨some 17, .mov (.t 0), none, false⟩, ⟨some 18, .mov (.t 5), none, false⟩, ⟨some 19, .iaddr 1 (.t 17) (.t 18), none, false⟩, ⟨some 20, .load false 1 (.t 19), none, false⟩, ⟨some 21, .mov (.t 1), none, false⟩, ⟨some 22, .mov (.t 5), none, false⟩, ⟨some 23, .iaddr 1 (.t 21) (.t 22), none, false⟩, ⟨some 24, .load false 1 (.t 23), none, false⟩, ⟨some 25, .bin .neq (.t 20) (.t 24), none, false⟩] [0, 1, 5, 25]) (.cond (.t 25) (.seq (.reg [⟨some 4, .mov (.c (.bool false)), none, false⟩] [4]) .ret) .skip))) (.reg [⟨some 15, .mov (.t 5), none, false⟩, ⟨some 16, .bin .add (.t 15) (.c (.int .i64 1)), none, false⟩, ⟨some 5, .mov (.t 16), none, false⟩] [0, 1, 5])))))) (.seq (.reg [⟨some 4, .mov (.c (.bool true)), none, false⟩] [4]) .ret)))
def lp14_0 : XC := .seq (.seq (.reg [⟨some 11, .mov (.t 5), none, false⟩, ⟨some 12, .mov (.t 0), none, false⟩, ⟨some 13, .len 1 (.t 12), none, false⟩, ⟨some 14, .bin .lss (.t 11) (.t 13), none, false⟩] [0, 1, 5, 14]) (.cond (.t 14) .skip (.exit 0))) (.seq (.block 1 (.seq (.reg [⟨some 17, .mov (.t 0), none, false⟩, ⟨some 18, .mov (.t 5), none, false⟩, ⟨some 19, .iaddr 1 (.t 17) (.t 18), none, false⟩, ⟨some 20, .load false 1 (.t 19), none, false⟩, ⟨some 21, .mov (.t 1), none, false⟩, ⟨some 22, .mov (.t 5), none, false⟩, ⟨some 23, .iaddr 1 (.t 21) (.t 22), none, false⟩, ⟨some 24, .load false 1 (.t 23), none, false⟩, ⟨some 25, .bin .neq (.t 20) (.t 24), none, false⟩] [0, 1, 5, 25]) (.cond (.t 25) (.seq (.reg [⟨some 4, .mov (.c (.bool false)), none, false⟩] [4]) .ret) .skip))) (.reg [⟨some 15, .mov (.t 5), none, false⟩, ⟨some 16, .bin .add (.t 15) (.c (.int .i64 1)), none, false⟩, ⟨some 5, .mov (.t 16), none, false⟩] [0, 1, 5]))
def x14 : XF := ⟨2, b14, [.t 4]⟩
def h14 : Hints := fun id => match id with
  | 0 => [0, 1]
  | 1 => [0, 1, 10]
  | 2 => [4]
  | 3 => [0, 1, 5]
  | 4 => [0, 1, 5, 14]
  | 5 => [0, 1, 5]
  | 6 => [0, 1, 5, 25]
  | 7 => [4]
  | 8 => [4]
  | _ => []
theorem cv14 : cvF Tryd.prog h14 Tryd.f14 = some x14 := by kernel_rfl

/-- winnower/filter.Rows -/
def b16 : XC := .seq (.reg [⟨some 4, .alloc 34 [.nils], none, false⟩] [0, 1, 4]) (.seq (.reg [⟨some 5, .mov (.t 0), none, false⟩, ⟨some 6, .mov (.t 1), none, false⟩, ⟨some 7, .len 1 (.t 6), none, false⟩, ⟨some 8, .mov (.t 1), none, false⟩, ⟨some 9, .mkfn 35 [.t 8] [], none, false⟩, ⟨some 10, .call (.c (.func 34 [] [])) [.t 5, .t 7, .t 9], none, false⟩, ⟨none, .store 1 (.t 4) (.t 10), none, false⟩] [4]) .ret)
def x16 : XF := ⟨2, b16, [.cell 4 true 1]⟩
def h16 : Hints := fun id => match id with
  | 0 => [0, 1, 4]
  | 1 => [4]
  | _ => []
theorem cv16 : cvF Tryd.prog h16 Tryd.f16 = some x16 := by kernel_rfl

/-- winnower/winnowerref17.Rows -/
def b17 : XC := .seq (.reg [⟨some 4, .mov (.c .nils), none, false⟩] [0, 1]) (.seq (.reg [⟨some 5, .mov (.c .nils), none, false⟩] [0, 1, 5]) (.seq (.seq (.reg [⟨some 6, .mov (.c (.int .i64 0)), none, false⟩] [0, 1, 5, 6]) (.block 0 (.loop (.seq (.seq (.reg [⟨some 7, .mov (.t 6), none, false⟩, ⟨some 8, .mov (.t 1), none, false⟩, ⟨some 9, .len 1 (.t 8), none, false⟩, ⟨some 10, .bin .lss (.t 7) (.t 9), none, false⟩] [0, 1, 5, 6, 10]) (.cond (.t 10) .skip (.exit 0))) (.seq (.block 1 (.seq (.reg [⟨some 13, .mov (.t 0), none, false⟩, ⟨some 14, .mov (.t 1), none, false⟩, ⟨some 15, .mov (.t 6), none, false⟩, ⟨some 16, .iaddr 1 (.t 14) (.t 15), none, false⟩, ⟨some 17, .load false 1 (.t 16), none, false⟩, ⟨some 18, .call (.c (.func 13 [] [])) [.t 13, .t 17], none, false⟩] [0, 1, 5, 6, 18]) (.cond (.t 18) (.reg [⟨some 19, .mov (.t 5), none, false⟩, ⟨some 20, .mov (.t 6), none, false⟩, ⟨some 21, .mkslice true 3 1 [.t 20], none, false⟩, ⟨some 22, .app 3 1 8 (.t 19) (.t 21), none, false⟩, ⟨some 5, .mov (.t 22), none, false⟩] [0, 1, 5, 6]) .skip))) (.reg [⟨some 11, .mov (.t 6), none, false⟩, ⟨some 12, .bin .add (.t 11) (.c (.int .i64 1)), none, false⟩, ⟨some 6, .mov (.t 12), none, false⟩] [0, 1, 5, 6])))))) (.seq (.reg [⟨some 23, .mov (.t 5), none, false⟩, ⟨some 4, .mov (.t 23), none, false⟩] [4]) .ret)))
def lp17_0 : XC := .seq (.seq (.reg [⟨some 7, .mov (.t 6), none, false⟩, ⟨some 8, .mov (.t 1), none, false⟩, ⟨some 9, .len 1 (.t 8), none, false⟩, ⟨some 10, .bin .lss (.t 7) (.t 9), none, false⟩] [0, 1, 5, 6, 10]) (.cond (.t 10) .skip (.exit 0))) (.seq (.block 1 (.seq (.reg [⟨some 13, .mov (.t 0), none, false⟩, ⟨some 14, .mov (.t 1), none, false⟩, ⟨some 15, .mov (.t 6), none, false⟩, ⟨some 16, .iaddr 1 (.t 14) (.t 15), none, false⟩, ⟨some 17, .load false 1 (.t 16), none, false⟩, ⟨some 18, .call (.c (.func 13 [] [])) [.t 13, .t 17], none, false⟩] [0, 1, 5, 6, 18]) (.cond (.t 18) (.reg [⟨some 19, .mov (.t 5), none, false⟩, ⟨some 20, .mov (.t 6), none, false⟩, ⟨some 21, .mkslice true 3 1 [.t 20], none, false⟩, ⟨some 22, .app 3 1 8 (.t 19) (.t 21), none, false⟩, ⟨some 5, .mov (.t 22), none, false⟩] [0, 1, 5, 6]) .skip))) (.reg [⟨some 11, .mov (.t 6), none, false⟩, ⟨some 12, .bin .add (.t 11) (.c (.int .i64 1)), none, false⟩, ⟨some 6, .mov (.t 12), none, false⟩] [0, 1, 5, 6]))
def x17 : XF := ⟨2, b17, [.t 4]⟩
def h17 : Hints := fun id => match id with
  | 0 => [0, 1]
  | 1 => [0, 1, 5]
  | 2 => [0, 1, 5, 6]
  | 3 => [0, 1, 5, 6, 10]
  | 4 => [0, 1, 5, 6]
  | 5 => [0, 1, 5, 6, 18]
  | 6 => [0, 1, 5, 6]
  | 7 => [4]
  | _ => []
theorem cv17 : cvF Tryd.prog h17 Tryd.f17 = some x17 := by kernel_rfl

/-- winnower/bitset.Same -/
def b18 : XC := .seq (.reg [⟨some 2, .box 34 (.t 0), none, false⟩, ⟨some 3, .box 34 (.t 1), none, false⟩, ⟨some 4, .mov (.c (.bool false)), none, false⟩] [2, 3]) (.seq (.seq (.reg [⟨some 6, .faddr 0 (.t 2), none, false⟩, ⟨some 7, .load false 1 (.t 6), none, false⟩, ⟨some 8, .len 1 (.t 7), none, false⟩, ⟨some 9, .faddr 0 (.t 3), none, false⟩, ⟨some 10, .load false 1 (.t 9), none, false⟩, ⟨some 11, .len 1 (.t 10), none, false⟩, ⟨some 12, .mmx true [.t 8, .t 11], none, false⟩, ⟨some 13, .mov (.c (.int .i64 0)), none, false⟩] [2, 3, 12, 13]) (.block 0 (.loop (.seq (.reg [⟨some 14, .bin .lss (.t 13) (.t 12), none, false⟩] [2, 3, 12, 13, 14]) (.seq (.cond (.t 14) .skip (.exit 0)) (.seq (.block 1 (.seq (.reg [⟨some 15, .mov (.t 13), none, false⟩, ⟨some 5, .mov (.t 15), none, false⟩] [2, 3, 5, 12, 13]) (.seq (.reg [⟨some 16, .load true 1 (.t 2), none, false⟩, ⟨some 17, .mov (.t 5), none, false⟩, ⟨some 18, .call (.c (.func 36 [] [])) [.t 16, .t 17], none, true⟩, ⟨some 19, .load true 1 (.t 3), none, false⟩, ⟨some 20, .mov (.t 5), none, false⟩, ⟨some 21, .call (.c (.func 36 [] [])) [.t 19, .t 20], none, false⟩, ⟨some 22, .bin .neq (.t 18) (.t 21), none, false⟩] [2, 3, 12, 13, 22]) (.cond (.t 22) (.seq (.reg [⟨some 4, .mov (.c (.bool false)), none, false⟩] [4]) .ret) .skip)))) (.reg [⟨some 23, .bin .add (.t 13) (.c (.int .i64 1)), none, false⟩, ⟨some 13, .mov (.t 23), none, false⟩] [2, 3, 12, 13]))))))) (.seq (.reg [⟨some 4, .mov (.c (.bool true)), none, false⟩] [4]) .ret))
def lp18_0 : XC := .seq (.reg [⟨some 14, .bin .lss (.t 13) (.t 12), none, false⟩] [2, 3, 12, 13, 14]) (.seq (.cond (.t 14) .skip (.exit 0)) (.seq (.block 1 (.seq (.reg [⟨some 15, .mov (.t 13), none, false⟩, ⟨some 5, .mov (.t 15), none, false⟩] [2, 3, 5, 12, 13]) (.seq (.reg [⟨some 16, .load true 1 (.t 2), none, false⟩, ⟨some 17, .mov (.t 5), none, false⟩, ⟨some 18, .call (.c (.func 36 [] [])) [.t 16, .t 17], none, true⟩, ⟨some 19, .load true 1 (.t 3), none, false⟩, ⟨some 20, .mov (.t 5), none, false⟩, ⟨some 21, .call (.c (.func 36 [] [])) [.t 19, .t 20], none, false⟩, ⟨some 22, .bin .neq (.t 18) (.t 21), none, false⟩] [2, 3, 12, 13, 22]) (.cond (.t 22) (.seq (.reg [⟨some 4, .mov (.c (.bool false)), none, false⟩] [4]) .ret) .skip)))) (.reg [⟨some 23, .bin .add (.t 13) (.c (.int .i64 1)), none, false⟩, ⟨some 13, .mov (.t 23), none, false⟩] [2, 3, 12, 13])))
def x18 : XF := ⟨2, b18, [.t 4]⟩
def h18 : Hints := fun id => match id with
  | 0 => [2, 3]
  | 1 => [2, 3, 12, 13]
  | 2 => [2, 3, 12, 13, 14]
  | 3 => [2, 3, 5, 12, 13]
  | 4 => [2, 3, 12, 13, 22]
  | 5 => [4]
  | 6 => [2, 3, 12, 13]
  | 7 => [4]
  | _ => []
theorem cv18 : cvF Tryd.prog h18 Tryd.f18 = some x18 := by kernel_rfl

/-- (winnower/bitset.Set).And -/
def b19 : XC := .seq (.reg [⟨some 2, .box 34 (.t 0), none, false⟩, ⟨some 3, .box 34 (.t 1), none, false⟩, ⟨some 4, .alloc 34 [.nils], none, false⟩] [2, 3, 4]) (.seq (.reg [⟨some 5, .faddr 0 (.t 2), none, false⟩, ⟨some 6, .load false 1 (.t 5), none, false⟩, ⟨some 7, .len 1 (.t 6), none, false⟩, ⟨some 8, .faddr 0 (.t 3), none, false⟩, ⟨some 9, .load false 1 (.t 8), none, false⟩, ⟨some 10, .len 1 (.t 9), none, false⟩, ⟨some 11, .mmx false [.t 7, .t 10], none, false⟩, ⟨some 12, .mkfn 38 [] [.t 2, .t 3], none, false⟩, ⟨some 13, .call (.c (.func 37 [] [])) [.t 11, .t 12], none, false⟩, ⟨none, .store 1 (.t 4) (.t 13), none, false⟩] [4]) .ret)
def x19 : XF := ⟨2, b19, [.cell 4 true 1]⟩
def h19 : Hints := fun id => match id with
  | 0 => [2, 3, 4]
  | 1 => [4]
  | _ => []
theorem cv19 : cvF Tryd.prog h19 Tryd.f19 = some x19 := by kernel_rfl

/-- (winnower/bitset.Set).Or -/
def b20 : XC := .seq (.reg [⟨some 2, .box 34 (.t 0), none, false⟩, ⟨some 3, .box 34 (.t 1), none, false⟩, ⟨some 4, .alloc 34 [.nils], none, false⟩] [2, 3, 4]) (.seq (.reg [⟨some 5, .faddr 0 (.t 2), none, false⟩, ⟨some 6, .load false 1 (.t 5), none, false⟩, ⟨some 7, .len 1 (.t 6), none, false⟩, ⟨some 8, .faddr 0 (.t 3), none, false⟩, ⟨some 9, .load false 1 (.t 8), none, false⟩, ⟨some 10, .len 1 (.t 9), none, false⟩, ⟨some 11, .mmx true [.t 7, .t 10], none, false⟩, ⟨some 12, .mkfn 39 [] [.t 2, .t 3], none, false⟩, ⟨some 13, .call (.c (.func 37 [] [])) [.t 11, .t 12], none, false⟩, ⟨none, .store 1 (.t 4) (.t 13), none, false⟩] [4]) .ret)
def x20 : XF := ⟨2, b20, [.cell 4 true 1]⟩
def h20 : Hints := fun id => match id with
  | 0 => [2, 3, 4]
  | 1 => [4]
  | _ => []
theorem cv20 : cvF Tryd.prog h20 Tryd.f20 = some x20 := by kernel_rfl

/-- (winnower/bitset.Set).Not -/
def b21 : XC := .seq (.reg [⟨some 2, .box 34 (.t 0), none, false⟩, ⟨some 4, .alloc 34 [.nils], none, false⟩] [1, 2, 4]) (.seq (.reg [⟨some 6, .mov (.t 1), none, false⟩, ⟨some 7, .call (.c (.func 40 [] [])) [.t 6], none, false⟩, ⟨some 5, .alloc 34 [.nils], none, false⟩, ⟨none, .store 1 (.t 5) (.t 7), none, false⟩] [2, 4, 5]) (.seq (.reg [⟨some 8, .faddr 0 (.t 5), none, false⟩, ⟨some 9, .load false 1 (.t 8), none, false⟩, ⟨some 10, .len 1 (.t 9), none, false⟩, ⟨some 11, .mkfn 41 [] [.t 5, .t 2], none, false⟩, ⟨some 12, .call (.c (.func 37 [] [])) [.t 10, .t 11], none, false⟩, ⟨none, .store 1 (.t 4) (.t 12), none, false⟩] [4]) .ret))
def x21 : XF := ⟨2, b21, [.cell 4 true 1]⟩
def h21 : Hints := fun id => match id with
  | 0 => [1, 2, 4]
  | 1 => [2, 4, 5]
  | 2 => [4]
  | _ => []
theorem cv21 : cvF Tryd.prog h21 Tryd.f21 = some x21 := by kernel_rfl

/-- winnower/bitset.Of -/
def b22 : XC := .seq (.reg [⟨some 2, .alloc 34 [.nils], none, false⟩] [0, 2]) (.seq (.reg [⟨some 3, .mov (.c .nils), none, false⟩] [0, 2, 3]) (.seq (.seq (.reg [⟨some 6, .mov (.t 0), none, false⟩, ⟨some 7, .len 1 (.t 6), none, false⟩, ⟨some 8, .mov (.c (.int .i64 0)), none, false⟩] [2, 3, 6, 7, 8]) (.block 0 (.loop (.seq (.reg [⟨some 9, .bin .lss (.t 8) (.t 7), none, false⟩] [2, 3, 6, 7, 8, 9]) (.seq (.cond (.t 9) .skip (.exit 0)) (.seq (.block 1 (.seq (.reg [⟨some 10, .iaddr 1 (.t 6) (.t 8), none, false⟩, ⟨some 11, .load false 1 (.t 10), none, false⟩, ⟨some 5, .mov (.t 11), none, false⟩] [2, 3, 5, 6, 7, 8]) (.seq (.reg [⟨some 12, .mov (.t 5), none, false⟩, ⟨some 13, .call (.c (.func 42 [] [])) [.t 12], none, false⟩] [2, 3, 5, 6, 7, 8, 13]) (.cond (.t 13) (.reg [⟨some 14, .mov (.t 3), none, false⟩, ⟨some 15, .mov (.t 5), none, false⟩, ⟨some 16, .call (.c (.func 43 [] [])) [.t 14, .t 15], none, false⟩, ⟨some 3, .mov (.t 16), none, false⟩] [2, 3, 6, 7, 8]) .skip)))) (.reg [⟨some 17, .bin .add (.t 8) (.c (.int .i64 1)), none, false⟩, ⟨some 8, .mov (.t 17), none, false⟩] [2, 3, 6, 7, 8]))))))) (.seq (.reg [⟨some 18, .mov (.t 3), none, false⟩, ⟨some 19, .build [.nils] [(0, (1, .t 18))], none, false⟩, ⟨none, .store 1 (.t 2) (.t 19), none, false⟩] [2]) .ret)))
def lp22_0 : XC := .seq (.reg [⟨some 9, .bin .lss (.t 8) (.t 7), none, false⟩] [2, 3, 6, 7, 8, 9]) (.seq (.cond (.t 9) .skip (.exit 0)) (.seq (.block 1 (.seq (.reg [⟨some 10, .iaddr 1 (.t 6) (.t 8), none, false⟩, ⟨some 11, .load false 1 (.t 10), none, false⟩, ⟨some 5, .mov (.t 11), none, false⟩] [2, 3, 5, 6, 7, 8]) (.seq (.reg [⟨some 12, .mov (.t 5), none, false⟩, ⟨some 13, .call (.c (.func 42 [] [])) [.t 12], none, false⟩] [2, 3, 5, 6, 7, 8, 13]) (.cond (.t 13) (.reg [⟨some 14, .mov (.t 3), none, false⟩, ⟨some 15, .mov (.t 5), none, false⟩, ⟨some 16, .call (.c (.func 43 [] [])) [.t 14, .t 15], none, false⟩, ⟨some 3, .mov (.t 16), none, false⟩] [2, 3, 6, 7, 8]) .skip)))) (.reg [⟨some 17, .bin .add (.t 8) (.c (.int .i64 1)), none, false⟩, ⟨some 8, .mov (.t 17), none, false⟩] [2, 3, 6, 7, 8])))
def x22 : XF := ⟨1, b22, [.cell 2 true 1]⟩
def h22 : Hints := fun id => match id with
  | 0 => [0, 2]
  | 1 => [0, 2, 3]
  | 2 => [2, 3, 6, 7, 8]
  | 3 => [2, 3, 6, 7, 8, 9]
  | 4 => [2, 3, 5, 6, 7, 8]
  | 5 => [2, 3, 5, 6, 7, 8, 13]
  | 6 => [2, 3, 6, 7, 8]
  | 7 => [2, 3, 6, 7, 8]
  | 8 => [2]
  | _ => []
theorem cv22 : cvF Tryd.prog h22 Tryd.f22 = some x22 := by kernel_rfl

/-- (winnower/bitset.Set).Count -/
def b23 : XC := .seq (.reg [⟨some 1, .box 34 (.t 0), none, false⟩, ⟨some 2, .mov (.c (.int .i64 0)), none, false⟩] [1]) (.seq (.reg [⟨some 3, .mov (.c (.int .i64 0)), none, false⟩] [1, 3]) (.seq (.seq (.reg [⟨some 6, .faddr 0 (.t 1), none, false⟩, ⟨some 7, .load false 1 (.t 6), none, false⟩, ⟨some 8, .len 1 (.t 7), none, false⟩, ⟨some 9, .mov (.c (.int .i64 0)), none, false⟩] [3, 7, 8, 9]) (.block 0 (.loop (.seq (.reg [⟨some 10, .bin .lss (.t 9) (.t 8), none, false⟩] [3, 7, 8, 9, 10]) (.seq (.cond (.t 10) .skip (.exit 0)) (.seq (.block 1 (.seq (.reg [⟨some 11, .iaddr 1 (.t 7) (.t 9), none, false⟩, ⟨some 12, .load false 1 (.t 11), none, false⟩, ⟨some 5, .mov (.t 12), none, false⟩] [3, 5, 7, 8, 9]) (.reg [⟨some 13, .mov (.t 3), none, false⟩, ⟨some 14, .mov (.t 5), none, false⟩, ⟨some 15, .call (.c (.func 44 [] [])) [.t 14], none, false⟩, ⟨some 16, .bin .add (.t 13) (.t 15), none, false⟩, ⟨some 3, .mov (.t 16), none, false⟩] [3, 7, 8, 9]))) (.reg [⟨some 17, .bin .add (.t 9) (.c (.int .i64 1)), none, false⟩, ⟨some 9, .mov (.t 17), none, false⟩] [3, 7, 8, 9]))))))) (.seq (.reg [⟨some 18, .mov (.t 3), none, false⟩, ⟨some 2, .mov (.t 18), none, false⟩] [2]) .ret)))
def lp23_0 : XC := .seq (.reg [⟨some 10, .bin .lss (.t 9) (.t 8), none, false⟩] [3, 7, 8, 9, 10]) (.seq (.cond (.t 10) .skip (.exit 0)) (.seq (.block 1 (.seq (.reg [⟨some 11, .iaddr 1 (.t 7) (.t 9), none, false⟩, ⟨some 12, .load false 1 (.t 11), none, false⟩, ⟨some 5, .mov (.t 12), none, false⟩] [3, 5, 7, 8, 9]) (.reg [⟨some 13, .mov (.t 3), none, false⟩, ⟨some 14, .mov (.t 5), none, false⟩, ⟨some 15, .call (.c (.func 44 [] [])) [.t 14], none, false⟩, ⟨some 16, .bin .add (.t 13) (.t 15), none, false⟩, ⟨some 3, .mov (.t 16), none, false⟩] [3, 7, 8, 9]))) (.reg [⟨some 17, .bin .add (.t 9) (.c (.int .i64 1)), none, false⟩, ⟨some 9, .mov (.t 17), none, false⟩] [3, 7, 8, 9])))
def x23 : XF := ⟨1, b23, [.t 2]⟩
def h23 : Hints := fun id => match id with
  | 0 => [1]
  | 1 => [1, 3]
  | 2 => [3, 7, 8, 9]
  | 3 => [3, 7, 8, 9, 10]
  | 4 => [3, 5, 7, 8, 9]
  | 5 => [3, 7, 8, 9]
  | 6 => [3, 7, 8, 9]
  | 7 => [2]
  | _ => []
theorem cv23 : cvF Tryd.prog h23 Tryd.f23 = some x23 := by kernel_rfl

/-- (winnower/bitset.Set).Has -/
def b24 : XC := .seq (.reg [⟨some 2, .box 34 (.t 0), none, false⟩, ⟨some 4, .mov (.c (.bool false)), none, false⟩] [1, 2]) (.seq (.reg [⟨some 5, .mov (.t 1), none, false⟩, ⟨some 6, .call (.c (.func 42 [] [])) [.t 5], none, false⟩, ⟨some 7, .mov (.t 6), none, false⟩, ⟨some 8, .load true 1 (.t 2), some (7, true), false⟩, ⟨some 9, .mov (.t 1), some (7, true), false⟩, ⟨some 10, .bin .quo (.t 9) (.c (.int .i64 64)), some (7, true), false⟩, ⟨some 11, .call (.c (.func 36 [] [])) [.t 8, .t 10], some (7, true), false⟩, ⟨some 12, .mov (.t 1), some (7, true), false⟩, ⟨some 13, .bin .rem (.t 12) (.c (.int .i64 64)), some (7, true), false⟩, ⟨some 14, .bin .shr (.t 11) (.t 13), some (7, true), false⟩, ⟨some 15, .bin .and (.t 14) (.c (.int .u64 1)), some (7, true), false⟩, ⟨some 16, .bin .eql (.t 15) (.c (.int .u64 1)), some (7, true), false⟩, ⟨some 17, .pick (.t 7) (.t 16) (.c (.bool false)), none, false⟩, ⟨some 4, .mov (.t 17), none, false⟩] [4]) .ret)
def x24 : XF := ⟨2, b24, [.t 4]⟩
def h24 : Hints := fun id => match id with
  | 0 => [1, 2]
  | 1 => [4]
  | _ => []
theorem cv24 : cvF Tryd.prog h24 Tryd.f24 = some x24 := by kernel_rfl

/-- winnower/winnowerlaw17.n -/
def b30 : XC := .seq (.reg [⟨some 2, .alloc 39 [.int .i64 0, .int .i64 0, .str ⟨#[]⟩, .bool false], none, false⟩] [0, 2]) (.seq (.reg [⟨some 3, .mov (.t 0), none, false⟩, ⟨some 4, .build [.int .i64 0, .int .i64 0, .str ⟨#[]⟩, .bool false] [(0, (1, .c (.int .i64 1))), (1, (1, .t 3))], none, false⟩, ⟨none, .store 4 (.t 2) (.t 4), none, false⟩] [2]) .ret)
def x30 : XF := ⟨1, b30, [.cell 2 true 4]⟩
def h30 : Hints := fun id => match id with
  | 0 => [0, 2]
  | 1 => [2]
  | _ => []
theorem cv30 : cvF Tryd.prog h30 Tryd.f30 = some x30 := by kernel_rfl

/-- winnower/winnowerref07.Light -/
def b31 : XC := .seq (.reg [⟨some 2, .mov (.c (.bool false)), none, false⟩] [0]) (.seq (.seq (.reg [⟨some 4, .mov (.t 0), none, false⟩, ⟨some 5, .len 4 (.t 4), none, false⟩, ⟨some 6, .bin .gtr (.t 5) (.c (.int .i64 12)), none, false⟩] [0, 6]) (.cond (.t 6) (.seq (.reg [⟨some 2, .mov (.c (.bool false)), none, false⟩] [2]) .ret) .skip)) (.seq (.seq (.reg [⟨some 3, .mov (.c (.int .i64 0)), none, false⟩] [0, 3]) (.block 0 (.loop (.seq (.seq (.reg [⟨some 7, .mov (.t 3), none, false⟩, ⟨some 8, .mov (.t 0), none, false⟩, ⟨some 9, .len 4 (.t 8), none, false⟩, ⟨some 10, .bin .lss (.t 7) (.t 9), none, false⟩] [0, 3, 10]) (.cond (.t 10) .skip (.exit 0))) (.seq (.block 1 (.seq (.reg [⟨some 13, .mov (.t 0), none, false⟩, ⟨some 14, .mov (.t 3), none, false⟩, ⟨some 15, .iaddr 4 (.t 13) (.t 14), none, false⟩, ⟨some 16, .faddr 2 (.t 15), none, false⟩, ⟨some 17, .load false 1 (.t 16), none, false⟩, ⟨some 18, .lens (.t 17), none, false⟩, ⟨some 19, .bin .gtr (.t 18) (.c (.int .i64 300)), none, false⟩] [0, 3, 19]) (.cond (.t 19) (.seq (.reg [⟨some 2, .mov (.c (.bool false)), none, false⟩] [2]) .ret) .skip))) (.reg [⟨some 11, .mov (.t 3), none, false⟩, ⟨some 12, .bin .add (.t 11) (.c (.int .i64 1)), none, false⟩, ⟨some 3, .mov (.t 12), none, false⟩] [0, 3])))))) (.seq (.reg [⟨some 2, .mov (.c (.bool true)), none, false⟩] [2]) .ret)))
def lp31_0 : XC := .seq (.seq (.reg [⟨some 7, .mov (.t 3), none, false⟩, ⟨some 8, .mov (.t 0), none, false⟩, ⟨some 9, .len 4 (.t 8), none, false⟩, ⟨some 10, .bin .lss (.t 7) (.t 9), none, false⟩] [0, 3, 10]) (.cond (.t 10) .skip (.exit 0))) (.seq (.block 1 (.seq (.reg [⟨some 13, .mov (.t 0), none, false⟩, ⟨some 14, .mov (.t 3), none, false⟩, ⟨some 15, .iaddr 4 (.t 13) (.t 14), none, false⟩, ⟨some 16, .faddr 2 (.t 15), none, false⟩, ⟨some 17, .load false 1 (.t 16), none, false⟩, ⟨some 18, .lens (.t 17), none, false⟩, ⟨some 19, .bin .gtr (.t 18) (.c (.int .i64 300)), none, false⟩] [0, 3, 19]) (.cond (.t 19) (.seq (.reg [⟨some 2, .mov (.c (.bool false)), none, false⟩] [2]) .ret) .skip))) (.reg [⟨some 11, .mov (.t 3), none, false⟩, ⟨some 12, .bin .add (.t 11) (.c (.int .i64 1)), none, false⟩, ⟨some 3, .mov (.t 12), none, false⟩] [0, 3]))
def x31 : XF := ⟨1, b31, [.t 2]⟩
def h31 : Hints := fun id => match id with
  | 0 => [0]
  | 1 => [0, 6]
  | 2 => [2]
  | 3 => [0, 3]
  | 4 => [0, 3, 10]
  | 5 => [0, 3]
  | 6 => [0, 3, 19]
  | 7 => [2]
  | 8 => [2]
  | _ => []
theorem cv31 : cvF Tryd.prog h31 Tryd.f31 = some x31 := by kernel_rfl

/-- winnower/winnowerref17.compared -/
def b32 : XC := .seq (.reg [⟨some 2, .box 41 (.t 0), none, false⟩, ⟨some 3, .box 39 (.t 1), none, false⟩, ⟨some 4, .mov (.c (.bool false)), none, false⟩] [2, 3]) (.seq (.seq (.reg [⟨some 6, .faddr 0 (.t 3), none, false⟩, ⟨some 7, .load false 1 (.t 6), none, false⟩, ⟨some 8, .bin .eql (.t 7) (.c (.int .i64 0)), none, false⟩] [2, 3, 8]) (.cond (.t 8) (.seq (.reg [⟨some 4, .mov (.c (.bool false)), none, false⟩] [4]) .ret) .skip)) (.seq (.reg [⟨some 9, .load true 4 (.t 3), none, false⟩, ⟨some 10, .faddr 2 (.t 2), none, false⟩, ⟨some 11, .load true 4 (.t 10), none, false⟩, ⟨some 12, .call (.c (.func 57 [] [])) [.t 9, .t 11], none, false⟩, ⟨some 5, .mov (.t 12), none, false⟩] [2, 5]) (.seq (.reg [⟨some 13, .faddr 0 (.t 2), none, false⟩, ⟨some 14, .load false 1 (.t 13), none, false⟩, ⟨some 15, .bin .eql (.t 14) (.c (.int .i64 1)), none, false⟩, ⟨some 16, .mov (.t 15), none, false⟩, ⟨some 17, .mov (.t 5), some (16, true), false⟩, ⟨some 18, .bin .eql (.t 17) (.c (.int .i64 0)), some (16, true), false⟩, ⟨some 19, .pick (.t 16) (.t 18) (.c (.bool false)), none, false⟩, ⟨some 20, .mov (.t 19), none, false⟩, ⟨some 21, .faddr 0 (.t 2), some (20, false), false⟩, ⟨some 22, .load false 1 (.t 21), some (20, false), false⟩, ⟨some 23, .bin .eql (.t 22) (.c (.int .i64 2)), some (20, false), false⟩, ⟨some 24, .mov (.t 23), some (20, false), false⟩, ⟨some 25, .mov (.t 5), some (24, true), false⟩, ⟨some 26, .bin .neq (.t 25) (.c (.int .i64 0)), some (24, true), false⟩, ⟨some 27, .pick (.t 24) (.t 26) (.c (.bool false)), some (20, false), false⟩, ⟨some 28, .pick (.t 20) (.c (.bool true)) (.t 27), none, false⟩, ⟨some 29, .mov (.t 28), none, false⟩, ⟨some 30, .faddr 0 (.t 2), some (29, false), false⟩, ⟨some 31, .load false 1 (.t 30), some (29, false), false⟩, ⟨some 32, .bin .eql (.t 31) (.c (.int .i64 3)), some (29, false), false⟩, ⟨some 33, .mov (.t 32), some (29, false), false⟩, ⟨some 34, .mov (.t 5), some (33, true), false⟩, ⟨some 35, .bin .lss (.t 34) (.c (.int .i64 0)), some (33, true), false⟩, ⟨some 36, .pick (.t 33) (.t 35) (.c (.bool false)), some (29, false), false⟩, ⟨some 37, .pick (.t 29) (.c (.bool true)) (.t 36), none, false⟩, ⟨some 38, .mov (.t 37), none, false⟩, ⟨some 39, .faddr 0 (.t 2), some (38, false), false⟩, ⟨some 40, .load false 1 (.t 39), some (38, false), false⟩, ⟨some 41, .bin .eql (.t 40) (.c (.int .i64 4)), some (38, false), false⟩, ⟨some 42, .mov (.t 41), some (38, false), false⟩, ⟨some 43, .mov (.t 5), some (42, true), false⟩, ⟨some 44, .bin .leq (.t 43) (.c (.int .i64 0)), some (42, true), false⟩, ⟨some 45, .pick (.t 42) (.t 44) (.c (.bool false)), some (38, false), false⟩, ⟨some 46, .pick (.t 38) (.c (.bool true)) (.t 45), none, false⟩, ⟨some 47, .mov (.t 46), none, false⟩, ⟨some 48, .faddr 0 (.t 2), some (47, false), false⟩, ⟨some 49, .load false 1 (.t 48), some (47, false), false⟩, ⟨some 50, .bin .eql (.t 49) (.c (.int .i64 5)), some (47, false), false⟩, ⟨some 51, .mov (.t 50), some (47, false), false⟩, ⟨some 52, .mov (.t 5), some (51, true), false⟩, ⟨some 53, .bin .gtr (.t 52) (.c (.int .i64 0)), some (51, true), false⟩, ⟨some 54, .pick (.t 51) (.t 53) (.c (.bool false)), some (47, false), false⟩, ⟨some 55, .pick (.t 47) (.c (.bool true)) (.t 54), none, false⟩, ⟨some 56, .mov (.t 55), none, false⟩, ⟨some 57, .faddr 0 (.t 2), some (56, false), false⟩, ⟨some 58, .load false 1 (.t 57), some (56, false), false⟩, ⟨some 59, .bin .eql (.t 58) (.c (.int .i64 6)), some (56, false), false⟩, ⟨some 60, .mov (.t 59), some (56, false), false⟩, ⟨some 61, .mov (.t 5), some (60, true), false⟩, ⟨some 62, .bin .geq (.t 61) (.c (.int .i64 0)), some (60, true), false⟩, ⟨some 63, .pick (.t 60) (.t 62) (.c (.bool false)), some (56, false), false⟩, ⟨some 64, .pick (.t 56) (.c (.bool true)) (.t 63), none, false⟩, ⟨some 4, .mov (.t 64), none, false⟩] [4]) .ret)))
def x32 : XF := ⟨2, b32, [.t 4]⟩
def h32 : Hints := fun id => match id with
  | 0 => [2, 3]
  | 1 => [2, 3, 8]
  | 2 => [4]
  | 3 => [2, 5]
  | 4 => [4]
  | _ => []
theorem cv32 : cvF Tryd.prog h32 Tryd.f32 = some x32 := by kernel_rfl

/-- winnower/filter.sets -/
def b34 : XC := .seq (.reg [⟨some 6, .alloc 34 [.nils], none, false⟩] [0, 1, 2, 6]) (.seq (.seq (.reg [⟨some 12, .mov (.t 0), none, false⟩, ⟨some 13, .len 8 (.t 12), none, false⟩, ⟨some 14, .bin .eql (.t 13) (.c (.int .i64 0)), none, false⟩] [0, 1, 2, 6, 14]) (.cond (.t 14) (.seq (.reg [⟨some 15, .mov (.t 1), none, false⟩, ⟨some 16, .call (.c (.func 40 [] [])) [.t 15], none, false⟩, ⟨none, .store 1 (.t 6) (.t 16), none, false⟩] [6]) .ret) .skip)) (.seq (.reg [⟨some 7, .alloc 96 [.nils], none, false⟩] [0, 1, 2, 6, 7]) (.seq (.reg [⟨some 17, .mkfn 60 [] [.t 7], none, false⟩, ⟨some 8, .mov (.t 17), none, false⟩] [0, 1, 2, 6, 7, 8]) (.seq (.seq (.reg [⟨some 18, .mov (.t 0), none, false⟩, ⟨some 19, .len 8 (.t 18), none, false⟩, ⟨some 20, .mov (.c (.int .i64 0)), none, false⟩] [1, 2, 6, 7, 8, 18, 19, 20]) (.block 0 (.loop (.seq (.reg [⟨some 21, .bin .lss (.t 20) (.t 19), none, false⟩] [1, 2, 6, 7, 8, 18, 19, 20, 21]) (.seq (.cond (.t 21) .skip (.exit 0)) (.seq (.block 1 (.seq (.reg [⟨some 22, .iaddr 8 (.t 18) (.t 20), none, false⟩, ⟨some 23, .load true 8 (.t 22), none, false⟩, ⟨some 10, .alloc 41 [.int .i64 0, .int .i64 0, .int .i64 0, .int .i64 0, .str ⟨#[]⟩, .bool false, .int .i64 0, .int .i64 0], none, false⟩, ⟨none, .store 8 (.t 10) (.t 23), none, false⟩] [1, 2, 6, 7, 8, 10, 18, 19, 20]) (.seq (.reg [⟨some 11, .alloc 34 [.nils], none, false⟩] [1, 2, 6, 7, 8, 10, 11, 18, 19, 20]) (.seq (.block 2 (.seq (.reg [⟨some 25, .faddr 0 (.t 10), none, false⟩, ⟨some 26, .load false 1 (.t 25), none, false⟩, ⟨some 27, .bin .eql (.t 26) (.c (.int .i64 0)), none, false⟩, ⟨some 24, .mov (.t 27), none, false⟩] [1, 2, 6, 7, 8, 10, 11, 18, 19, 20, 24]) (.cond (.t 24) (.reg [⟨some 28, .mov (.t 1), none, false⟩, ⟨some 29, .call (.c (.func 40 [] [])) [.t 28], none, false⟩, ⟨none, .store 1 (.t 11) (.t 29), none, false⟩] [1, 2, 6, 7, 8, 11, 18, 19, 20]) (.seq (.reg [⟨some 31, .faddr 0 (.t 10), none, false⟩, ⟨some 32, .load false 1 (.t 31), none, false⟩, ⟨some 33, .bin .geq (.t 32) (.c (.int .i64 1)), none, false⟩, ⟨some 34, .mov (.t 33), none, false⟩, ⟨some 35, .faddr 0 (.t 10), some (34, true), false⟩, ⟨some 36, .load false 1 (.t 35), some (34, true), false⟩, ⟨some 37, .bin .leq (.t 36) (.c (.int .i64 7)), some (34, true), false⟩, ⟨some 38, .pick (.t 34) (.t 37) (.c (.bool false)), none, false⟩, ⟨some 30, .mov (.t 38), none, false⟩] [1, 2, 6, 7, 8, 10, 11, 18, 19, 20, 30]) (.cond (.t 30) (.reg [⟨some 39, .mov (.t 2), none, false⟩, ⟨some 40, .load true 8 (.t 10), none, false⟩, ⟨some 41, .call (.t 39) [.t 40], none, false⟩, ⟨none, .store 1 (.t 11) (.t 41), none, false⟩] [1, 2, 6, 7, 8, 11, 18, 19, 20]) (.seq (.reg [⟨some 43, .faddr 0 (.t 10), none, false⟩, ⟨some 44, .load false 1 (.t 43), none, false⟩, ⟨some 45, .bin .eql (.t 44) (.c (.int .i64 10)), none, false⟩, ⟨some 46, .mov (.t 45), none, false⟩, ⟨some 47, .mov (.t 8), some (46, true), false⟩, ⟨some 48, .faddr 6 (.t 10), some (46, true), false⟩, ⟨some 49, .load false 1 (.t 48), some (46, true), false⟩, ⟨some 50, .call (.t 47) [.t 49], some (46, true), false⟩, ⟨some 51, .pick (.t 46) (.t 50) (.c (.bool false)), none, false⟩, ⟨some 42, .mov (.t 51), none, false⟩] [1, 2, 6, 7, 8, 10, 11, 18, 19, 20, 42]) (.cond (.t 42) (.reg [⟨some 52, .load false 1 (.t 7), none, false⟩, ⟨some 53, .faddr 6 (.t 10), none, false⟩, ⟨some 54, .load false 1 (.t 53), none, false⟩, ⟨some 55, .iaddr 1 (.t 52) (.t 54), none, false⟩, ⟨some 56, .load true 1 (.t 55), none, false⟩, ⟨some 57, .mov (.t 1), none, false⟩, ⟨some 58, .call (.c (.func 21 [] [])) [.t 56, .t 57], none, false⟩, ⟨none, .store 1 (.t 11) (.t 58), none, false⟩] [1, 2, 6, 7, 8, 11, 18, 19, 20]) (.seq (.reg [⟨some 60, .faddr 0 (.t 10), none, false⟩, ⟨some 61, .load false 1 (.t 60), none, false⟩, ⟨some 62, .bin .eql (.t 61) (.c (.int .i64 8)), none, false⟩, ⟨some 63, .mov (.t 62), none, false⟩, ⟨some 64, .mov (.t 8), some (63, true), false⟩, ⟨some 65, .faddr 6 (.t 10), some (63, true), false⟩, ⟨some 66, .load false 1 (.t 65), some (63, true), false⟩, ⟨some 67, .call (.t 64) [.t 66], some (63, true), false⟩, ⟨some 68, .pick (.t 63) (.t 67) (.c (.bool false)), none, false⟩, ⟨some 69, .mov (.t 68), none, false⟩, ⟨some 70, .mov (.t 8), some (69, true), false⟩, ⟨some 71, .faddr 7 (.t 10), some (69, true), false⟩, ⟨some 72, .load false 1 (.t 71), some (69, true), false⟩, ⟨some 73, .call (.t 70) [.t 72], some (69, true), false⟩, ⟨some 74, .pick (.t 69) (.t 73) (.c (.bool false)), none, false⟩, ⟨some 59, .mov (.t 74), none, false⟩] [1, 2, 6, 7, 8, 10, 11, 18, 19, 20, 59]) (.cond (.t 59) (.reg [⟨some 75, .load false 1 (.t 7), none, false⟩, ⟨some 76, .faddr 6 (.t 10), none, false⟩, ⟨some 77, .load false 1 (.t 76), none, false⟩, ⟨some 78, .iaddr 1 (.t 75) (.t 77), none, false⟩, ⟨some 79, .load true 1 (.t 78), none, false⟩, ⟨some 80, .load false 1 (.t 7), none, false⟩, ⟨some 81, .faddr 7 (.t 10), none, false⟩, ⟨some 82, .load false 1 (.t 81), none, false⟩, ⟨some 83, .iaddr 1 (.t 80) (.t 82), none, false⟩, ⟨some 84, .load true 1 (.t 83), none, false⟩, ⟨some 85, .call (.c (.func 19 [] [])) [.t 79, .t 84], none, false⟩, ⟨none, .store 1 (.t 11) (.t 85), none, false⟩] [1, 2, 6, 7, 8, 11, 18, 19, 20]) (.seq (.reg [⟨some 87, .faddr 0 (.t 10), none, false⟩, ⟨some 88, .load false 1 (.t 87), none, false⟩, ⟨some 89, .bin .eql (.t 88) (.c (.int .i64 9)), none, false⟩, ⟨some 90, .mov (.t 89), none, false⟩, ⟨some 91, .mov (.t 8), some (90, true), false⟩, ⟨some 92, .faddr 6 (.t 10), some (90, true), false⟩, ⟨some 93, .load false 1 (.t 92), some (90, true), false⟩, ⟨some 94, .call (.t 91) [.t 93], some (90, true), false⟩, ⟨some 95, .pick (.t 90) (.t 94) (.c (.bool false)), none, false⟩, ⟨some 96, .mov (.t 95), none, false⟩, ⟨some 97, .mov (.t 8), some (96, true), false⟩, ⟨some 98, .faddr 7 (.t 10), some (96, true), false⟩, ⟨some 99, .load false 1 (.t 98), some (96, true), false⟩, ⟨some 100, .call (.t 97) [.t 99], some (96, true), false⟩, ⟨some 101, .pick (.t 96) (.t 100) (.c (.bool false)), none, false⟩, ⟨some 86, .mov (.t 101), none, false⟩] [1, 2, 6, 7, 8, 10, 11, 18, 19, 20, 86]) (.cond (.t 86) (.reg [⟨some 102, .load false 1 (.t 7), none, false⟩, ⟨some 103, .faddr 6 (.t 10), none, false⟩, ⟨some 104, .load false 1 (.t 103), none, false⟩, ⟨some 105, .iaddr 1 (.t 102) (.t 104), none, false⟩, ⟨some 106, .load true 1 (.t 105), none, false⟩, ⟨some 107, .load false 1 (.t 7), none, false⟩, ⟨some 108, .faddr 7 (.t 10), none, false⟩, ⟨some 109, .load false 1 (.t 108), none, false⟩, ⟨some 110, .iaddr 1 (.t 107) (.t 109), none, false⟩, ⟨some 111, .load true 1 (.t 110), none, false⟩, ⟨some 112, .call (.c (.func 20 [] [])) [.t 106, .t 111], none, false⟩, ⟨none, .store 1 (.t 11) (.t 112), none, false⟩] [1, 2, 6, 7, 8, 11, 18, 19, 20]) .skip))))))))))) (.reg [⟨some 113, .load false 1 (.t 7), none, false⟩, ⟨some 114, .load true 1 (.t 11), none, false⟩, ⟨some 115, .mkslice true 34 1 [.t 114], none, false⟩, ⟨some 116, .app 34 1 24 (.t 113) (.t 115), none, false⟩, ⟨none, .store 1 (.t 7) (.t 116), none, false⟩] [1, 2, 6, 7, 8, 18, 19, 20]))))) (.reg [⟨some 117, .bin .add (.t 20) (.c (.int .i64 1)), none, false⟩, ⟨some 20, .mov (.t 117), none, false⟩] [1, 2, 6, 7, 8, 18, 19, 20]))))))) (.seq (.reg [⟨some 118, .load false 1 (.t 7), none, false⟩, ⟨some 119, .load false 1 (.t 7), none, false⟩, ⟨some 120, .len 1 (.t 119), none, false⟩, ⟨some 121, .bin .sub (.t 120) (.c (.int .i64 1)), none, false⟩, ⟨some 122, .iaddr 1 (.t 118) (.t 121), none, false⟩, ⟨some 123, .load true 1 (.t 122), none, false⟩, ⟨none, .store 1 (.t 6) (.t 123), none, false⟩] [6]) .ret)))))
def lp34_0 : XC := .seq (.reg [⟨some 21, .bin .lss (.t 20) (.t 19), none, false⟩] [1, 2, 6, 7, 8, 18, 19, 20, 21]) (.seq (.cond (.t 21) .skip (.exit 0)) (.seq (.block 1 (.seq (.reg [⟨some 22, .iaddr 8 (.t 18) (.t 20), none, false⟩, ⟨some 23, .load true 8 (.t 22), none, false⟩, ⟨some 10, .alloc 41 [.int .i64 0, .int .i64 0, .int .i64 0, .int .i64 0, .str ⟨#[]⟩, .bool false, .int .i64 0, .int .i64 0], none, false⟩, ⟨none, .store 8 (.t 10) (.t 23), none, false⟩] [1, 2, 6, 7, 8, 10, 18, 19, 20]) (.seq (.reg [⟨some 11, .alloc 34 [.nils], none, false⟩] [1, 2, 6, 7, 8, 10, 11, 18, 19, 20]) (.seq (.block 2 (.seq (.reg [⟨some 25, .faddr 0 (.t 10), none, false⟩, ⟨some 26, .load false 1 (.t 25), none, false⟩, ⟨some 27, .bin .eql (.t 26) (.c (.int .i64 0)), none, false⟩, ⟨some 24, .mov (.t 27), none, false⟩] [1, 2, 6, 7, 8, 10, 11, 18, 19, 20, 24]) (.cond (.t 24) (.reg [⟨some 28, .mov (.t 1), none, false⟩, ⟨some 29, .call (.c (.func 40 [] [])) [.t 28], none, false⟩, ⟨none, .store 1 (.t 11) (.t 29), none, false⟩] [1, 2, 6, 7, 8, 11, 18, 19, 20]) (.seq (.reg [⟨some 31, .faddr 0 (.t 10), none, false⟩, ⟨some 32, .load false 1 (.t 31), none, false⟩, ⟨some 33, .bin .geq (.t 32) (.c (.int .i64 1)), none, false⟩, ⟨some 34, .mov (.t 33), none, false⟩, ⟨some 35, .faddr 0 (.t 10), some (34, true), false⟩, ⟨some 36, .load false 1 (.t 35), some (34, true), false⟩, ⟨some 37, .bin .leq (.t 36) (.c (.int .i64 7)), some (34, true), false⟩, ⟨some 38, .pick (.t 34) (.t 37) (.c (.bool false)), none, false⟩, ⟨some 30, .mov (.t 38), none, false⟩] [1, 2, 6, 7, 8, 10, 11, 18, 19, 20, 30]) (.cond (.t 30) (.reg [⟨some 39, .mov (.t 2), none, false⟩, ⟨some 40, .load true 8 (.t 10), none, false⟩, ⟨some 41, .call (.t 39) [.t 40], none, false⟩, ⟨none, .store 1 (.t 11) (.t 41), none, false⟩] [1, 2, 6, 7, 8, 11, 18, 19, 20]) (.seq (.reg [⟨some 43, .faddr 0 (.t 10), none, false⟩, ⟨some 44, .load false 1 (.t 43), none, false⟩, ⟨some 45, .bin .eql (.t 44) (.c (.int .i64 10)), none, false⟩, ⟨some 46, .mov (.t 45), none, false⟩, ⟨some 47, .mov (.t 8), some (46, true), false⟩, ⟨some 48, .faddr 6 (.t 10), some (46, true), false⟩, ⟨some 49, .load false 1 (.t 48), some (46, true), false⟩, ⟨some 50, .call (.t 47) [.t 49], some (46, true), false⟩, ⟨some 51, .pick (.t 46) (.t 50) (.c (.bool false)), none, false⟩, ⟨some 42, .mov (.t 51), none, false⟩] [1, 2, 6, 7, 8, 10, 11, 18, 19, 20, 42]) (.cond (.t 42) (.reg [⟨some 52, .load false 1 (.t 7), none, false⟩, ⟨some 53, .faddr 6 (.t 10), none, false⟩, ⟨some 54, .load false 1 (.t 53), none, false⟩, ⟨some 55, .iaddr 1 (.t 52) (.t 54), none, false⟩, ⟨some 56, .load true 1 (.t 55), none, false⟩, ⟨some 57, .mov (.t 1), none, false⟩, ⟨some 58, .call (.c (.func 21 [] [])) [.t 56, .t 57], none, false⟩, ⟨none, .store 1 (.t 11) (.t 58), none, false⟩] [1, 2, 6, 7, 8, 11, 18, 19, 20]) (.seq (.reg [⟨some 60, .faddr 0 (.t 10), none, false⟩, ⟨some 61, .load false 1 (.t 60), none, false⟩, ⟨some 62, .bin .eql (.t 61) (.c (.int .i64 8)), none, false⟩, ⟨some 63, .mov (.t 62), none, false⟩, ⟨some 64, .mov (.t 8), some (63, true), false⟩, ⟨some 65, .faddr 6 (.t 10), some (63, true), false⟩, ⟨some 66, .load false 1 (.t 65), some (63, true), false⟩, ⟨some 67, .call (.t 64) [.t 66], some (63, true), false⟩, ⟨some 68, .pick (.t 63) (.t 67) (.c (.bool false)), none, false⟩, ⟨some 69, .mov (.t 68), none, false⟩, ⟨some 70, .mov (.t 8), some (69, true), false⟩, ⟨some 71, .faddr 7 (.t 10), some (69, true), false⟩, ⟨some 72, .load false 1 (.t 71), some (69, true), false⟩, ⟨some 73, .call (.t 70) [.t 72], some (69, true), false⟩, ⟨some 74, .pick (.t 69) (.t 73) (.c (.bool false)), none, false⟩, ⟨some 59, .mov (.t 74), none, false⟩] [1, 2, 6, 7, 8, 10, 11, 18, 19, 20, 59]) (.cond (.t 59) (.reg [⟨some 75, .load false 1 (.t 7), none, false⟩, ⟨some 76, .faddr 6 (.t 10), none, false⟩, ⟨some 77, .load false 1 (.t 76), none, false⟩, ⟨some 78, .iaddr 1 (.t 75) (.t 77), none, false⟩, ⟨some 79, .load true 1 (.t 78), none, false⟩, ⟨some 80, .load false 1 (.t 7), none, false⟩, ⟨some 81, .faddr 7 (.t 10), none, false⟩, ⟨some 82, .load false 1 (.t 81), none, false⟩, ⟨some 83, .iaddr 1 (.t 80) (.t 82), none, false⟩, ⟨some 84, .load true 1 (.t 83), none, false⟩, ⟨some 85, .call (.c (.func 19 [] [])) [.t 79, .t 84], none, false⟩, ⟨none, .store 1 (.t 11) (.t 85), none, false⟩] [1, 2, 6, 7, 8, 11, 18, 19, 20]) (.seq (.reg [⟨some 87, .faddr 0 (.t 10), none, false⟩, ⟨some 88, .load false 1 (.t 87), none, false⟩, ⟨some 89, .bin .eql (.t 88) (.c (.int .i64 9)), none, false⟩, ⟨some 90, .mov (.t 89), none, false⟩, ⟨some 91, .mov (.t 8), some (90, true), false⟩, ⟨some 92, .faddr 6 (.t 10), some (90, true), false⟩, ⟨some 93, .load false 1 (.t 92), some (90, true), false⟩, ⟨some 94, .call (.t 91) [.t 93], some (90, true), false⟩, ⟨some 95, .pick (.t 90) (.t 94) (.c (.bool false)), none, false⟩, ⟨some 96, .mov (.t 95), none, false⟩, ⟨some 97, .mov (.t 8), some (96, true), false⟩, ⟨some 98, .faddr 7 (.t 10), some (96, true), false⟩, ⟨some 99, .load false 1 (.t 98), some (96, true), false⟩, ⟨some 100, .call (.t 97) [.t 99], some (96, true), false⟩, ⟨some 101, .pick (.t 96) (.t 100) (.c (.bool false)), none, false⟩, ⟨some 86, .mov (.t 101), none, false⟩] [1, 2, 6, 7, 8, 10, 11, 18, 19, 20, 86]) (.cond (.t 86) (.reg [⟨some 102, .load false 1 (.t 7), none, false⟩, ⟨some 103, .faddr 6 (.t 10), none, false⟩, ⟨some 104, .load false 1 (.t 103), none, false⟩, ⟨some 105, .iaddr 1 (.t 102) (.t 104), none, false⟩, ⟨some 106, .load true 1 (.t 105), none, false⟩, ⟨some 107, .load false 1 (.t 7), none, false⟩, ⟨some 108, .faddr 7 (.t 10), none, false⟩, ⟨some 109, .load false 1 (.t 108), none, false⟩, ⟨some 110, .iaddr 1 (.t 107) (.t 109), none, false⟩, ⟨some 111, .load true 1 (.t 110), none, false⟩, ⟨some 112, .call (.c (.func 20 [] [])) [.t 106, .t 111], none, false⟩, ⟨none, .store 1 (.t 11) (.t 112), none, false⟩] [1, 2, 6, 7, 8, 11, 18, 19, 20]) .skip))))))))))) (.reg [⟨some 113, .load false 1 (.t 7), none, false⟩, ⟨some 114, .load true 1 (.t 11), none, false⟩, ⟨some 115, .mkslice true 34 1 [.t 114], none, false⟩, ⟨some 116, .app 34 1 24 (.t 113) (.t 115), none, false⟩, ⟨none, .store 1 (.t 7) (.t 116), none, false⟩] [1, 2, 6, 7, 8, 18, 19, 20]))))) (.reg [⟨some 117, .bin .add (.t 20) (.c (.int .i64 1)), none, false⟩, ⟨some 20, .mov (.t 117), none, false⟩] [1, 2, 6, 7, 8, 18, 19, 20])))
def x34 : XF := ⟨3, b34, [.cell 6 true 1]⟩
def h34 : Hints := fun id => match id with
  | 0 => [0, 1, 2, 6]
  | 1 => [0, 1, 2, 6, 14]
  | 2 => [6]
  | 3 => [0, 1, 2, 6, 7]
  | 4 => [0, 1, 2, 6, 7, 8]
  | 5 => [1, 2, 6, 7, 8, 18, 19, 20]
  | 6 => [1, 2, 6, 7, 8, 18, 19, 20, 21]
  | 7 => [1, 2, 6, 7, 8, 10, 18, 19, 20]
  | 8 => [1, 2, 6, 7, 8, 10, 11, 18, 19, 20]
  | 9 => [1, 2, 6, 7, 8, 10, 11, 18, 19, 20, 24]
  | 10 => [1, 2, 6, 7, 8, 11, 18, 19, 20]
  | 11 => [1, 2, 6, 7, 8, 10, 11, 18, 19, 20, 30]
  | 12 => [1, 2, 6, 7, 8, 11, 18, 19, 20]
  | 13 => [1, 2, 6, 7, 8, 10, 11, 18, 19, 20, 42]
  | 14 => [1, 2, 6, 7, 8, 11, 18, 19, 20]
  | 15 => [1, 2, 6, 7, 8, 10, 11, 18, 19, 20, 59]
  | 16 => [1, 2, 6, 7, 8, 11, 18, 19, 20]
  | 17 => [1, 2, 6, 7, 8, 10, 11, 18, 19, 20, 86]
  | 18 => [1, 2, 6, 7, 8, 11, 18, 19, 20]
  | 19 => [1, 2, 6, 7, 8, 18, 19, 20]
  | 20 => [1, 2, 6, 7, 8, 18, 19, 20]
  | 21 => [6]
  | _ => []
theorem cv34 : cvF Tryd.prog h34 Tryd.f34 = some x34 := by kernel_rfl

/-- (winnower/filter.batch).leaf -/
def b35 : XC := .seq (.reg [⟨some 3, .box 41 (.t 1), none, false⟩, ⟨some 4, .alloc 34 [.nils], none, false⟩] [0, 3, 4]) (.seq (.reg [⟨some 5, .mov (.c .nils), none, false⟩] [0, 3, 4, 5]) (.seq (.seq (.reg [⟨some 8, .mov (.t 0), none, false⟩, ⟨some 9, .len 1 (.t 8), none, false⟩, ⟨some 10, .mov (.c (.int .i64 0)), none, false⟩] [3, 4, 5, 8, 9, 10]) (.block 0 (.loop (.seq (.reg [⟨some 11, .bin .lss (.t 10) (.t 9), none, false⟩] [3, 4, 5, 8, 9, 10, 11]) (.seq (.cond (.t 11) .skip (.exit 0)) (.seq (.block 1 (.seq (.reg [⟨some 12, .mov (.t 10), none, false⟩, ⟨some 13, .iaddr 1 (.t 8) (.t 10), none, false⟩, ⟨some 14, .load false 1 (.t 13), none, false⟩, ⟨some 6, .mov (.t 12), none, false⟩, ⟨some 7, .mov (.t 14), none, false⟩] [3, 4, 5, 6, 7, 8, 9, 10]) (.seq (.reg [⟨some 15, .faddr 1 (.t 3), none, false⟩, ⟨some 16, .load false 1 (.t 15), none, false⟩, ⟨some 17, .bin .geq (.t 16) (.c (.int .i64 0)), none, false⟩, ⟨some 18, .mov (.t 17), none, false⟩, ⟨some 19, .faddr 1 (.t 3), some (18, true), false⟩, ⟨some 20, .load false 1 (.t 19), some (18, true), false⟩, ⟨some 21, .mov (.t 7), some (18, true), false⟩, ⟨some 22, .len 4 (.t 21), some (18, true), false⟩, ⟨some 23, .bin .lss (.t 20) (.t 22), some (18, true), false⟩, ⟨some 24, .pick (.t 18) (.t 23) (.c (.bool false)), none, false⟩, ⟨some 25, .mov (.t 24), none, false⟩, ⟨some 26, .load true 8 (.t 3), some (25, true), false⟩, ⟨some 27, .mov (.t 7), some (25, true), false⟩, ⟨some 28, .faddr 1 (.t 3), some (25, true), false⟩, ⟨some 29, .load false 1 (.t 28), some (25, true), false⟩, ⟨some 30, .iaddr 4 (.t 27) (.t 29), some (25, true), false⟩, ⟨some 31, .load true 4 (.t 30), some (25, true), false⟩, ⟨some 32, .call (.c (.func 61 [] [])) [.t 26, .t 31], some (25, true), false⟩, ⟨some 33, .pick (.t 25) (.t 32) (.c (.bool false)), none, false⟩] [3, 4, 5, 6, 8, 9, 10, 33]) (.cond (.t 33) (.reg [⟨some 34, .mov (.t 5), none, false⟩, ⟨some 35, .mov (.t 6), none, false⟩, ⟨some 36, .mkslice true 3 1 [.t 35], none, false⟩, ⟨some 37, .app 3 1 8 (.t 34) (.t 36), none, false⟩, ⟨some 5, .mov (.t 37), none, false⟩] [3, 4, 5, 8, 9, 10]) .skip)))) (.reg [⟨some 38, .bin .add (.t 10) (.c (.int .i64 1)), none, false⟩, ⟨some 10, .mov (.t 38), none, false⟩] [3, 4, 5, 8, 9, 10]))))))) (.seq (.reg [⟨some 39, .mov (.t 5), none, false⟩, ⟨some 40, .call (.c (.func 22 [] [])) [.t 39], none, false⟩, ⟨none, .store 1 (.t 4) (.t 40), none, false⟩] [4]) .ret)))
def lp35_0 : XC := .seq (.reg [⟨some 11, .bin .lss (.t 10) (.t 9), none, false⟩] [3, 4, 5, 8, 9, 10, 11]) (.seq (.cond (.t 11) .skip (.exit 0)) (.seq (.block 1 (.seq (.reg [⟨some 12, .mov (.t 10), none, false⟩, ⟨some 13, .iaddr 1 (.t 8) (.t 10), none, false⟩, ⟨some 14, .load false 1 (.t 13), none, false⟩, ⟨some 6, .mov (.t 12), none, false⟩, ⟨some 7, .mov (.t 14), none, false⟩] [3, 4, 5, 6, 7, 8, 9, 10]) (.seq (.reg [⟨some 15, .faddr 1 (.t 3), none, false⟩, ⟨some 16, .load false 1 (.t 15), none, false⟩, ⟨some 17, .bin .geq (.t 16) (.c (.int .i64 0)), none, false⟩, ⟨some 18, .mov (.t 17), none, false⟩, ⟨some 19, .faddr 1 (.t 3), some (18, true), false⟩, ⟨some 20, .load false 1 (.t 19), some (18, true), false⟩, ⟨some 21, .mov (.t 7), some (18, true), false⟩, ⟨some 22, .len 4 (.t 21), some (18, true), false⟩, ⟨some 23, .bin .lss (.t 20) (.t 22), some (18, true), false⟩, ⟨some 24, .pick (.t 18) (.t 23) (.c (.bool false)), none, false⟩, ⟨some 25, .mov (.t 24), none, false⟩, ⟨some 26, .load true 8 (.t 3), some (25, true), false⟩, ⟨some 27, .mov (.t 7), some (25, true), false⟩, ⟨some 28, .faddr 1 (.t 3), some (25, true), false⟩, ⟨some 29, .load false 1 (.t 28), some (25, true), false⟩, ⟨some 30, .iaddr 4 (.t 27) (.t 29), some (25, true), false⟩, ⟨some 31, .load true 4 (.t 30), some (25, true), false⟩, ⟨some 32, .call (.c (.func 61 [] [])) [.t 26, .t 31], some (25, true), false⟩, ⟨some 33, .pick (.t 25) (.t 32) (.c (.bool false)), none, false⟩] [3, 4, 5, 6, 8, 9, 10, 33]) (.cond (.t 33) (.reg [⟨some 34, .mov (.t 5), none, false⟩, ⟨some 35, .mov (.t 6), none, false⟩, ⟨some 36, .mkslice true 3 1 [.t 35], none, false⟩, ⟨some 37, .app 3 1 8 (.t 34) (.t 36), none, false⟩, ⟨some 5, .mov (.t 37), none, false⟩] [3, 4, 5, 8, 9, 10]) .skip)))) (.reg [⟨some 38, .bin .add (.t 10) (.c (.int .i64 1)), none, false⟩, ⟨some 10, .mov (.t 38), none, false⟩] [3, 4, 5, 8, 9, 10])))
def x35 : XF := ⟨2, b35, [.cell 4 true 1]⟩
def h35 : Hints := fun id => match id with
  | 0 => [0, 3, 4]
  | 1 => [0, 3, 4, 5]
  | 2 => [3, 4, 5, 8, 9, 10]
  | 3 => [3, 4, 5, 8, 9, 10, 11]
  | 4 => [3, 4, 5, 6, 7, 8, 9, 10]
  | 5 => [3, 4, 5, 6, 8, 9, 10, 33]
  | 6 => [3, 4, 5, 8, 9, 10]
  | 7 => [3, 4, 5, 8, 9, 10]
  | 8 => [4]
  | _ => []
theorem cv35 : cvF Tryd.prog h35 Tryd.f35 = some x35 := by kernel_rfl

/-- (winnower/bitset.Set).at -/
def b36 : XC := .seq (.reg [⟨some 2, .box 34 (.t 0), none, false⟩, ⟨some 4, .mov (.c (.int .u64 0)), none, false⟩] [1, 2]) (.seq (.seq (.reg [⟨some 5, .mov (.t 1), none, false⟩, ⟨some 6, .faddr 0 (.t 2), none, false⟩, ⟨some 7, .load false 1 (.t 6), none, false⟩, ⟨some 8, .len 1 (.t 7), none, false⟩, ⟨some 9, .bin .lss (.t 5) (.t 8), none, false⟩] [1, 2, 9]) (.cond (.t 9) (.seq (.reg [⟨some 10, .faddr 0 (.t 2), none, false⟩, ⟨some 11, .load false 1 (.t 10), none, false⟩, ⟨some 12, .mov (.t 1), none, false⟩, ⟨some 13, .iaddr 1 (.t 11) (.t 12), none, false⟩, ⟨some 14, .load false 1 (.t 13), none, false⟩, ⟨some 4, .mov (.t 14), none, false⟩] [4]) .ret) .skip)) (.seq (.reg [⟨some 4, .mov (.c (.int .u64 0)), none, false⟩] [4]) .ret))
def x36 : XF := ⟨2, b36, [.t 4]⟩
def h36 : Hints := fun id => match id with
  | 0 => [1, 2]
  | 1 => [1, 2, 9]
  | 2 => [4]
  | 3 => [4]
  | _ => []
theorem cv36 : cvF Tryd.prog h36 Tryd.f36 = some x36 := by kernel_rfl

/-- winnower/bitset.each -/
def b37 : XC := .seq (.reg [⟨some 4, .alloc 34 [.nils], none, false⟩] [0, 1, 4]) (.seq (.reg [⟨some 7, .mov (.t 0), none, false⟩, ⟨some 8, .make 77 1 8 (.int .u64 0) (.t 7) (.t 7), none, false⟩, ⟨some 5, .mov (.t 8), none, false⟩] [1, 4, 5]) (.seq (.seq (.reg [⟨some 9, .mov (.t 5), none, false⟩, ⟨some 10, .len 1 (.t 9), none, false⟩, ⟨some 11, .mov (.c (.int .i64 0)), none, false⟩] [1, 4, 5, 10, 11]) (.block 0 (.loop (.seq (.reg [⟨some 12, .bin .lss (.t 11) (.t 10), none, false⟩] [1, 4, 5, 10, 11, 12]) (.seq (.cond (.t 12) .skip (.exit 0)) (.seq (.block 1 (.seq (.reg [⟨some 13, .mov (.t 11), none, false⟩, ⟨some 6, .mov (.t 13), none, false⟩] [1, 4, 5, 6, 10, 11]) (.reg [⟨some 14, .mov (.t 5), none, false⟩, ⟨some 15, .mov (.t 6), none, false⟩, ⟨some 16, .mov (.t 1), none, false⟩, ⟨some 17, .mov (.t 6), none, false⟩, ⟨some 18, .call (.t 16) [.t 17], none, false⟩, ⟨some 19, .iaddr 1 (.t 14) (.t 15), none, false⟩, ⟨none, .store 1 (.t 19) (.t 18), none, false⟩] [1, 4, 5, 10, 11]))) (.reg [⟨some 20, .bin .add (.t 11) (.c (.int .i64 1)), none, false⟩, ⟨some 11, .mov (.t 20), none, false⟩] [1, 4, 5, 10, 11]))))))) (.seq (.reg [⟨some 21, .mov (.t 5), none, false⟩, ⟨some 22, .build [.nils] [(0, (1, .t 21))], none, false⟩, ⟨none, .store 1 (.t 4) (.t 22), none, false⟩] [4]) .ret)))
def lp37_0 : XC := .seq (.reg [⟨some 12, .bin .lss (.t 11) (.t 10), none, false⟩] [1, 4, 5, 10, 11, 12]) (.seq (.cond (.t 12) .skip (.exit 0)) (.seq (.block 1 (.seq (.reg [⟨some 13, .mov (.t 11), none, false⟩, ⟨some 6, .mov (.t 13), none, false⟩] [1, 4, 5, 6, 10, 11]) (.reg [⟨some 14, .mov (.t 5), none, false⟩, ⟨some 15, .mov (.t 6), none, false⟩, ⟨some 16, .mov (.t 1), none, false⟩, ⟨some 17, .mov (.t 6), none, false⟩, ⟨some 18, .call (.t 16) [.t 17], none, false⟩, ⟨some 19, .iaddr 1 (.t 14) (.t 15), none, false⟩, ⟨none, .store 1 (.t 19) (.t 18), none, false⟩] [1, 4, 5, 10, 11]))) (.reg [⟨some 20, .bin .add (.t 11) (.c (.int .i64 1)), none, false⟩, ⟨some 11, .mov (.t 20), none, false⟩] [1, 4, 5, 10, 11])))
def x37 : XF := ⟨2, b37, [.cell 4 true 1]⟩
def h37 : Hints := fun id => match id with
  | 0 => [0, 1, 4]
  | 1 => [1, 4, 5]
  | 2 => [1, 4, 5, 10, 11]
  | 3 => [1, 4, 5, 10, 11, 12]
  | 4 => [1, 4, 5, 6, 10, 11]
  | 5 => [1, 4, 5, 10, 11]
  | 6 => [1, 4, 5, 10, 11]
  | 7 => [4]
  | _ => []
theorem cv37 : cvF Tryd.prog h37 Tryd.f37 = some x37 := by kernel_rfl

/-- (winnower/bitset.Set).And$1 -/
def b38 : XC := .seq (.reg [⟨some 4, .mov (.c (.int .u64 0)), none, false⟩] [0, 1, 2]) (.seq (.reg [⟨some 5, .faddr 0 (.t 1), none, false⟩, ⟨some 6, .load false 1 (.t 5), none, false⟩, ⟨some 7, .mov (.t 0), none, false⟩, ⟨some 8, .iaddr 1 (.t 6) (.t 7), none, false⟩, ⟨some 9, .load false 1 (.t 8), none, false⟩, ⟨some 10, .faddr 0 (.t 2), none, false⟩, ⟨some 11, .load false 1 (.t 10), none, false⟩, ⟨some 12, .mov (.t 0), none, false⟩, ⟨some 13, .iaddr 1 (.t 11) (.t 12), none, false⟩, ⟨some 14, .load false 1 (.t 13), none, false⟩, ⟨some 15, .bin .and (.t 9) (.t 14), none, false⟩, ⟨some 4, .mov (.t 15), none, false⟩] [4]) .ret)
def x38 : XF := ⟨3, b38, [.t 4]⟩
def h38 : Hints := fun id => match id with
  | 0 => [0, 1, 2]
  | 1 => [4]
  | _ => []
theorem cv38 : cvF Tryd.prog h38 Tryd.f38 = some x38 := by kernel_rfl

/-- (winnower/bitset.Set).Or$1 -/
def b39 : XC := .seq (.reg [⟨some 4, .mov (.c (.int .u64 0)), none, false⟩] [0, 1, 2]) (.seq (.reg [⟨some 5, .load true 1 (.t 1), none, false⟩, ⟨some 6, .mov (.t 0), none, false⟩, ⟨some 7, .call (.c (.func 36 [] [])) [.t 5, .t 6], none, true⟩, ⟨some 8, .load true 1 (.t 2), none, false⟩, ⟨some 9, .mov (.t 0), none, false⟩, ⟨some 10, .call (.c (.func 36 [] [])) [.t 8, .t 9], none, false⟩, ⟨some 11, .bin .or (.t 7) (.t 10), none, false⟩, ⟨some 4, .mov (.t 11), none, false⟩] [4]) .ret)
def x39 : XF := ⟨3, b39, [.t 4]⟩
def h39 : Hints := fun id => match id with
  | 0 => [0, 1, 2]
  | 1 => [4]
  | _ => []
theorem cv39 : cvF Tryd.prog h39 Tryd.f39 = some x39 := by kernel_rfl

/-- winnower/bitset.Upto -/
def b40 : XC := .seq (.reg [⟨some 1, .box 3 (.t 0), none, false⟩, ⟨some 2, .alloc 34 [.nils], none, false⟩] [1, 2]) (.seq (.reg [⟨some 3, .load false 1 (.t 1), none, false⟩, ⟨some 4, .mmx true [.t 3, .c (.int .i64 0)], none, false⟩, ⟨some 5, .mmx false [.t 4, .c (.int .i64 65536)], none, false⟩, ⟨none, .store 1 (.t 1) (.t 5), none, false⟩] [1, 2]) (.seq (.reg [⟨some 6, .load false 1 (.t 1), none, false⟩, ⟨some 7, .bin .add (.t 6) (.c (.int .i64 64)), none, false⟩, ⟨some 8, .bin .sub (.t 7) (.c (.int .i64 1)), none, false⟩, ⟨some 9, .bin .quo (.t 8) (.c (.int .i64 64)), none, false⟩, ⟨some 10, .mkfn 62 [] [.t 1], none, false⟩, ⟨some 11, .call (.c (.func 37 [] [])) [.t 9, .t 10], none, false⟩, ⟨none, .store 1 (.t 2) (.t 11), none, false⟩] [2]) .ret))
def x40 : XF := ⟨1, b40, [.cell 2 true 1]⟩
def h40 : Hints := fun id => match id with
  | 0 => [1, 2]
  | 1 => [1, 2]
  | 2 => [2]
  | _ => []
theorem cv40 : cvF Tryd.prog h40 Tryd.f40 = some x40 := by kernel_rfl

/-- (winnower/bitset.Set).Not$1 -/
def b41 : XC := .seq (.reg [⟨some 4, .mov (.c (.int .u64 0)), none, false⟩] [0, 1, 2]) (.seq (.reg [⟨some 5, .faddr 0 (.t 1), none, false⟩, ⟨some 6, .load false 1 (.t 5), none, false⟩, ⟨some 7, .mov (.t 0), none, false⟩, ⟨some 8, .iaddr 1 (.t 6) (.t 7), none, false⟩, ⟨some 9, .load false 1 (.t 8), none, false⟩, ⟨some 10, .load true 1 (.t 2), none, false⟩, ⟨some 11, .mov (.t 0), none, false⟩, ⟨some 12, .call (.c (.func 36 [] [])) [.t 10, .t 11], none, true⟩, ⟨some 13, .bin .andNot (.t 9) (.t 12), none, false⟩, ⟨some 4, .mov (.t 13), none, false⟩] [4]) .ret)
def x41 : XF := ⟨3, b41, [.t 4]⟩
def h41 : Hints := fun id => match id with
  | 0 => [0, 1, 2]
  | 1 => [4]
  | _ => []
theorem cv41 : cvF Tryd.prog h41 Tryd.f41 = some x41 := by kernel_rfl

/-- winnower/bitset.may -/
def b42 : XC := .seq (.reg [⟨some 2, .mov (.c (.bool false)), none, false⟩] [0]) (.seq (.reg [⟨some 3, .mov (.t 0), none, false⟩, ⟨some 4, .bin .geq (.t 3) (.c (.int .i64 0)), none, false⟩, ⟨some 5, .mov (.t 4), none, false⟩, ⟨some 6, .mov (.t 0), some (5, true), false⟩, ⟨some 7, .bin .lss (.t 6) (.c (.int .i64 65536)), some (5, true), false⟩, ⟨some 8, .pick (.t 5) (.t 7) (.c (.bool false)), none, false⟩, ⟨some 2, .mov (.t 8), none, false⟩] [2]) .ret)
def x42 : XF := ⟨1, b42, [.t 2]⟩
def h42 : Hints := fun id => match id with
  | 0 => [0]
  | 1 => [2]
  | _ => []
theorem cv42 : cvF Tryd.prog h42 Tryd.f42 = some x42 := by kernel_rfl

/-- winnower/bitset.put -/
def b43 : XC := .seq (.reg [⟨some 4, .mov (.c .nils), none, false⟩] [0, 1]) (.seq (.block 0 (.loop (.seq (.seq (.reg [⟨some 5, .mov (.t 0), none, false⟩, ⟨some 6, .len 1 (.t 5), none, false⟩, ⟨some 7, .mov (.t 1), none, false⟩, ⟨some 8, .bin .quo (.t 7) (.c (.int .i64 64)), none, false⟩, ⟨some 9, .bin .leq (.t 6) (.t 8), none, false⟩] [0, 1, 9]) (.cond (.t 9) .skip (.exit 0))) (.block 1 (.reg [⟨some 10, .mov (.t 0), none, false⟩, ⟨some 11, .mkslice true 77 1 [.c (.int .u64 0)], none, false⟩, ⟨some 12, .app 77 1 8 (.t 10) (.t 11), none, false⟩, ⟨some 0, .mov (.t 12), none, false⟩] [0, 1]))))) (.seq (.reg [⟨some 13, .mov (.t 0), none, false⟩, ⟨some 14, .mov (.t 1), none, false⟩, ⟨some 15, .bin .quo (.t 14) (.c (.int .i64 64)), none, false⟩, ⟨some 16, .iaddr 1 (.t 13) (.t 15), none, false⟩, ⟨some 17, .load false 1 (.t 16), none, false⟩, ⟨some 18, .mov (.t 1), none, false⟩, ⟨some 19, .bin .rem (.t 18) (.c (.int .i64 64)), none, false⟩, ⟨some 20, .bin .shl (.c (.int .u64 1)) (.t 19), none, false⟩, ⟨some 21, .bin .or (.t 17) (.t 20), none, false⟩, ⟨some 22, .iaddr 1 (.t 13) (.t 15), none, false⟩, ⟨none, .store 1 (.t 22) (.t 21), none, false⟩] [0]) (.seq (.reg [⟨some 23, .mov (.t 0), none, false⟩, ⟨some 4, .mov (.t 23), none, false⟩] [4]) .ret)))
def lp43_0 : XC := .seq (.seq (.reg [⟨some 5, .mov (.t 0), none, false⟩, ⟨some 6, .len 1 (.t 5), none, false⟩, ⟨some 7, .mov (.t 1), none, false⟩, ⟨some 8, .bin .quo (.t 7) (.c (.int .i64 64)), none, false⟩, ⟨some 9, .bin .leq (.t 6) (.t 8), none, false⟩] [0, 1, 9]) (.cond (.t 9) .skip (.exit 0))) (.block 1 (.reg [⟨some 10, .mov (.t 0), none, false⟩, ⟨some 11, .mkslice true 77 1 [.c (.int .u64 0)], none, false⟩, ⟨some 12, .app 77 1 8 (.t 10) (.t 11), none, false⟩, ⟨some 0, .mov (.t 12), none, false⟩] [0, 1]))
def x43 : XF := ⟨2, b43, [.t 4]⟩
def h43 : Hints := fun id => match id with
  | 0 => [0, 1]
  | 1 => [0, 1, 9]
  | 2 => [0, 1]
  | 3 => [0]
  | 4 => [4]
  | _ => []
theorem cv43 : cvF Tryd.prog h43 Tryd.f43 = some x43 := by kernel_rfl

/-- math/bits.OnesCount64 -/
def b44 : XC := .seq (.reg [⟨some 2, .mov (.c (.int .i64 0)), none, false⟩] [0]) (.seq (.reg [⟨some 3, .mov (.t 0), none, false⟩, ⟨some 4, .bin .shr (.t 3) (.c (.int .u64 1)), none, false⟩, ⟨some 5, .bin .and (.t 4) (.c (.int .u64 6148914691236517205)), none, false⟩, ⟨some 6, .mov (.t 0), none, false⟩, ⟨some 7, .bin .and (.t 6) (.c (.int .u64 6148914691236517205)), none, false⟩, ⟨some 8, .bin .add (.t 5) (.t 7), none, false⟩, ⟨some 0, .mov (.t 8), none, false⟩] [0]) (.seq (.reg [⟨some 9, .mov (.t 0), none, false⟩, ⟨some 10, .bin .shr (.t 9) (.c (.int .u64 2)), none, false⟩, ⟨some 11, .bin .and (.t 10) (.c (.int .u64 3689348814741910323)), none, false⟩, ⟨some 12, .mov (.t 0), none, false⟩, ⟨some 13, .bin .and (.t 12) (.c (.int .u64 3689348814741910323)), none, false⟩, ⟨some 14, .bin .add (.t 11) (.t 13), none, false⟩, ⟨some 0, .mov (.t 14), none, false⟩] [0]) (.seq (.reg [⟨some 15, .mov (.t 0), none, false⟩, ⟨some 16, .bin .shr (.t 15) (.c (.int .u64 4)), none, false⟩, ⟨some 17, .mov (.t 0), none, false⟩, ⟨some 18, .bin .add (.t 16) (.t 17), none, false⟩, ⟨some 19, .bin .and (.t 18) (.c (.int .u64 1085102592571150095)), none, false⟩, ⟨some 0, .mov (.t 19), none, false⟩] [0]) (.seq (.reg [⟨some 20, .mov (.t 0), none, false⟩, ⟨some 21, .mov (.t 0), none, false⟩, ⟨some 22, .bin .shr (.t 21) (.c (.int .u64 8)), none, false⟩, ⟨some 23, .bin .add (.t 20) (.t 22), none, false⟩, ⟨some 0, .mov (.t 23), none, false⟩] [0]) (.seq (.reg [⟨some 24, .mov (.t 0), none, false⟩, ⟨some 25, .mov (.t 0), none, false⟩, ⟨some 26, .bin .shr (.t 25) (.c (.int .u64 16)), none, false⟩, ⟨some 27, .bin .add (.t 24) (.t 26), none, false⟩, ⟨some 0, .mov (.t 27), none, false⟩] [0]) (.seq (.reg [⟨some 28, .mov (.t 0), none, false⟩, ⟨some 29, .mov (.t 0), none, false⟩, ⟨some 30, .bin .shr (.t 29) (.c (.int .u64 32)), none, false⟩, ⟨some 31, .bin .add (.t 28) (.t 30), none, false⟩, ⟨some 0, .mov (.t 31), none, false⟩] [0]) (.seq (.reg [⟨some 32, .mov (.t 0), none, false⟩, ⟨some 33, .toint .i64 (.t 32), none, false⟩, ⟨some 34, .bin .and (.t 33) (.c (.int .i64 127)), none, false⟩, ⟨some 2, .mov (.t 34), none, false⟩] [2]) .ret)))))))
def x44 : XF := ⟨1, b44, [.t 2]⟩
def h44 : Hints := fun id => match id with
  | 0 => [0]
  | 1 => [0]
  | 2 => [0]
  | 3 => [0]
  | 4 => [0]
  | 5 => [0]
  | 6 => [0]
  | 7 => [2]
  | _ => []
theorem cv44 : cvF Tryd.prog h44 Tryd.f44 = some x44 := by kernel_rfl

/-- winnower/winnowerref06.Order -/
def b57 : XC := .seq (.reg [⟨some 2, .box 39 (.t 0), none, false⟩, ⟨some 3, .box 39 (.t 1), none, false⟩, ⟨some 4, .mov (.c (.int .i64 0)), none, false⟩] [2, 3]) (.seq (.seq (.reg [⟨some 5, .faddr 0 (.t 2), none, false⟩, ⟨some 6, .load false 1 (.t 5), none, false⟩, ⟨some 7, .faddr 0 (.t 3), none, false⟩, ⟨some 8, .load false 1 (.t 7), none, false⟩, ⟨some 9, .bin .lss (.t 6) (.t 8), none, false⟩] [2, 3, 9]) (.cond (.t 9) (.seq (.reg [⟨some 4, .mov (.c (.int .i64 (-1))), none, false⟩] [4]) .ret) .skip)) (.seq (.seq (.reg [⟨some 10, .faddr 0 (.t 2), none, false⟩, ⟨some 11, .load false 1 (.t 10), none, false⟩, ⟨some 12, .faddr 0 (.t 3), none, false⟩, ⟨some 13, .load false 1 (.t 12), none, false⟩, ⟨some 14, .bin .gtr (.t 11) (.t 13), none, false⟩] [2, 3, 14]) (.cond (.t 14) (.seq (.reg [⟨some 4, .mov (.c (.int .i64 1)), none, false⟩] [4]) .ret) .skip)) (.seq (.seq (.reg [⟨some 15, .faddr 0 (.t 2), none, false⟩, ⟨some 16, .load false 1 (.t 15), none, false⟩] [2, 3, 16]) (.block 0 (.seq (.reg [⟨some 18, .bin .eql (.t 16) (.c (.int .i64 1)), none, false⟩, ⟨some 17, .mov (.t 18), none, false⟩] [2, 3, 16, 17]) (.cond (.t 17) (.seq (.seq (.reg [⟨some 19, .faddr 1 (.t 2), none, false⟩, ⟨some 20, .load false 1 (.t 19), none, false⟩, ⟨some 21, .faddr 1 (.t 3), none, false⟩, ⟨some 22, .load false 1 (.t 21), none, false⟩, ⟨some 23, .bin .lss (.t 20) (.t 22), none, false⟩] [2, 3, 23]) (.cond (.t 23) (.seq (.reg [⟨some 4, .mov (.c (.int .i64 (-1))), none, false⟩] [4]) .ret) .skip)) (.seq (.reg [⟨some 24, .faddr 1 (.t 2), none, false⟩, ⟨some 25, .load false 1 (.t 24), none, false⟩, ⟨some 26, .faddr 1 (.t 3), none, false⟩, ⟨some 27, .load false 1 (.t 26), none, false⟩, ⟨some 28, .bin .gtr (.t 25) (.t 27), none, false⟩] [28]) (.cond (.t 28) (.seq (.reg [⟨some 4, .mov (.c (.int .i64 1)), none, false⟩] [4]) .ret) .skip))) (.seq (.reg [⟨some 30, .bin .eql (.t 16) (.c (.int .i64 2)), none, false⟩, ⟨some 29, .mov (.t 30), none, false⟩] [2, 3, 16, 29]) (.cond (.t 29) (.seq (.reg [⟨some 31, .faddr 2 (.t 2), none, false⟩, ⟨some 32, .load false 1 (.t 31), none, false⟩, ⟨some 33, .faddr 2 (.t 3), none, false⟩, ⟨some 34, .load false 1 (.t 33), none, false⟩, ⟨some 35, .call (.c (.func 72 [] [])) [.t 32, .t 34], none, false⟩, ⟨some 4, .mov (.t 35), none, false⟩] [4]) .ret) (.seq (.reg [⟨some 37, .bin .eql (.t 16) (.c (.int .i64 3)), none, false⟩, ⟨some 36, .mov (.t 37), none, false⟩] [2, 3, 36]) (.cond (.t 36) (.seq (.seq (.reg [⟨some 38, .faddr 3 (.t 2), none, false⟩, ⟨some 39, .load false 1 (.t 38), none, false⟩, ⟨some 40, .un .not (.t 39), none, false⟩, ⟨some 41, .mov (.t 40), none, false⟩, ⟨some 42, .faddr 3 (.t 3), some (41, true), false⟩, ⟨some 43, .load false 1 (.t 42), some (41, true), false⟩, ⟨some 44, .pick (.t 41) (.t 43) (.c (.bool false)), none, false⟩] [2, 3, 44]) (.cond (.t 44) (.seq (.reg [⟨some 4, .mov (.c (.int .i64 (-1))), none, false⟩] [4]) .ret) .skip)) (.seq (.reg [⟨some 45, .faddr 3 (.t 2), none, false⟩, ⟨some 46, .load false 1 (.t 45), none, false⟩, ⟨some 47, .mov (.t 46), none, false⟩, ⟨some 48, .faddr 3 (.t 3), some (47, true), false⟩, ⟨some 49, .load false 1 (.t 48), some (47, true), false⟩, ⟨some 50, .un .not (.t 49), some (47, true), false⟩, ⟨some 51, .pick (.t 47) (.t 50) (.c (.bool false)), none, false⟩] [51]) (.cond (.t 51) (.seq (.reg [⟨some 4, .mov (.c (.int .i64 1)), none, false⟩] [4]) .ret) .skip))) .skip)))))))) (.seq (.reg [⟨some 4, .mov (.c (.int .i64 0)), none, false⟩] [4]) .ret))))
def x57 : XF := ⟨2, b57, [.t 4]⟩
def h57 : Hints := fun id => match id with
  | 0 => [2, 3]
  | 1 => [2, 3, 9]
  | 2 => [4]
  | 3 => [2, 3, 14]
  | 4 => [4]
  | 5 => [2, 3, 16]
  | 6 => [2, 3, 16, 17]
  | 7 => [2, 3, 23]
  | 8 => [4]
  | 9 => [28]
  | 10 => [4]
  | 11 => [2, 3, 16, 29]
  | 12 => [4]
  | 13 => [2, 3, 36]
  | 14 => [2, 3, 44]
  | 15 => [4]
  | 16 => [51]
  | 17 => [4]
  | 18 => [4]
  | _ => []
theorem cv57 : cvF Tryd.prog h57 Tryd.f57 = some x57 := by kernel_rfl

/-- winnower/filter.sets$1 -/
def b60 : XC := .seq (.reg [⟨some 3, .mov (.c (.bool false)), none, false⟩] [0, 1]) (.seq (.reg [⟨some 4, .mov (.t 0), none, false⟩, ⟨some 5, .bin .geq (.t 4) (.c (.int .i64 0)), none, false⟩, ⟨some 6, .mov (.t 5), none, false⟩, ⟨some 7, .mov (.t 0), some (6, true), false⟩, ⟨some 8, .load false 1 (.t 1), some (6, true), false⟩, ⟨some 9, .len 1 (.t 8), some (6, true), false⟩, ⟨some 10, .bin .lss (.t 7) (.t 9), some (6, true), false⟩, ⟨some 11, .pick (.t 6) (.t 10) (.c (.bool false)), none, false⟩, ⟨some 3, .mov (.t 11), none, false⟩] [3]) .ret)
def x60 : XF := ⟨2, b60, [.t 3]⟩
def h60 : Hints := fun id => match id with
  | 0 => [0, 1]
  | 1 => [3]
  | _ => []
theorem cv60 : cvF Tryd.prog h60 Tryd.f60 = some x60 := by kernel_rfl

/-- winnower/filter.one -/
def b61 : XC := .seq (.reg [⟨some 2, .box 41 (.t 0), none, false⟩, ⟨some 3, .box 39 (.t 1), none, false⟩, ⟨some 4, .mov (.c (.bool false)), none, false⟩] [2, 3]) (.seq (.seq (.reg [⟨some 6, .faddr 0 (.t 2), none, false⟩, ⟨some 7, .load false 1 (.t 6), none, false⟩, ⟨some 8, .bin .eql (.t 7) (.c (.int .i64 7)), none, false⟩, ⟨some 9, .mov (.t 8), none, false⟩, ⟨some 10, .faddr 0 (.t 3), some (9, false), false⟩, ⟨some 11, .load false 1 (.t 10), some (9, false), false⟩, ⟨some 12, .bin .eql (.t 11) (.c (.int .i64 0)), some (9, false), false⟩, ⟨some 13, .pick (.t 9) (.c (.bool true)) (.t 12), none, false⟩] [2, 3, 13]) (.cond (.t 13) (.seq (.reg [⟨some 14, .faddr 0 (.t 2), none, false⟩, ⟨some 15, .load false 1 (.t 14), none, false⟩, ⟨some 16, .bin .eql (.t 15) (.c (.int .i64 7)), none, false⟩, ⟨some 17, .mov (.t 16), none, false⟩, ⟨some 18, .faddr 0 (.t 3), some (17, true), false⟩, ⟨some 19, .load false 1 (.t 18), some (17, true), false⟩, ⟨some 20, .bin .eql (.t 19) (.c (.int .i64 0)), some (17, true), false⟩, ⟨some 21, .pick (.t 17) (.t 20) (.c (.bool false)), none, false⟩, ⟨some 4, .mov (.t 21), none, false⟩] [4]) .ret) .skip)) (.seq (.reg [⟨some 22, .load true 4 (.t 3), none, false⟩, ⟨some 23, .faddr 2 (.t 2), none, false⟩, ⟨some 24, .load true 4 (.t 23), none, false⟩, ⟨some 25, .call (.c (.func 73 [] [])) [.t 22, .t 24], none, false⟩, ⟨some 5, .mov (.t 25), none, false⟩] [2, 5]) (.seq (.seq (.reg [⟨some 26, .faddr 0 (.t 2), none, false⟩, ⟨some 27, .load false 1 (.t 26), none, false⟩] [5, 27]) (.block 0 (.seq (.reg [⟨some 29, .bin .eql (.t 27) (.c (.int .i64 1)), none, false⟩, ⟨some 28, .mov (.t 29), none, false⟩] [5, 27, 28]) (.cond (.t 28) (.seq (.reg [⟨some 30, .mov (.t 5), none, false⟩, ⟨some 31, .bin .eql (.t 30) (.c (.int .i64 0)), none, false⟩, ⟨some 4, .mov (.t 31), none, false⟩] [4]) .ret) (.seq (.reg [⟨some 33, .bin .eql (.t 27) (.c (.int .i64 2)), none, false⟩, ⟨some 32, .mov (.t 33), none, false⟩] [5, 27, 32]) (.cond (.t 32) (.seq (.reg [⟨some 34, .mov (.t 5), none, false⟩, ⟨some 35, .bin .neq (.t 34) (.c (.int .i64 0)), none, false⟩, ⟨some 4, .mov (.t 35), none, false⟩] [4]) .ret) (.seq (.reg [⟨some 37, .bin .eql (.t 27) (.c (.int .i64 3)), none, false⟩, ⟨some 36, .mov (.t 37), none, false⟩] [5, 27, 36]) (.cond (.t 36) (.seq (.reg [⟨some 38, .mov (.t 5), none, false⟩, ⟨some 39, .bin .lss (.t 38) (.c (.int .i64 0)), none, false⟩, ⟨some 4, .mov (.t 39), none, false⟩] [4]) .ret) (.seq (.reg [⟨some 41, .bin .eql (.t 27) (.c (.int .i64 4)), none, false⟩, ⟨some 40, .mov (.t 41), none, false⟩] [5, 27, 40]) (.cond (.t 40) (.seq (.reg [⟨some 42, .mov (.t 5), none, false⟩, ⟨some 43, .bin .leq (.t 42) (.c (.int .i64 0)), none, false⟩, ⟨some 4, .mov (.t 43), none, false⟩] [4]) .ret) (.seq (.reg [⟨some 45, .bin .eql (.t 27) (.c (.int .i64 5)), none, false⟩, ⟨some 44, .mov (.t 45), none, false⟩] [5, 27, 44]) (.cond (.t 44) (.seq (.reg [⟨some 46, .mov (.t 5), none, false⟩, ⟨some 47, .bin .gtr (.t 46) (.c (.int .i64 0)), none, false⟩, ⟨some 4, .mov (.t 47), none, false⟩] [4]) .ret) (.seq (.reg [⟨some 49, .bin .eql (.t 27) (.c (.int .i64 6)), none, false⟩, ⟨some 48, .mov (.t 49), none, false⟩] [5, 48]) (.cond (.t 48) (.seq (.reg [⟨some 50, .mov (.t 5), none, false⟩, ⟨some 51, .bin .geq (.t 50) (.c (.int .i64 0)), none, false⟩, ⟨some 4, .mov (.t 51), none, false⟩] [4]) .ret) .skip)))))))))))))) (.seq (.reg [⟨some 4, .mov (.c (.bool false)), none, false⟩] [4]) .ret))))
def x61 : XF := ⟨2, b61, [.t 4]⟩
def h61 : Hints := fun id => match id with
  | 0 => [2, 3]
  | 1 => [2, 3, 13]
  | 2 => [4]
  | 3 => [2, 5]
  | 4 => [5, 27]
  | 5 => [5, 27, 28]
  | 6 => [4]
  | 7 => [5, 27, 32]
  | 8 => [4]
  | 9 => [5, 27, 36]
  | 10 => [4]
  | 11 => [5, 27, 40]
  | 12 => [4]
  | 13 => [5, 27, 44]
  | 14 => [4]
  | 15 => [5, 48]
  | 16 => [4]
  | 17 => [4]
  | _ => []
theorem cv61 : cvF Tryd.prog h61 Tryd.f61 = some x61 := by kernel_rfl

/-- winnower/bitset.Upto$1 -/
def b62 : XC := .seq (.reg [⟨some 3, .mov (.c (.int .u64 0)), none, false⟩] [0, 1]) (.seq (.seq (.reg [⟨some 4, .load false 1 (.t 1), none, false⟩, ⟨some 5, .mov (.t 0), none, false⟩, ⟨some 6, .bin .mul (.t 5) (.c (.int .i64 64)), none, false⟩, ⟨some 7, .bin .sub (.t 4) (.t 6), none, false⟩, ⟨some 8, .bin .geq (.t 7) (.c (.int .i64 64)), none, false⟩] [0, 1, 8]) (.cond (.t 8) (.seq (.reg [⟨some 3, .mov (.c (.int .u64 18446744073709551615)), none, false⟩] [3]) .ret) .skip)) (.seq (.reg [⟨some 9, .load false 1 (.t 1), none, false⟩, ⟨some 10, .mov (.t 0), none, false⟩, ⟨some 11, .bin .mul (.t 10) (.c (.int .i64 64)), none, false⟩, ⟨some 12, .bin .sub (.t 9) (.t 11), none, false⟩, ⟨some 13, .bin .shl (.c (.int .u64 1)) (.t 12), none, false⟩, ⟨some 14, .bin .sub (.t 13) (.c (.int .u64 1)), none, false⟩, ⟨some 3, .mov (.t 14), none, false⟩] [3]) .ret))
def x62 : XF := ⟨2, b62, [.t 3]⟩
def h62 : Hints := fun id => match id with
  | 0 => [0, 1]
  | 1 => [0, 1, 8]
  | 2 => [3]
  | 3 => [3]
  | _ => []
theorem cv62 : cvF Tryd.prog h62 Tryd.f62 = some x62 := by kernel_rfl

/-- winnower/winnowerref06.text -/
def b72 : XC := .seq (.reg [⟨some 4, .mov (.c (.int .i64 0)), none, false⟩] [0, 1]) (.seq (.seq (.reg [⟨some 5, .mov (.c (.int .i64 0)), none, false⟩] [0, 1, 5]) (.block 0 (.loop (.seq (.seq (.reg [⟨some 6, .mov (.t 5), none, false⟩, ⟨some 7, .mov (.t 0), none, false⟩, ⟨some 8, .lens (.t 7), none, false⟩, ⟨some 9, .bin .lss (.t 6) (.t 8), none, false⟩, ⟨some 10, .mov (.t 9), none, false⟩, ⟨some 11, .mov (.t 5), some (10, true), false⟩, ⟨some 12, .mov (.t 1), some (10, true), false⟩, ⟨some 13, .lens (.t 12), some (10, true), false⟩, ⟨some 14, .bin .lss (.t 11) (.t 13), some (10, true), false⟩, ⟨some 15, .pick (.t 10) (.t 14) (.c (.bool false)), none, false⟩] [0, 1, 5, 15]) (.cond (.t 15) .skip (.exit 0))) (.seq (.block 1 (.seq (.seq (.reg [⟨some 18, .mov (.t 0), none, false⟩, ⟨some 19, .mov (.t 5), none, false⟩, ⟨some 20, .idxs (.t 18) (.t 19), none, false⟩, ⟨some 21, .mov (.t 1), none, false⟩, ⟨some 22, .mov (.t 5), none, false⟩, ⟨some 23, .idxs (.t 21) (.t 22), none, false⟩, ⟨some 24, .bin .lss (.t 20) (.t 23), none, false⟩] [0, 1, 5, 24]) (.cond (.t 24) (.seq (.reg [⟨some 4, .mov (.c (.int .i64 (-1))), none, false⟩] [4]) .ret) .skip)) (.seq (.reg [⟨some 25, .mov (.t 0), none, false⟩, ⟨some 26, .mov (.t 5), none, false⟩, ⟨some 27, .idxs (.t 25) (.t 26), none, false⟩, ⟨some 28, .mov (.t 1), none, false⟩, ⟨some 29, .mov (.t 5), none, false⟩, ⟨some 30, .idxs (.t 28) (.t 29), none, false⟩, ⟨some 31, .bin .gtr (.t 27) (.t 30), none, false⟩] [0, 1, 5, 31]) (.cond (.t 31) (.seq (.reg [⟨some 4, .mov (.c (.int .i64 1)), none, false⟩] [4]) .ret) .skip)))) (.reg [⟨some 16, .mov (.t 5), none, false⟩, ⟨some 17, .bin .add (.t 16) (.c (.int .i64 1)), none, false⟩, ⟨some 5, .mov (.t 17), none, false⟩] [0, 1, 5])))))) (.seq (.seq (.reg [⟨some 32, .mov (.t 0), none, false⟩, ⟨some 33, .lens (.t 32), none, false⟩, ⟨some 34, .mov (.t 1), none, false⟩, ⟨some 35, .lens (.t 34), none, false⟩, ⟨some 36, .bin .lss (.t 33) (.t 35), none, false⟩] [0, 1, 36]) (.cond (.t 36) (.seq (.reg [⟨some 4, .mov (.c (.int .i64 (-1))), none, false⟩] [4]) .ret) .skip)) (.seq (.seq (.reg [⟨some 37, .mov (.t 0), none, false⟩, ⟨some 38, .lens (.t 37), none, false⟩, ⟨some 39, .mov (.t 1), none, false⟩, ⟨some 40, .lens (.t 39), none, false⟩, ⟨some 41, .bin .gtr (.t 38) (.t 40), none, false⟩] [41]) (.cond (.t 41) (.seq (.reg [⟨some 4, .mov (.c (.int .i64 1)), none, false⟩] [4]) .ret) .skip)) (.seq (.reg [⟨some 4, .mov (.c (.int .i64 0)), none, false⟩] [4]) .ret))))
def lp72_0 : XC := .seq (.seq (.reg [⟨some 6, .mov (.t 5), none, false⟩, ⟨some 7, .mov (.t 0), none, false⟩, ⟨some 8, .lens (.t 7), none, false⟩, ⟨some 9, .bin .lss (.t 6) (.t 8), none, false⟩, ⟨some 10, .mov (.t 9), none, false⟩, ⟨some 11, .mov (.t 5), some (10, true), false⟩, ⟨some 12, .mov (.t 1), some (10, true), false⟩, ⟨some 13, .lens (.t 12), some (10, true), false⟩, ⟨some 14, .bin .lss (.t 11) (.t 13), some (10, true), false⟩, ⟨some 15, .pick (.t 10) (.t 14) (.c (.bool false)), none, false⟩] [0, 1, 5, 15]) (.cond (.t 15) .skip (.exit 0))) (.seq (.block 1 (.seq (.seq (.reg [⟨some 18, .mov (.t 0), none, false⟩, ⟨some 19, .mov (.t 5), none, false⟩, ⟨some 20, .idxs (.t 18) (.t 19), none, false⟩, ⟨some 21, .mov (.t 1), none, false⟩, ⟨some 22, .mov (.t 5), none, false⟩, ⟨some 23, .idxs (.t 21) (.t 22), none, false⟩, ⟨some 24, .bin .lss (.t 20) (.t 23), none, false⟩] [0, 1, 5, 24]) (.cond (.t 24) (.seq (.reg [⟨some 4, .mov (.c (.int .i64 (-1))), none, false⟩] [4]) .ret) .skip)) (.seq (.reg [⟨some 25, .mov (.t 0), none, false⟩, ⟨some 26, .mov (.t 5), none, false⟩, ⟨some 27, .idxs (.t 25) (.t 26), none, false⟩, ⟨some 28, .mov (.t 1), none, false⟩, ⟨some 29, .mov (.t 5), none, false⟩, ⟨some 30, .idxs (.t 28) (.t 29), none, false⟩, ⟨some 31, .bin .gtr (.t 27) (.t 30), none, false⟩] [0, 1, 5, 31]) (.cond (.t 31) (.seq (.reg [⟨some 4, .mov (.c (.int .i64 1)), none, false⟩] [4]) .ret) .skip)))) (.reg [⟨some 16, .mov (.t 5), none, false⟩, ⟨some 17, .bin .add (.t 16) (.c (.int .i64 1)), none, false⟩, ⟨some 5, .mov (.t 17), none, false⟩] [0, 1, 5]))
def x72 : XF := ⟨2, b72, [.t 4]⟩
def h72 : Hints := fun id => match id with
  | 0 => [0, 1]
  | 1 => [0, 1, 5]
  | 2 => [0, 1, 5, 15]
  | 3 => [0, 1, 5]
  | 4 => [0, 1, 5, 24]
  | 5 => [4]
  | 6 => [0, 1, 5, 31]
  | 7 => [4]
  | 8 => [0, 1, 36]
  | 9 => [4]
  | 10 => [41]
  | 11 => [4]
  | 12 => [4]
  | _ => []
theorem cv72 : cvF Tryd.prog h72 Tryd.f72 = some x72 := by kernel_rfl

/-- winnower/value.Order -/
def b73 : XC := .seq (.reg [⟨some 2, .box 39 (.t 0), none, false⟩, ⟨some 3, .box 39 (.t 1), none, false⟩, ⟨some 4, .mov (.c (.int .i64 0)), none, false⟩] [2, 3]) (.seq (.block 0 (.seq (.reg [⟨some 6, .faddr 0 (.t 2), none, false⟩, ⟨some 7, .load false 1 (.t 6), none, false⟩, ⟨some 8, .faddr 0 (.t 3), none, false⟩, ⟨some 9, .load false 1 (.t 8), none, false⟩, ⟨some 10, .bin .neq (.t 7) (.t 9), none, false⟩, ⟨some 5, .mov (.t 10), none, false⟩] [2, 3, 5]) (.cond (.t 5) (.seq (.reg [⟨some 11, .faddr 0 (.t 2), none, false⟩, ⟨some 12, .load false 1 (.t 11), none, false⟩, ⟨some 13, .faddr 0 (.t 3), none, false⟩, ⟨some 14, .load false 1 (.t 13), none, false⟩, ⟨some 15, .call (.c (.func 78 [] [])) [.t 12, .t 14], none, false⟩, ⟨some 4, .mov (.t 15), none, false⟩] [4]) .ret) (.seq (.reg [⟨some 17, .faddr 0 (.t 2), none, false⟩, ⟨some 18, .load false 1 (.t 17), none, false⟩, ⟨some 19, .bin .eql (.t 18) (.c (.int .i64 1)), none, false⟩, ⟨some 16, .mov (.t 19), none, false⟩] [2, 3, 16]) (.cond (.t 16) (.seq (.reg [⟨some 20, .faddr 1 (.t 2), none, false⟩, ⟨some 21, .load false 1 (.t 20), none, false⟩, ⟨some 22, .faddr 1 (.t 3), none, false⟩, ⟨some 23, .load false 1 (.t 22), none, false⟩, ⟨some 24, .call (.c (.func 78 [] [])) [.t 21, .t 23], none, false⟩, ⟨some 4, .mov (.t 24), none, false⟩] [4]) .ret) (.seq (.reg [⟨some 26, .faddr 0 (.t 2), none, false⟩, ⟨some 27, .load false 1 (.t 26), none, false⟩, ⟨some 28, .bin .eql (.t 27) (.c (.int .i64 2)), none, false⟩, ⟨some 25, .mov (.t 28), none, false⟩] [2, 3, 25]) (.cond (.t 25) (.seq (.reg [⟨some 29, .faddr 2 (.t 2), none, false⟩, ⟨some 30, .load false 1 (.t 29), none, false⟩, ⟨some 31, .faddr 2 (.t 3), none, false⟩, ⟨some 32, .load false 1 (.t 31), none, false⟩, ⟨some 33, .call (.c (.func 79 [] [])) [.t 30, .t 32], none, false⟩, ⟨some 4, .mov (.t 33), none, false⟩] [4]) .ret) (.seq (.reg [⟨some 35, .faddr 0 (.t 2), none, false⟩, ⟨some 36, .load false 1 (.t 35), none, false⟩, ⟨some 37, .bin .eql (.t 36) (.c (.int .i64 3)), none, false⟩, ⟨some 34, .mov (.t 37), none, false⟩] [2, 3, 34]) (.cond (.t 34) (.seq (.reg [⟨some 38, .faddr 3 (.t 2), none, false⟩, ⟨some 39, .load false 1 (.t 38), none, false⟩, ⟨some 40, .call (.c (.func 80 [] [])) [.t 39], none, true⟩, ⟨some 41, .faddr 3 (.t 3), none, false⟩, ⟨some 42, .load false 1 (.t 41), none, false⟩, ⟨some 43, .call (.c (.func 80 [] [])) [.t 42], none, false⟩, ⟨some 44, .call (.c (.func 78 [] [])) [.t 40, .t 43], none, false⟩, ⟨some 4, .mov (.t 44), none, false⟩] [4]) .ret) .skip))))))))) (.seq (.reg [⟨some 4, .mov (.c (.int .i64 0)), none, false⟩] [4]) .ret))
def x73 : XF := ⟨2, b73, [.t 4]⟩
def h73 : Hints := fun id => match id with
  | 0 => [2, 3]
  | 1 => [2, 3, 5]
  | 2 => [4]
  | 3 => [2, 3, 16]
  | 4 => [4]
  | 5 => [2, 3, 25]
  | 6 => [4]
  | 7 => [2, 3, 34]
  | 8 => [4]
  | 9 => [4]
  | _ => []
theorem cv73 : cvF Tryd.prog h73 Tryd.f73 = some x73 := by kernel_rfl

/-- cmp.Compare[int] -/
def b78 : XC := .seq (.reg [⟨some 4, .mov (.c (.int .i64 0)), none, false⟩] [0, 1]) (.seq (.reg [⟨some 7, .mov (.t 0), none, false⟩, ⟨some 8, .call (.c (.func 88 [] [])) [.t 7], none, false⟩, ⟨some 5, .mov (.t 8), none, false⟩] [0, 1, 5]) (.seq (.reg [⟨some 9, .mov (.t 1), none, false⟩, ⟨some 10, .call (.c (.func 88 [] [])) [.t 9], none, false⟩, ⟨some 6, .mov (.t 10), none, false⟩] [0, 1, 5, 6]) (.seq (.seq (.reg [⟨some 11, .mov (.t 5), none, false⟩] [0, 1, 6, 11]) (.cond (.t 11) (.seq (.seq (.reg [⟨some 12, .mov (.t 6), none, false⟩] [12]) (.cond (.t 12) (.seq (.reg [⟨some 4, .mov (.c (.int .i64 0)), none, false⟩] [4]) .ret) .skip)) (.seq (.reg [⟨some 4, .mov (.c (.int .i64 (-1))), none, false⟩] [4]) .ret)) .skip)) (.seq (.seq (.reg [⟨some 13, .mov (.t 6), none, false⟩] [0, 1, 13]) (.cond (.t 13) (.seq (.reg [⟨some 4, .mov (.c (.int .i64 1)), none, false⟩] [4]) .ret) .skip)) (.seq (.seq (.reg [⟨some 14, .mov (.t 0), none, false⟩, ⟨some 15, .mov (.t 1), none, false⟩, ⟨some 16, .bin .lss (.t 14) (.t 15), none, false⟩] [0, 1, 16]) (.cond (.t 16) (.seq (.reg [⟨some 4, .mov (.c (.int .i64 (-1))), none, false⟩] [4]) .ret) .skip)) (.seq (.seq (.reg [⟨some 17, .mov (.t 0), none, false⟩, ⟨some 18, .mov (.t 1), none, false⟩, ⟨some 19, .bin .gtr (.t 17) (.t 18), none, false⟩] [19]) (.cond (.t 19) (.seq (.reg [⟨some 4, .mov (.c (.int .i64 1)), none, false⟩] [4]) .ret) .skip)) (.seq (.reg [⟨some 4, .mov (.c (.int .i64 0)), none, false⟩] [4]) .ret)))))))
def x78 : XF := ⟨2, b78, [.t 4]⟩
def h78 : Hints := fun id => match id with
  | 0 => [0, 1]
  | 1 => [0, 1, 5]
  | 2 => [0, 1, 5, 6]
  | 3 => [0, 1, 6, 11]
  | 4 => [12]
  | 5 => [4]
  | 6 => [4]
  | 7 => [0, 1, 13]
  | 8 => [4]
  | 9 => [0, 1, 16]
  | 10 => [4]
  | 11 => [19]
  | 12 => [4]
  | 13 => [4]
  | _ => []
theorem cv78 : cvF Tryd.prog h78 Tryd.f78 = some x78 := by kernel_rfl

/-- cmp.Compare[string] -/
def b79 : XC := .seq (.reg [⟨some 4, .mov (.c (.int .i64 0)), none, false⟩] [0, 1]) (.seq (.reg [⟨some 7, .mov (.t 0), none, false⟩, ⟨some 8, .call (.c (.func 89 [] [])) [.t 7], none, false⟩, ⟨some 5, .mov (.t 8), none, false⟩] [0, 1, 5]) (.seq (.reg [⟨some 9, .mov (.t 1), none, false⟩, ⟨some 10, .call (.c (.func 89 [] [])) [.t 9], none, false⟩, ⟨some 6, .mov (.t 10), none, false⟩] [0, 1, 5, 6]) (.seq (.seq (.reg [⟨some 11, .mov (.t 5), none, false⟩] [0, 1, 6, 11]) (.cond (.t 11) (.seq (.seq (.reg [⟨some 12, .mov (.t 6), none, false⟩] [12]) (.cond (.t 12) (.seq (.reg [⟨some 4, .mov (.c (.int .i64 0)), none, false⟩] [4]) .ret) .skip)) (.seq (.reg [⟨some 4, .mov (.c (.int .i64 (-1))), none, false⟩] [4]) .ret)) .skip)) (.seq (.seq (.reg [⟨some 13, .mov (.t 6), none, false⟩] [0, 1, 13]) (.cond (.t 13) (.seq (.reg [⟨some 4, .mov (.c (.int .i64 1)), none, false⟩] [4]) .ret) .skip)) (.seq (.seq (.reg [⟨some 14, .mov (.t 0), none, false⟩, ⟨some 15, .mov (.t 1), none, false⟩, ⟨some 16, .bin .lss (.t 14) (.t 15), none, false⟩] [0, 1, 16]) (.cond (.t 16) (.seq (.reg [⟨some 4, .mov (.c (.int .i64 (-1))), none, false⟩] [4]) .ret) .skip)) (.seq (.seq (.reg [⟨some 17, .mov (.t 0), none, false⟩, ⟨some 18, .mov (.t 1), none, false⟩, ⟨some 19, .bin .gtr (.t 17) (.t 18), none, false⟩] [19]) (.cond (.t 19) (.seq (.reg [⟨some 4, .mov (.c (.int .i64 1)), none, false⟩] [4]) .ret) .skip)) (.seq (.reg [⟨some 4, .mov (.c (.int .i64 0)), none, false⟩] [4]) .ret)))))))
def x79 : XF := ⟨2, b79, [.t 4]⟩
def h79 : Hints := fun id => match id with
  | 0 => [0, 1]
  | 1 => [0, 1, 5]
  | 2 => [0, 1, 5, 6]
  | 3 => [0, 1, 6, 11]
  | 4 => [12]
  | 5 => [4]
  | 6 => [4]
  | 7 => [0, 1, 13]
  | 8 => [4]
  | 9 => [0, 1, 16]
  | 10 => [4]
  | 11 => [19]
  | 12 => [4]
  | 13 => [4]
  | _ => []
theorem cv79 : cvF Tryd.prog h79 Tryd.f79 = some x79 := by kernel_rfl

/-- winnower/value.truth -/
def b80 : XC := .seq (.reg [⟨some 2, .mov (.c (.int .i64 0)), none, false⟩] [0]) (.seq (.seq (.reg [⟨some 3, .mov (.t 0), none, false⟩] [3]) (.cond (.t 3) (.seq (.reg [⟨some 2, .mov (.c (.int .i64 1)), none, false⟩] [2]) .ret) .skip)) (.seq (.reg [⟨some 2, .mov (.c (.int .i64 0)), none, false⟩] [2]) .ret))
def x80 : XF := ⟨1, b80, [.t 2]⟩
def h80 : Hints := fun id => match id with
  | 0 => [0]
  | 1 => [3]
  | 2 => [2]
  | 3 => [2]
  | _ => []
theorem cv80 : cvF Tryd.prog h80 Tryd.f80 = some x80 := by kernel_rfl

/-- cmp.isNaN[int] -/
def b88 : XC := .seq (.reg [⟨some 2, .mov (.c (.bool false)), none, false⟩] [0]) (.seq (.reg [⟨some 3, .mov (.t 0), none, false⟩, ⟨some 4, .mov (.t 0), none, false⟩, ⟨some 5, .bin .neq (.t 3) (.t 4), none, false⟩, ⟨some 2, .mov (.t 5), none, false⟩] [2]) .ret)
def x88 : XF := ⟨1, b88, [.t 2]⟩
def h88 : Hints := fun id => match id with
  | 0 => [0]
  | 1 => [2]
  | _ => []
theorem cv88 : cvF Tryd.prog h88 Tryd.f88 = some x88 := by kernel_rfl

/-- cmp.isNaN[string] -/
def b89 : XC := .seq (.reg [⟨some 2, .mov (.c (.bool false)), none, false⟩] [0]) (.seq (.reg [⟨some 3, .mov (.t 0), none, false⟩, ⟨some 4, .mov (.t 0), none, false⟩, ⟨some 5, .bin .neq (.t 3) (.t 4), none, false⟩, ⟨some 2, .mov (.t 5), none, false⟩] [2]) .ret)
def x89 : XF := ⟨1, b89, [.t 2]⟩
def h89 : Hints := fun id => match id with
  | 0 => [0]
  | 1 => [2]
  | _ => []
theorem cv89 : cvF Tryd.prog h89 Tryd.f89 = some x89 := by kernel_rfl

def X : Nat → Option XK := fun f => match f with
  | 15 => some (.ext gList)
  | 3 => some (.fn x3)
  | 4 => some (.fn x4)
  | 5 => some (.fn x5)
  | 6 => some (.fn x6)
  | 9 => some (.fn x9)
  | 10 => some (.fn x10)
  | 11 => some (.fn x11)
  | 12 => some (.fn x12)
  | 13 => some (.fn x13)
  | 14 => some (.fn x14)
  | 16 => some (.fn x16)
  | 17 => some (.fn x17)
  | 18 => some (.fn x18)
  | 19 => some (.fn x19)
  | 20 => some (.fn x20)
  | 21 => some (.fn x21)
  | 22 => some (.fn x22)
  | 23 => some (.fn x23)
  | 24 => some (.fn x24)
  | 30 => some (.fn x30)
  | 31 => some (.fn x31)
  | 32 => some (.fn x32)
  | 34 => some (.fn x34)
  | 35 => some (.fn x35)
  | 36 => some (.fn x36)
  | 37 => some (.fn x37)
  | 38 => some (.fn x38)
  | 39 => some (.fn x39)
  | 40 => some (.fn x40)
  | 41 => some (.fn x41)
  | 42 => some (.fn x42)
  | 43 => some (.fn x43)
  | 44 => some (.fn x44)
  | 57 => some (.fn x57)
  | 60 => some (.fn x60)
  | 61 => some (.fn x61)
  | 62 => some (.fn x62)
  | 72 => some (.fn x72)
  | 73 => some (.fn x73)
  | 78 => some (.fn x78)
  | 79 => some (.fn x79)
  | 80 => some (.fn x80)
  | 88 => some (.fn x88)
  | 89 => some (.fn x89)
  | _ => none
def hints : Nat → Hints := fun f => match f with
  | 3 => h3
  | 4 => h4
  | 5 => h5
  | 6 => h6
  | 9 => h9
  | 10 => h10
  | 11 => h11
  | 12 => h12
  | 13 => h13
  | 14 => h14
  | 16 => h16
  | 17 => h17
  | 18 => h18
  | 19 => h19
  | 20 => h20
  | 21 => h21
  | 22 => h22
  | 23 => h23
  | 24 => h24
  | 30 => h30
  | 31 => h31
  | 32 => h32
  | 34 => h34
  | 35 => h35
  | 36 => h36
  | 37 => h37
  | 38 => h38
  | 39 => h39
  | 40 => h40
  | 41 => h41
  | 42 => h42
  | 43 => h43
  | 44 => h44
  | 57 => h57
  | 60 => h60
  | 61 => h61
  | 62 => h62
  | 72 => h72
  | 73 => h73
  | 78 => h78
  | 79 => h79
  | 80 => h80
  | 88 => h88
  | 89 => h89
  | _ => fun _ => []
theorem sound : Sound Tryd.prog X hints where
  mixed := by kernel_rfl
  ext f g h := by unfold X at h; split at h <;> first | (injection h with h; injection h with h; subst h; exact listOk) | cases h
  fn f x h := by
    unfold X at h
    split at h
    · cases h
    · injection h with h; injection h with h; subst h; exact ⟨Tryd.f3, by kernel_rfl, cv3⟩
    · injection h with h; injection h with h; subst h; exact ⟨Tryd.f4, by kernel_rfl, cv4⟩
    · injection h with h; injection h with h; subst h; exact ⟨Tryd.f5, by kernel_rfl, cv5⟩
    · injection h with h; injection h with h; subst h; exact ⟨Tryd.f6, by kernel_rfl, cv6⟩
    · injection h with h; injection h with h; subst h; exact ⟨Tryd.f9, by kernel_rfl, cv9⟩
    · injection h with h; injection h with h; subst h; exact ⟨Tryd.f10, by kernel_rfl, cv10⟩
    · injection h with h; injection h with h; subst h; exact ⟨Tryd.f11, by kernel_rfl, cv11⟩
    · injection h with h; injection h with h; subst h; exact ⟨Tryd.f12, by kernel_rfl, cv12⟩
    · injection h with h; injection h with h; subst h; exact ⟨Tryd.f13, by kernel_rfl, cv13⟩
    · injection h with h; injection h with h; subst h; exact ⟨Tryd.f14, by kernel_rfl, cv14⟩
    · injection h with h; injection h with h; subst h; exact ⟨Tryd.f16, by kernel_rfl, cv16⟩
    · injection h with h; injection h with h; subst h; exact ⟨Tryd.f17, by kernel_rfl, cv17⟩
    · injection h with h; injection h with h; subst h; exact ⟨Tryd.f18, by kernel_rfl, cv18⟩
    · injection h with h; injection h with h; subst h; exact ⟨Tryd.f19, by kernel_rfl, cv19⟩
    · injection h with h; injection h with h; subst h; exact ⟨Tryd.f20, by kernel_rfl, cv20⟩
    · injection h with h; injection h with h; subst h; exact ⟨Tryd.f21, by kernel_rfl, cv21⟩
    · injection h with h; injection h with h; subst h; exact ⟨Tryd.f22, by kernel_rfl, cv22⟩
    · injection h with h; injection h with h; subst h; exact ⟨Tryd.f23, by kernel_rfl, cv23⟩
    · injection h with h; injection h with h; subst h; exact ⟨Tryd.f24, by kernel_rfl, cv24⟩
    · injection h with h; injection h with h; subst h; exact ⟨Tryd.f30, by kernel_rfl, cv30⟩
    · injection h with h; injection h with h; subst h; exact ⟨Tryd.f31, by kernel_rfl, cv31⟩
    · injection h with h; injection h with h; subst h; exact ⟨Tryd.f32, by kernel_rfl, cv32⟩
    · injection h with h; injection h with h; subst h; exact ⟨Tryd.f34, by kernel_rfl, cv34⟩
    · injection h with h; injection h with h; subst h; exact ⟨Tryd.f35, by kernel_rfl, cv35⟩
    · injection h with h; injection h with h; subst h; exact ⟨Tryd.f36, by kernel_rfl, cv36⟩
    · injection h with h; injection h with h; subst h; exact ⟨Tryd.f37, by kernel_rfl, cv37⟩
    · injection h with h; injection h with h; subst h; exact ⟨Tryd.f38, by kernel_rfl, cv38⟩
    · injection h with h; injection h with h; subst h; exact ⟨Tryd.f39, by kernel_rfl, cv39⟩
    · injection h with h; injection h with h; subst h; exact ⟨Tryd.f40, by kernel_rfl, cv40⟩
    · injection h with h; injection h with h; subst h; exact ⟨Tryd.f41, by kernel_rfl, cv41⟩
    · injection h with h; injection h with h; subst h; exact ⟨Tryd.f42, by kernel_rfl, cv42⟩
    · injection h with h; injection h with h; subst h; exact ⟨Tryd.f43, by kernel_rfl, cv43⟩
    · injection h with h; injection h with h; subst h; exact ⟨Tryd.f44, by kernel_rfl, cv44⟩
    · injection h with h; injection h with h; subst h; exact ⟨Tryd.f57, by kernel_rfl, cv57⟩
    · injection h with h; injection h with h; subst h; exact ⟨Tryd.f60, by kernel_rfl, cv60⟩
    · injection h with h; injection h with h; subst h; exact ⟨Tryd.f61, by kernel_rfl, cv61⟩
    · injection h with h; injection h with h; subst h; exact ⟨Tryd.f62, by kernel_rfl, cv62⟩
    · injection h with h; injection h with h; subst h; exact ⟨Tryd.f72, by kernel_rfl, cv72⟩
    · injection h with h; injection h with h; subst h; exact ⟨Tryd.f73, by kernel_rfl, cv73⟩
    · injection h with h; injection h with h; subst h; exact ⟨Tryd.f78, by kernel_rfl, cv78⟩
    · injection h with h; injection h with h; subst h; exact ⟨Tryd.f79, by kernel_rfl, cv79⟩
    · injection h with h; injection h with h; subst h; exact ⟨Tryd.f80, by kernel_rfl, cv80⟩
    · injection h with h; injection h with h; subst h; exact ⟨Tryd.f88, by kernel_rfl, cv88⟩
    · injection h with h; injection h with h; subst h; exact ⟨Tryd.f89, by kernel_rfl, cv89⟩
    · cases h
end Go.Proofs.YtfgnefnpfgdliaaDoor
