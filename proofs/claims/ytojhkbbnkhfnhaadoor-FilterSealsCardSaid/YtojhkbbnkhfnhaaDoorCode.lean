/- The program's functions, for the ideal machine. MADE BY gen.py. -/
import Derived.Test.YtojhkbbnkhfnhaaDoorChecked
import Derived.Test.YtojhkbbnkhfnhaaDoorEngL
import Derived.Test.YtojhkbbnkhfnhaaDoorList
namespace Go.Proofs.YtojhkbbnkhfnhaaDoor
set_option maxRecDepth 100000

/-- winnower/winnowerlaw17.FilterSeals -/
def b3 : XC := .seq (.reg [⟨some 3, .box 26 (.t 1), none, false⟩, ⟨some 4, .mov (.c (.bool false)), none, false⟩] [0, 3]) (.seq (.reg [⟨some 8, .call (.c (.func 6 [] [])) [], none, false⟩, ⟨some 5, .mov (.t 8), none, false⟩] [0, 3, 5]) (.seq (.reg [⟨some 9, .mov (.t 0), none, false⟩, ⟨some 10, .call (.c (.func 7 [] [])) [.t 9], none, false⟩, ⟨some 6, .mov (.t 10), none, false⟩] [0, 3, 5, 6]) (.seq (.reg [⟨some 11, .load true 6 (.t 3), none, false⟩, ⟨some 12, .call (.c (.func 8 [] [])) [.t 11], none, false⟩, ⟨some 7, .mov (.t 12), none, false⟩] [0, 3, 5, 6, 7]) (.seq (.seq (.reg [⟨some 13, .mov (.t 5), none, false⟩, ⟨some 14, .un .not (.t 13), none, false⟩, ⟨some 15, .mov (.t 14), none, false⟩, ⟨some 16, .mov (.t 6), some (15, false), false⟩, ⟨some 17, .un .not (.t 16), some (15, false), false⟩, ⟨some 18, .pick (.t 15) (.c (.bool true)) (.t 17), none, false⟩, ⟨some 19, .mov (.t 18), none, false⟩, ⟨some 20, .mov (.t 7), some (19, false), false⟩, ⟨some 21, .un .not (.t 20), some (19, false), false⟩, ⟨some 22, .pick (.t 19) (.c (.bool true)) (.t 21), none, false⟩] [0, 3, 5, 22]) (.cond (.t 22) (.seq (.reg [⟨some 23, .mov (.t 5), none, false⟩, ⟨some 4, .mov (.t 23), none, false⟩] [4]) .ret) .skip)) (.seq (.reg [⟨some 24, .mov (.t 0), none, false⟩, ⟨some 25, .load true 6 (.t 3), none, false⟩, ⟨some 26, .call (.c (.func 11 [] [])) [.t 24, .t 25], none, true⟩, ⟨some 27, .call (.c (.func 10 [] [])) [.t 26, .c (.int .i64 (-1))], none, true⟩, ⟨some 28, .mov (.t 0), none, false⟩, ⟨some 29, .load true 6 (.t 3), none, false⟩, ⟨some 30, .call (.c (.func 12 [] [])) [.t 28, .t 29], none, false⟩, ⟨some 31, .call (.c (.func 9 [] [])) [.t 27, .t 30], none, false⟩, ⟨some 4, .mov (.t 31), none, false⟩] [4]) .ret)))))
def x3 : XF := ⟨2, b3, [.t 4]⟩
def h3 : Yq := fun id => match id with
  | 0 => [0, 3]
  | 1 => [0, 3, 5]
  | 2 => [0, 3, 5, 6]
  | 3 => [0, 3, 5, 6, 7]
  | 4 => [0, 3, 5, 22]
  | 5 => [4]
  | 6 => [4]
  | _ => []
theorem cv3 : cvF Tryd.prog h3 Tryd.f3 = some x3 := by kernel_rfl

/-- winnower/winnowerlaw17.awake -/
def b6 : XC := .seq (.reg [⟨some 0, .mov (.c (.bool false)), none, false⟩] []) (.seq (.reg [⟨some 6, .call (.c (.func 31 [] [])) [.c (.int .i64 3)], none, false⟩, ⟨some 7, .mkslice true 48 4 [.t 6], none, false⟩, ⟨some 8, .build [.int .i64 0, .int .i64 0, .str ⟨#[]⟩, .bool false] [], none, false⟩, ⟨some 9, .mkslice true 48 4 [.t 8], none, false⟩, ⟨some 10, .call (.c (.func 31 [] [])) [.c (.int .i64 7)], none, false⟩, ⟨some 11, .mkslice true 48 4 [.t 10], none, false⟩, ⟨some 12, .mkslice true 38 1 [.t 7, .t 9, .t 11], none, false⟩, ⟨some 1, .mov (.t 12), none, false⟩] [1]) (.seq (.reg [⟨some 13, .call (.c (.func 31 [] [])) [.c (.int .i64 5)], none, false⟩, ⟨some 14, .build [.int .i64 0, .int .i64 0, .int .i64 0, .int .i64 0, .str ⟨#[]⟩, .bool false, .int .i64 0, .int .i64 0] [(0, (1, .c (.int .i64 5))), (2, (4, .t 13))], none, false⟩, ⟨some 15, .build [.int .i64 0, .int .i64 0, .int .i64 0, .int .i64 0, .str ⟨#[]⟩, .bool false, .int .i64 0, .int .i64 0] [(0, (1, .c (.int .i64 10)))], none, false⟩, ⟨some 16, .mkslice true 70 8 [.t 14, .t 15], none, false⟩, ⟨some 2, .mov (.t 16), none, false⟩] [1, 2]) (.seq (.reg [⟨some 17, .mov (.t 2), none, false⟩, ⟨some 18, .slc 8 (.t 17) none (some (.c (.int .i64 1))) none, none, false⟩, ⟨some 19, .mov (.t 1), none, false⟩, ⟨some 20, .call (.c (.func 32 [] [])) [.t 18, .t 19], none, false⟩, ⟨some 21, .call (.c (.func 10 [] [])) [.t 20, .c (.int .i64 (-1))], none, false⟩, ⟨some 22, .mkslice true 3 1 [.c (.int .i64 2)], none, false⟩, ⟨some 23, .call (.c (.func 9 [] [])) [.t 21, .t 22], none, false⟩, ⟨some 3, .mov (.t 23), none, false⟩] [1, 2, 3]) (.seq (.reg [⟨some 24, .mov (.t 2), none, false⟩, ⟨some 25, .mov (.t 1), none, false⟩, ⟨some 26, .call (.c (.func 32 [] [])) [.t 24, .t 25], none, false⟩, ⟨some 27, .call (.c (.func 10 [] [])) [.t 26, .c (.int .i64 (-1))], none, false⟩, ⟨some 28, .mkslice true 3 1 [.c (.int .i64 0), .c (.int .i64 1)], none, false⟩, ⟨some 29, .call (.c (.func 9 [] [])) [.t 27, .t 28], none, false⟩, ⟨some 4, .mov (.t 29), none, false⟩] [1, 3, 4]) (.seq (.reg [⟨some 30, .call (.c (.func 31 [] [])) [.c (.int .i64 3)], none, false⟩, ⟨some 31, .build [.int .i64 0, .int .i64 0, .int .i64 0, .int .i64 0, .str ⟨#[]⟩, .bool false, .int .i64 0, .int .i64 0] [(0, (1, .c (.int .i64 2))), (2, (4, .t 30))], none, false⟩, ⟨some 32, .mkslice true 70 8 [.t 31], none, false⟩, ⟨some 33, .mov (.t 1), none, false⟩, ⟨some 34, .call (.c (.func 32 [] [])) [.t 32, .t 33], none, false⟩, ⟨some 35, .call (.c (.func 10 [] [])) [.t 34, .c (.int .i64 (-1))], none, false⟩, ⟨some 36, .mkslice true 3 1 [.c (.int .i64 2)], none, false⟩, ⟨some 37, .call (.c (.func 9 [] [])) [.t 35, .t 36], none, false⟩, ⟨some 5, .mov (.t 37), none, false⟩] [3, 4, 5]) (.seq (.reg [⟨some 38, .mov (.t 3), none, false⟩, ⟨some 39, .mov (.t 38), none, false⟩, ⟨some 40, .mov (.t 4), some (39, true), false⟩, ⟨some 41, .pick (.t 39) (.t 40) (.c (.bool false)), none, false⟩, ⟨some 42, .mov (.t 41), none, false⟩, ⟨some 43, .mov (.t 5), some (42, true), false⟩, ⟨some 44, .pick (.t 42) (.t 43) (.c (.bool false)), none, false⟩, ⟨some 45, .mov (.t 44), none, false⟩, ⟨some 46, .call (.c (.func 33 [] [])) [.c .nils, .c .nils], some (45, true), false⟩, ⟨some 47, .pick (.t 45) (.t 46) (.c (.bool false)), none, false⟩, ⟨some 0, .mov (.t 47), none, false⟩] [0]) .ret))))))
def x6 : XF := ⟨0, b6, [.t 0]⟩
def h6 : Yq := fun id => match id with
  | 1 => [1]
  | 2 => [1, 2]
  | 3 => [1, 2, 3]
  | 4 => [1, 3, 4]
  | 5 => [3, 4, 5]
  | 6 => [0]
  | _ => []
theorem cv6 : cvF Tryd.prog h6 Tryd.f6 = some x6 := by kernel_rfl

/-- winnower/winnowerref17.Few -/
def lp7_0 : XC := .seq (.seq (.reg [⟨some 7, .mov (.t 3), none, false⟩, ⟨some 8, .mov (.t 0), none, false⟩, ⟨some 9, .len 8 (.t 8), none, false⟩, ⟨some 10, .bin .lss (.t 7) (.t 9), none, false⟩] [0, 3, 10]) (.cond (.t 10) .skip (.exit 0))) (.seq (.block 1 (.seq (.reg [⟨some 13, .mov (.t 0), none, false⟩, ⟨some 14, .mov (.t 3), none, false⟩, ⟨some 15, .iaddr 8 (.t 13) (.t 14), none, false⟩, ⟨some 16, .faddr 2 (.t 15), none, false⟩, ⟨some 17, .faddr 2 (.t 16), none, false⟩, ⟨some 18, .load false 1 (.t 17), none, false⟩, ⟨some 19, .lens (.t 18), none, false⟩, ⟨some 20, .bin .gtr (.t 19) (.c (.int .i64 300)), none, false⟩] [0, 3, 20]) (.cond (.t 20) (.seq (.reg [⟨some 2, .mov (.c (.bool false)), none, false⟩] [2]) .ret) .skip))) (.reg [⟨some 11, .mov (.t 3), none, false⟩, ⟨some 12, .bin .add (.t 11) (.c (.int .i64 1)), none, false⟩, ⟨some 3, .mov (.t 12), none, false⟩] [0, 3]))
def b7 : XC := .seq (.reg [⟨some 2, .mov (.c (.bool false)), none, false⟩] [0]) (.seq (.seq (.reg [⟨some 4, .mov (.t 0), none, false⟩, ⟨some 5, .len 8 (.t 4), none, false⟩, ⟨some 6, .bin .gtr (.t 5) (.c (.int .i64 60)), none, false⟩] [0, 6]) (.cond (.t 6) (.seq (.reg [⟨some 2, .mov (.c (.bool false)), none, false⟩] [2]) .ret) .skip)) (.seq (.seq (.reg [⟨some 3, .mov (.c (.int .i64 0)), none, false⟩] [0, 3]) (.block 0 (.loop lp7_0))) (.seq (.reg [⟨some 2, .mov (.c (.bool true)), none, false⟩] [2]) .ret)))
def x7 : XF := ⟨1, b7, [.t 2]⟩
def h7 : Yq := fun id => match id with
  | 0 => [0]
  | 1 => [0, 6]
  | 2 => [2]
  | 3 => [0, 3]
  | 4 => [0, 3, 10]
  | 5 => [0, 3]
  | 6 => [0, 3, 20]
  | 7 => [2]
  | 8 => [2]
  | _ => []
theorem cv7 : cvF Tryd.prog h7 Tryd.f7 = some x7 := by kernel_rfl

/-- winnower/winnowerref12.Light -/
def lp8_0 : XC := .seq (.seq (.reg [⟨some 15, .mov (.t 3), none, false⟩, ⟨some 16, .faddr 5 (.t 1), none, false⟩, ⟨some 17, .load false 1 (.t 16), none, false⟩, ⟨some 18, .len 3 (.t 17), none, false⟩, ⟨some 19, .bin .lss (.t 15) (.t 18), none, false⟩] [1, 3, 19]) (.cond (.t 19) .skip (.exit 0))) (.seq (.block 1 (.seq (.reg [⟨some 22, .faddr 5 (.t 1), none, false⟩, ⟨some 23, .load false 1 (.t 22), none, false⟩, ⟨some 24, .mov (.t 3), none, false⟩, ⟨some 25, .iaddr 3 (.t 23) (.t 24), none, false⟩, ⟨some 26, .load true 3 (.t 25), none, false⟩, ⟨some 27, .call (.c (.func 14 [] [])) [.t 26], none, false⟩, ⟨some 4, .mov (.t 27), none, false⟩] [1, 3, 4]) (.seq (.reg [⟨some 28, .mov (.t 4), none, false⟩, ⟨some 29, .un .not (.t 28), none, false⟩] [1, 3, 29]) (.cond (.t 29) (.seq (.reg [⟨some 2, .mov (.c (.bool false)), none, false⟩] [2]) .ret) .skip)))) (.reg [⟨some 20, .mov (.t 3), none, false⟩, ⟨some 21, .bin .add (.t 20) (.c (.int .i64 1)), none, false⟩, ⟨some 3, .mov (.t 21), none, false⟩] [1, 3]))
def b8 : XC := .seq (.reg [⟨some 1, .box 26 (.t 0), none, false⟩, ⟨some 2, .mov (.c (.bool false)), none, false⟩] [1]) (.seq (.seq (.reg [⟨some 5, .faddr 4 (.t 1), none, false⟩, ⟨some 6, .load false 1 (.t 5), none, false⟩, ⟨some 7, .len 1 (.t 6), none, false⟩, ⟨some 8, .bin .gtr (.t 7) (.c (.int .i64 200)), none, false⟩, ⟨some 9, .mov (.t 8), none, false⟩, ⟨some 10, .faddr 5 (.t 1), some (9, false), false⟩, ⟨some 11, .load false 1 (.t 10), some (9, false), false⟩, ⟨some 12, .len 3 (.t 11), some (9, false), false⟩, ⟨some 13, .bin .gtr (.t 12) (.c (.int .i64 12)), some (9, false), false⟩, ⟨some 14, .pick (.t 9) (.c (.bool true)) (.t 13), none, false⟩] [1, 14]) (.cond (.t 14) (.seq (.reg [⟨some 2, .mov (.c (.bool false)), none, false⟩] [2]) .ret) .skip)) (.seq (.seq (.reg [⟨some 3, .mov (.c (.int .i64 0)), none, false⟩] [1, 3]) (.block 0 (.loop lp8_0))) (.seq (.reg [⟨some 2, .mov (.c (.bool true)), none, false⟩] [2]) .ret)))
def x8 : XF := ⟨1, b8, [.t 2]⟩
def h8 : Yq := fun id => match id with
  | 0 => [1]
  | 1 => [1, 14]
  | 2 => [2]
  | 3 => [1, 3]
  | 4 => [1, 3, 19]
  | 5 => [1, 3]
  | 6 => [1, 3, 4]
  | 7 => [1, 3, 29]
  | 8 => [2]
  | 9 => [2]
  | _ => []
theorem cv8 : cvF Tryd.prog h8 Tryd.f8 = some x8 := by kernel_rfl

/-- winnower/winnowerref01.Ints -/
def lp9_0 : XC := .seq (.seq (.reg [⟨some 11, .mov (.t 5), none, false⟩, ⟨some 12, .mov (.t 0), none, false⟩, ⟨some 13, .len 1 (.t 12), none, false⟩, ⟨some 14, .bin .lss (.t 11) (.t 13), none, false⟩] [0, 1, 5, 14]) (.cond (.t 14) .skip (.exit 0))) (.seq (.block 1 (.seq (.reg [⟨some 17, .mov (.t 0), none, false⟩, ⟨some 18, .mov (.t 5), none, false⟩, ⟨some 19, .iaddr 1 (.t 17) (.t 18), none, false⟩, ⟨some 20, .load false 1 (.t 19), none, false⟩, ⟨some 21, .mov (.t 1), none, false⟩, ⟨some 22, .mov (.t 5), none, false⟩, ⟨some 23, .iaddr 1 (.t 21) (.t 22), none, false⟩, ⟨some 24, .load false 1 (.t 23), none, false⟩, ⟨some 25, .bin .neq (.t 20) (.t 24), none, false⟩] [0, 1, 5, 25]) (.cond (.t 25) (.seq (.reg [⟨some 4, .mov (.c (.bool false)), none, false⟩] [4]) .ret) .skip))) (.reg [⟨some 15, .mov (.t 5), none, false⟩, ⟨some 16, .bin .add (.t 15) (.c (.int .i64 1)), none, false⟩, ⟨some 5, .mov (.t 16), none, false⟩] [0, 1, 5]))
def b9 : XC := .seq (.reg [⟨some 4, .mov (.c (.bool false)), none, false⟩] [0, 1]) (.seq (.seq (.reg [⟨some 6, .mov (.t 0), none, false⟩, ⟨some 7, .len 1 (.t 6), none, false⟩, ⟨some 8, .mov (.t 1), none, false⟩, ⟨some 9, .len 1 (.t 8), none, false⟩, ⟨some 10, .bin .neq (.t 7) (.t 9), none, false⟩] [0, 1, 10]) (.cond (.t 10) (.seq (.reg [⟨some 4, .mov (.c (.bool false)), none, false⟩] [4]) .ret) .skip)) (.seq (.seq (.reg [⟨some 5, .mov (.c (.int .i64 0)), none, false⟩] [0, 1, 5]) (.block 0 (.loop lp9_0))) (.seq (.reg [⟨some 4, .mov (.c (.bool true)), none, false⟩] [4]) .ret)))
def x9 : XF := ⟨2, b9, [.t 4]⟩
def h9 : Yq := fun id => match id with
  | 0 => [0, 1]
  | 1 => [0, 1, 10]
  | 2 => [4]
  | 3 => [0, 1, 5]
  | 4 => [0, 1, 5, 14]
  | 5 => [0, 1, 5]
  | 6 => [0, 1, 5, 25]
  | 7 => [4]
  | 8 => [4]
  | _ => []
theorem cv9 : cvF Tryd.prog h9 Tryd.f9 = some x9 := by kernel_rfl

/-- winnower/filter.Sealed -/
def b11 : XC := .seq (.reg [⟨some 3, .box 26 (.t 1), none, false⟩, ⟨some 4, .alloc 34 [.nils], none, false⟩] [0, 3, 4]) (.seq (.reg [⟨some 6, .faddr 4 (.t 3), none, false⟩, ⟨some 7, .load false 1 (.t 6), none, false⟩, ⟨some 8, .len 1 (.t 7), none, false⟩, ⟨some 5, .alloc 3 [.int .i64 0], none, false⟩, ⟨none, .store 1 (.t 5) (.t 8), none, false⟩] [0, 3, 4, 5]) (.seq (.seq (.reg [⟨some 9, .faddr 5 (.t 3), none, false⟩, ⟨some 10, .load false 1 (.t 9), none, false⟩, ⟨some 11, .mkfn 36 [] [.t 5], none, false⟩, ⟨some 12, .call (.c (.func 35 [] [])) [.t 10, .t 11], none, false⟩] [0, 3, 4, 5, 12]) (.cond (.t 12) (.seq (.reg [⟨some 13, .build [.nils] [], none, false⟩, ⟨none, .store 1 (.t 4) (.t 13), none, false⟩] [4]) .ret) .skip)) (.seq (.reg [⟨some 14, .mov (.t 0), none, false⟩, ⟨some 15, .load false 1 (.t 5), none, false⟩, ⟨some 16, .load true 6 (.t 3), none, false⟩, ⟨some 17, .mkfn 38 [.t 16] [], none, false⟩, ⟨some 18, .call (.c (.func 37 [] [])) [.t 14, .t 15, .t 17], none, false⟩, ⟨none, .store 1 (.t 4) (.t 18), none, false⟩] [4]) .ret)))
def x11 : XF := ⟨2, b11, [.cell 4 true 1]⟩
def h11 : Yq := fun id => match id with
  | 0 => [0, 3, 4]
  | 1 => [0, 3, 4, 5]
  | 2 => [0, 3, 4, 5, 12]
  | 3 => [4]
  | 4 => [4]
  | _ => []
theorem cv11 : cvF Tryd.prog h11 Tryd.f11 = some x11 := by kernel_rfl

/-- winnower/winnowerref17.Sealed -/
def lp12_0 : XC := .seq (.seq (.reg [⟨some 8, .mov (.t 5), none, false⟩, ⟨some 9, .faddr 5 (.t 3), none, false⟩, ⟨some 10, .load false 1 (.t 9), none, false⟩, ⟨some 11, .len 3 (.t 10), none, false⟩, ⟨some 12, .bin .lss (.t 8) (.t 11), none, false⟩] [0, 3, 5, 12]) (.cond (.t 12) .skip (.exit 0))) (.seq (.block 1 (.seq (.reg [⟨some 16, .faddr 5 (.t 3), none, false⟩, ⟨some 17, .load false 1 (.t 16), none, false⟩, ⟨some 18, .mov (.t 5), none, false⟩, ⟨some 19, .iaddr 3 (.t 17) (.t 18), none, false⟩, ⟨some 20, .load true 3 (.t 19), none, false⟩, ⟨some 21, .call (.c (.func 15 [] [])) [.t 20], none, false⟩, ⟨some 15, .mov (.t 21), none, false⟩, ⟨some 22, .ext (.t 15) 0, none, false⟩, ⟨some 23, .ext (.t 15) 1, none, false⟩, ⟨some 6, .mov (.t 22), none, false⟩, ⟨some 7, .mov (.t 23), none, false⟩] [0, 3, 5, 7]) (.seq (.reg [⟨some 24, .mov (.t 7), none, false⟩, ⟨some 25, .un .not (.t 24), none, false⟩, ⟨some 26, .mov (.t 25), none, false⟩, ⟨some 27, .faddr 5 (.t 3), some (26, false), false⟩, ⟨some 28, .load false 1 (.t 27), some (26, false), false⟩, ⟨some 29, .mov (.t 5), some (26, false), false⟩, ⟨some 30, .iaddr 3 (.t 28) (.t 29), some (26, false), false⟩, ⟨some 31, .faddr 0 (.t 30), some (26, false), false⟩, ⟨some 32, .load false 1 (.t 31), some (26, false), false⟩, ⟨some 33, .faddr 4 (.t 3), some (26, false), false⟩, ⟨some 34, .load false 1 (.t 33), some (26, false), false⟩, ⟨some 35, .len 1 (.t 34), some (26, false), false⟩, ⟨some 36, .bin .neq (.t 32) (.t 35), some (26, false), false⟩, ⟨some 37, .pick (.t 26) (.c (.bool true)) (.t 36), none, false⟩] [0, 3, 5, 37]) (.cond (.t 37) (.seq (.reg [⟨some 4, .mov (.c .nils), none, false⟩] [4]) .ret) .skip)))) (.reg [⟨some 13, .mov (.t 5), none, false⟩, ⟨some 14, .bin .add (.t 13) (.c (.int .i64 1)), none, false⟩, ⟨some 5, .mov (.t 14), none, false⟩] [0, 3, 5]))
def b12 : XC := .seq (.reg [⟨some 3, .box 26 (.t 1), none, false⟩, ⟨some 4, .mov (.c .nils), none, false⟩] [0, 3]) (.seq (.seq (.reg [⟨some 5, .mov (.c (.int .i64 0)), none, false⟩] [0, 3, 5]) (.block 0 (.loop lp12_0))) (.seq (.reg [⟨some 38, .mov (.t 0), none, false⟩, ⟨some 39, .load true 6 (.t 3), none, false⟩, ⟨some 40, .call (.c (.func 40 [] [])) [.t 39], none, false⟩, ⟨some 41, .call (.c (.func 39 [] [])) [.t 38, .t 40], none, false⟩, ⟨some 4, .mov (.t 41), none, false⟩] [4]) .ret))
def x12 : XF := ⟨2, b12, [.t 4]⟩
def h12 : Yq := fun id => match id with
  | 0 => [0, 3]
  | 1 => [0, 3, 5]
  | 2 => [0, 3, 5, 12]
  | 3 => [0, 3, 5]
  | 4 => [0, 3, 5, 7]
  | 5 => [0, 3, 5, 37]
  | 6 => [4]
  | 7 => [4]
  | _ => []
theorem cv12 : cvF Tryd.prog h12 Tryd.f12 = some x12 := by kernel_rfl

/-- winnower/winnowerref10.Light -/
def lp14_0 : XC := .seq (.seq (.reg [⟨some 14, .mov (.t 3), none, false⟩, ⟨some 15, .faddr 1 (.t 1), none, false⟩, ⟨some 16, .load false 1 (.t 15), none, false⟩, ⟨some 17, .len 4 (.t 16), none, false⟩, ⟨some 18, .bin .lss (.t 14) (.t 17), none, false⟩] [1, 3, 18]) (.cond (.t 18) .skip (.exit 0))) (.seq (.block 1 (.seq (.reg [⟨some 21, .faddr 1 (.t 1), none, false⟩, ⟨some 22, .load false 1 (.t 21), none, false⟩, ⟨some 23, .mov (.t 3), none, false⟩, ⟨some 24, .iaddr 4 (.t 22) (.t 23), none, false⟩, ⟨some 25, .faddr 2 (.t 24), none, false⟩, ⟨some 26, .load false 1 (.t 25), none, false⟩, ⟨some 27, .lens (.t 26), none, false⟩, ⟨some 28, .bin .gtr (.t 27) (.c (.int .i64 300)), none, false⟩] [1, 3, 28]) (.cond (.t 28) (.seq (.reg [⟨some 2, .mov (.c (.bool false)), none, false⟩] [2]) .ret) .skip))) (.reg [⟨some 19, .mov (.t 3), none, false⟩, ⟨some 20, .bin .add (.t 19) (.c (.int .i64 1)), none, false⟩, ⟨some 3, .mov (.t 20), none, false⟩] [1, 3]))
def b14 : XC := .seq (.reg [⟨some 1, .box 41 (.t 0), none, false⟩, ⟨some 2, .mov (.c (.bool false)), none, false⟩] [1]) (.seq (.seq (.reg [⟨some 4, .faddr 1 (.t 1), none, false⟩, ⟨some 5, .load false 1 (.t 4), none, false⟩, ⟨some 6, .len 4 (.t 5), none, false⟩, ⟨some 7, .bin .gtr (.t 6) (.c (.int .i64 200)), none, false⟩, ⟨some 8, .mov (.t 7), none, false⟩, ⟨some 9, .faddr 2 (.t 1), some (8, false), false⟩, ⟨some 10, .load false 1 (.t 9), some (8, false), false⟩, ⟨some 11, .len 1 (.t 10), some (8, false), false⟩, ⟨some 12, .bin .gtr (.t 11) (.c (.int .i64 200)), some (8, false), false⟩, ⟨some 13, .pick (.t 8) (.c (.bool true)) (.t 12), none, false⟩] [1, 13]) (.cond (.t 13) (.seq (.reg [⟨some 2, .mov (.c (.bool false)), none, false⟩] [2]) .ret) .skip)) (.seq (.seq (.reg [⟨some 3, .mov (.c (.int .i64 0)), none, false⟩] [1, 3]) (.block 0 (.loop lp14_0))) (.seq (.reg [⟨some 2, .mov (.c (.bool true)), none, false⟩] [2]) .ret)))
def x14 : XF := ⟨1, b14, [.t 2]⟩
def h14 : Yq := fun id => match id with
  | 0 => [1]
  | 1 => [1, 13]
  | 2 => [2]
  | 3 => [1, 3]
  | 4 => [1, 3, 18]
  | 5 => [1, 3]
  | 6 => [1, 3, 28]
  | 7 => [2]
  | 8 => [2]
  | _ => []
theorem cv14 : cvF Tryd.prog h14 Tryd.f14 = some x14 := by kernel_rfl

/-- winnower/winnowerref10.Ids -/
def lp15_0 : XC := .seq (.seq (.reg [⟨some 43, .mov (.t 8), none, false⟩, ⟨some 44, .mov (.t 5), none, false⟩, ⟨some 45, .len 1 (.t 44), none, false⟩, ⟨some 46, .bin .lss (.t 43) (.t 45), none, false⟩] [1, 5, 7, 8, 46]) (.cond (.t 46) .skip (.exit 0))) (.seq (.block 1 (.seq (.seq (.reg [⟨some 49, .mov (.t 5), none, false⟩, ⟨some 50, .mov (.t 8), none, false⟩, ⟨some 51, .iaddr 1 (.t 49) (.t 50), none, false⟩, ⟨some 52, .load false 1 (.t 51), none, false⟩, ⟨some 53, .faddr 1 (.t 1), none, false⟩, ⟨some 54, .load false 1 (.t 53), none, false⟩, ⟨some 55, .len 4 (.t 54), none, false⟩, ⟨some 56, .bin .geq (.t 52) (.t 55), none, false⟩] [1, 5, 7, 8, 56]) (.cond (.t 56) (.seq (.reg [⟨some 2, .mov (.c .nils), none, false⟩, ⟨some 3, .mov (.c (.bool false)), none, false⟩] [2, 3]) .ret) .skip)) (.reg [⟨some 57, .mov (.t 7), none, false⟩, ⟨some 58, .mov (.t 5), none, false⟩, ⟨some 59, .mov (.t 8), none, false⟩, ⟨some 60, .iaddr 1 (.t 58) (.t 59), none, false⟩, ⟨some 61, .load false 1 (.t 60), none, false⟩, ⟨some 62, .iaddr 1 (.t 57) (.t 61), none, false⟩, ⟨none, .store 1 (.t 62) (.c (.bool true)), none, false⟩] [1, 5, 7, 8]))) (.reg [⟨some 47, .mov (.t 8), none, false⟩, ⟨some 48, .bin .add (.t 47) (.c (.int .i64 1)), none, false⟩, ⟨some 8, .mov (.t 48), none, false⟩] [1, 5, 7, 8]))
def lp15_1 : XC := .seq (.seq (.reg [⟨some 63, .mov (.t 9), none, false⟩, ⟨some 64, .mov (.t 7), none, false⟩, ⟨some 65, .len 1 (.t 64), none, false⟩, ⟨some 66, .bin .lss (.t 63) (.t 65), none, false⟩] [5, 7, 9, 66]) (.cond (.t 66) .skip (.exit 2))) (.seq (.block 3 (.seq (.reg [⟨some 69, .mov (.t 7), none, false⟩, ⟨some 70, .mov (.t 9), none, false⟩, ⟨some 71, .iaddr 1 (.t 69) (.t 70), none, false⟩, ⟨some 72, .load false 1 (.t 71), none, false⟩, ⟨some 73, .un .not (.t 72), none, false⟩] [5, 7, 9, 73]) (.cond (.t 73) (.seq (.reg [⟨some 2, .mov (.c .nils), none, false⟩, ⟨some 3, .mov (.c (.bool false)), none, false⟩] [2, 3]) .ret) .skip))) (.reg [⟨some 67, .mov (.t 9), none, false⟩, ⟨some 68, .bin .add (.t 67) (.c (.int .i64 1)), none, false⟩, ⟨some 9, .mov (.t 68), none, false⟩] [5, 7, 9]))
def b15 : XC := .seq (.reg [⟨some 1, .box 41 (.t 0), none, false⟩, ⟨some 2, .mov (.c .nils), none, false⟩, ⟨some 3, .mov (.c (.bool false)), none, false⟩] [1]) (.seq (.reg [⟨some 10, .faddr 1 (.t 1), none, false⟩, ⟨some 11, .load false 1 (.t 10), none, false⟩, ⟨some 12, .call (.c (.func 42 [] [])) [.t 11], none, false⟩, ⟨some 4, .mov (.t 12), none, false⟩] [1, 4]) (.seq (.seq (.reg [⟨some 13, .faddr 0 (.t 1), none, false⟩, ⟨some 14, .load false 1 (.t 13), none, false⟩, ⟨some 15, .bin .lss (.t 14) (.c (.int .i64 0)), none, false⟩, ⟨some 16, .mov (.t 15), none, false⟩, ⟨some 17, .faddr 0 (.t 1), some (16, false), false⟩, ⟨some 18, .load false 1 (.t 17), some (16, false), false⟩, ⟨some 19, .bin .gtr (.t 18) (.c (.int .i64 4096)), some (16, false), false⟩, ⟨some 20, .pick (.t 16) (.c (.bool true)) (.t 19), none, false⟩, ⟨some 21, .mov (.t 20), none, false⟩, ⟨some 22, .mov (.t 4), some (21, false), false⟩, ⟨some 23, .un .not (.t 22), some (21, false), false⟩, ⟨some 24, .pick (.t 21) (.c (.bool true)) (.t 23), none, false⟩] [1, 24]) (.cond (.t 24) (.seq (.reg [⟨some 2, .mov (.c .nils), none, false⟩, ⟨some 3, .mov (.c (.bool false)), none, false⟩] [2, 3]) .ret) .skip)) (.seq (.reg [⟨some 26, .faddr 2 (.t 1), none, false⟩, ⟨some 27, .load false 1 (.t 26), none, false⟩, ⟨some 28, .faddr 0 (.t 1), none, false⟩, ⟨some 29, .load false 1 (.t 28), none, false⟩, ⟨some 30, .faddr 1 (.t 1), none, false⟩, ⟨some 31, .load false 1 (.t 30), none, false⟩, ⟨some 32, .len 4 (.t 31), none, false⟩, ⟨some 33, .call (.c (.func 44 [] [])) [.t 32], none, true⟩, ⟨some 34, .call (.c (.func 43 [] [])) [.t 27, .t 29, .t 33], none, false⟩, ⟨some 25, .mov (.t 34), none, false⟩, ⟨some 35, .ext (.t 25) 0, none, false⟩, ⟨some 36, .ext (.t 25) 1, none, false⟩, ⟨some 5, .mov (.t 35), none, false⟩, ⟨some 6, .mov (.t 36), none, false⟩] [1, 5, 6]) (.seq (.seq (.reg [⟨some 37, .mov (.t 6), none, false⟩, ⟨some 38, .bin .neq (.t 37) (.c (.int .i64 0)), none, false⟩] [1, 5, 38]) (.cond (.t 38) (.seq (.reg [⟨some 2, .mov (.c .nils), none, false⟩, ⟨some 3, .mov (.c (.bool false)), none, false⟩] [2, 3]) .ret) .skip)) (.seq (.reg [⟨some 39, .faddr 1 (.t 1), none, false⟩, ⟨some 40, .load false 1 (.t 39), none, false⟩, ⟨some 41, .len 4 (.t 40), none, false⟩, ⟨some 42, .make 4 1 1 (.bool false) (.t 41) (.t 41), none, false⟩, ⟨some 7, .mov (.t 42), none, false⟩] [1, 5, 7]) (.seq (.seq (.reg [⟨some 8, .mov (.c (.int .i64 0)), none, false⟩] [1, 5, 7, 8]) (.block 0 (.loop lp15_0))) (.seq (.seq (.reg [⟨some 9, .mov (.c (.int .i64 0)), none, false⟩] [5, 7, 9]) (.block 2 (.loop lp15_1))) (.seq (.reg [⟨some 74, .mov (.t 5), none, false⟩, ⟨some 2, .mov (.t 74), none, false⟩, ⟨some 3, .mov (.c (.bool true)), none, false⟩] [2, 3]) .ret))))))))
def x15 : XF := ⟨1, b15, [.t 2, .t 3]⟩
def h15 : Yq := fun id => match id with
  | 0 => [1]
  | 1 => [1, 4]
  | 2 => [1, 24]
  | 3 => [2, 3]
  | 4 => [1, 5, 6]
  | 5 => [1, 5, 38]
  | 6 => [2, 3]
  | 7 => [1, 5, 7]
  | 8 => [1, 5, 7, 8]
  | 9 => [1, 5, 7, 8, 46]
  | 10 => [1, 5, 7, 8]
  | 11 => [1, 5, 7, 8, 56]
  | 12 => [2, 3]
  | 13 => [1, 5, 7, 8]
  | 14 => [5, 7, 9]
  | 15 => [5, 7, 9, 66]
  | 16 => [5, 7, 9]
  | 17 => [5, 7, 9, 73]
  | 18 => [2, 3]
  | 19 => [2, 3]
  | _ => []
theorem cv15 : cvF Tryd.prog h15 Tryd.f15 = some x15 := by kernel_rfl

/-- winnower/winnowerref10.Values -/
def lp16_0 : XC := .seq (.seq (.reg [⟨some 12, .mov (.t 6), none, false⟩, ⟨some 13, .mov (.t 3), none, false⟩, ⟨some 14, .len 1 (.t 13), none, false⟩, ⟨some 15, .bin .lss (.t 12) (.t 14), none, false⟩] [1, 3, 5, 6, 15]) (.cond (.t 15) .skip (.exit 0))) (.seq (.block 1 (.reg [⟨some 18, .mov (.t 5), none, false⟩, ⟨some 19, .faddr 1 (.t 1), none, false⟩, ⟨some 20, .load false 1 (.t 19), none, false⟩, ⟨some 21, .mov (.t 3), none, false⟩, ⟨some 22, .mov (.t 6), none, false⟩, ⟨some 23, .iaddr 1 (.t 21) (.t 22), none, false⟩, ⟨some 24, .load false 1 (.t 23), none, false⟩, ⟨some 25, .iaddr 4 (.t 20) (.t 24), none, false⟩, ⟨some 26, .load true 4 (.t 25), none, false⟩, ⟨some 27, .mkslice true 48 4 [.t 26], none, false⟩, ⟨some 28, .app 48 4 40 (.t 18) (.t 27), none, false⟩, ⟨some 5, .mov (.t 28), none, false⟩] [1, 3, 5, 6])) (.reg [⟨some 16, .mov (.t 6), none, false⟩, ⟨some 17, .bin .add (.t 16) (.c (.int .i64 1)), none, false⟩, ⟨some 6, .mov (.t 17), none, false⟩] [1, 3, 5, 6]))
def b16 : XC := .seq (.reg [⟨some 1, .box 41 (.t 0), none, false⟩, ⟨some 2, .mov (.c .nils), none, false⟩] [1]) (.seq (.reg [⟨some 8, .load true 3 (.t 1), none, false⟩, ⟨some 9, .call (.c (.func 15 [] [])) [.t 8], none, false⟩, ⟨some 7, .mov (.t 9), none, false⟩, ⟨some 10, .ext (.t 7) 0, none, false⟩, ⟨some 11, .ext (.t 7) 1, none, false⟩, ⟨some 3, .mov (.t 10), none, false⟩, ⟨some 4, .mov (.t 11), none, false⟩] [1, 3]) (.seq (.reg [⟨some 5, .mov (.c .nils), none, false⟩] [1, 3, 5]) (.seq (.seq (.reg [⟨some 6, .mov (.c (.int .i64 0)), none, false⟩] [1, 3, 5, 6]) (.block 0 (.loop lp16_0))) (.seq (.reg [⟨some 29, .mov (.t 5), none, false⟩, ⟨some 2, .mov (.t 29), none, false⟩] [2]) .ret))))
def x16 : XF := ⟨1, b16, [.t 2]⟩
def h16 : Yq := fun id => match id with
  | 0 => [1]
  | 1 => [1, 3]
  | 2 => [1, 3, 5]
  | 3 => [1, 3, 5, 6]
  | 4 => [1, 3, 5, 6, 15]
  | 5 => [1, 3, 5, 6]
  | 6 => [1, 3, 5, 6]
  | 7 => [2]
  | _ => []
theorem cv16 : cvF Tryd.prog h16 Tryd.f16 = some x16 := by kernel_rfl

/-- winnower/column.Values -/
def lp18_0 : XC := .seq (.reg [⟨some 18, .bin .lss (.t 17) (.t 16), none, false⟩] [1, 5, 15, 16, 17, 18]) (.seq (.cond (.t 18) .skip (.exit 0)) (.seq (.block 1 (.seq (.reg [⟨some 19, .iaddr 1 (.t 15) (.t 17), none, false⟩, ⟨some 20, .load false 1 (.t 19), none, false⟩, ⟨some 7, .mov (.t 20), none, false⟩] [1, 5, 7, 15, 16, 17]) (.reg [⟨some 21, .mov (.t 5), none, false⟩, ⟨some 22, .faddr 1 (.t 1), none, false⟩, ⟨some 23, .load false 1 (.t 22), none, false⟩, ⟨some 24, .mov (.t 7), none, false⟩, ⟨some 25, .iaddr 4 (.t 23) (.t 24), none, false⟩, ⟨some 26, .load true 4 (.t 25), none, false⟩, ⟨some 27, .mkslice true 48 4 [.t 26], none, false⟩, ⟨some 28, .app 48 4 40 (.t 21) (.t 27), none, false⟩, ⟨some 5, .mov (.t 28), none, false⟩] [1, 5, 15, 16, 17]))) (.reg [⟨some 29, .bin .add (.t 17) (.c (.int .i64 1)), none, false⟩, ⟨some 17, .mov (.t 29), none, false⟩] [1, 5, 15, 16, 17])))
def b18 : XC := .seq (.reg [⟨some 1, .box 41 (.t 0), none, false⟩, ⟨some 2, .mov (.c .nils), none, false⟩] [1]) (.seq (.reg [⟨some 9, .load true 3 (.t 1), none, false⟩, ⟨some 10, .call (.c (.func 45 [] [])) [.t 9], none, false⟩, ⟨some 8, .mov (.t 10), none, false⟩, ⟨some 11, .ext (.t 8) 0, none, false⟩, ⟨some 12, .ext (.t 8) 1, none, false⟩, ⟨some 3, .mov (.t 11), none, false⟩, ⟨some 4, .mov (.t 12), none, false⟩] [1, 3, 4]) (.seq (.seq (.reg [⟨some 13, .mov (.t 4), none, false⟩, ⟨some 14, .un .not (.t 13), none, false⟩] [1, 3, 14]) (.cond (.t 14) (.seq (.reg [⟨some 2, .mov (.c .nils), none, false⟩] [2]) .ret) .skip)) (.seq (.reg [⟨some 5, .mov (.c .nils), none, false⟩] [1, 3, 5]) (.seq (.seq (.reg [⟨some 15, .mov (.t 3), none, false⟩, ⟨some 16, .len 1 (.t 15), none, false⟩, ⟨some 17, .mov (.c (.int .i64 0)), none, false⟩] [1, 5, 15, 16, 17]) (.block 0 (.loop lp18_0))) (.seq (.reg [⟨some 30, .mov (.t 5), none, false⟩, ⟨some 2, .mov (.t 30), none, false⟩] [2]) .ret)))))
def x18 : XF := ⟨1, b18, [.t 2]⟩
def h18 : Yq := fun id => match id with
  | 0 => [1]
  | 1 => [1, 3, 4]
  | 2 => [1, 3, 14]
  | 3 => [2]
  | 4 => [1, 3, 5]
  | 5 => [1, 5, 15, 16, 17]
  | 6 => [1, 5, 15, 16, 17, 18]
  | 7 => [1, 5, 7, 15, 16, 17]
  | 8 => [1, 5, 15, 16, 17]
  | 9 => [1, 5, 15, 16, 17]
  | 10 => [2]
  | _ => []
theorem cv18 : cvF Tryd.prog h18 Tryd.f18 = some x18 := by kernel_rfl

/-- winnower/column.Range -/
def b20 : XC := .seq (.reg [⟨some 3, .box 41 (.t 0), none, false⟩, ⟨some 4, .box 3 (.t 1), none, false⟩, ⟨some 5, .box 3 (.t 2), none, false⟩, ⟨some 6, .alloc 34 [.nils], none, false⟩] [3, 4, 5, 6]) (.seq (.reg [⟨some 7, .load true 3 (.t 3), none, false⟩, ⟨some 8, .mkfn 49 [] [.t 4, .t 5], none, false⟩, ⟨some 9, .call (.c (.func 48 [] [])) [.t 7, .t 8], none, false⟩, ⟨none, .store 1 (.t 6) (.t 9), none, false⟩] [6]) .ret)
def x20 : XF := ⟨3, b20, [.cell 6 true 1]⟩
def h20 : Yq := fun id => match id with
  | 0 => [3, 4, 5, 6]
  | 1 => [6]
  | _ => []
theorem cv20 : cvF Tryd.prog h20 Tryd.f20 = some x20 := by kernel_rfl

/-- winnower/column.May -/
def b25 : XC := .seq (.reg [⟨some 1, .box 41 (.t 0), none, false⟩, ⟨some 2, .mov (.c (.bool false)), none, false⟩] [1]) (.seq (.reg [⟨some 6, .load true 3 (.t 1), none, false⟩, ⟨some 7, .call (.c (.func 45 [] [])) [.t 6], none, false⟩, ⟨some 5, .mov (.t 7), none, false⟩, ⟨some 8, .ext (.t 5) 0, none, false⟩, ⟨some 9, .ext (.t 5) 1, none, false⟩, ⟨some 3, .mov (.t 8), none, false⟩, ⟨some 4, .mov (.t 9), none, false⟩] [4]) (.seq (.reg [⟨some 10, .mov (.t 4), none, false⟩, ⟨some 2, .mov (.t 10), none, false⟩] [2]) .ret))
def x25 : XF := ⟨1, b25, [.t 2]⟩
def h25 : Yq := fun id => match id with
  | 0 => [1]
  | 1 => [4]
  | 2 => [2]
  | _ => []
theorem cv25 : cvF Tryd.prog h25 Tryd.f25 = some x25 := by kernel_rfl

/-- winnower/winnowerlaw17.n -/
def b31 : XC := .seq (.reg [⟨some 2, .alloc 48 [.int .i64 0, .int .i64 0, .str ⟨#[]⟩, .bool false], none, false⟩] [0, 2]) (.seq (.reg [⟨some 3, .mov (.t 0), none, false⟩, ⟨some 4, .build [.int .i64 0, .int .i64 0, .str ⟨#[]⟩, .bool false] [(0, (1, .c (.int .i64 1))), (1, (1, .t 3))], none, false⟩, ⟨none, .store 4 (.t 2) (.t 4), none, false⟩] [2]) .ret)
def x31 : XF := ⟨1, b31, [.cell 2 true 4]⟩
def h31 : Yq := fun id => match id with
  | 0 => [0, 2]
  | 1 => [2]
  | _ => []
theorem cv31 : cvF Tryd.prog h31 Tryd.f31 = some x31 := by kernel_rfl

/-- winnower/filter.Rows -/
def b32 : XC := .seq (.reg [⟨some 4, .alloc 34 [.nils], none, false⟩] [0, 1, 4]) (.seq (.reg [⟨some 5, .mov (.t 0), none, false⟩, ⟨some 6, .mov (.t 1), none, false⟩, ⟨some 7, .len 1 (.t 6), none, false⟩, ⟨some 8, .mov (.t 1), none, false⟩, ⟨some 9, .mkfn 61 [.t 8] [], none, false⟩, ⟨some 10, .call (.c (.func 37 [] [])) [.t 5, .t 7, .t 9], none, false⟩, ⟨none, .store 1 (.t 4) (.t 10), none, false⟩] [4]) .ret)
def x32 : XF := ⟨2, b32, [.cell 4 true 1]⟩
def h32 : Yq := fun id => match id with
  | 0 => [0, 1, 4]
  | 1 => [4]
  | _ => []
theorem cv32 : cvF Tryd.prog h32 Tryd.f32 = some x32 := by kernel_rfl

/-- winnower/filter.Holds -/
def b33 : XC := .seq (.reg [⟨some 4, .mov (.c (.bool false)), none, false⟩] [0, 1]) (.seq (.reg [⟨some 5, .mov (.t 0), none, false⟩, ⟨some 6, .mov (.t 1), none, false⟩, ⟨some 7, .mkslice true 38 1 [.t 6], none, false⟩, ⟨some 8, .call (.c (.func 32 [] [])) [.t 5, .t 7], none, false⟩, ⟨some 9, .call (.c (.func 62 [] [])) [.t 8, .c (.int .i64 0)], none, false⟩, ⟨some 4, .mov (.t 9), none, false⟩] [4]) .ret)
def x33 : XF := ⟨2, b33, [.t 4]⟩
def h33 : Yq := fun id => match id with
  | 0 => [0, 1]
  | 1 => [4]
  | _ => []
theorem cv33 : cvF Tryd.prog h33 Tryd.f33 = some x33 := by kernel_rfl

/-- slices.ContainsFunc[[]winnower/api.Column,winnower/api.Column] -/
def b35 : XC := .seq (.reg [⟨some 4, .mov (.c (.bool false)), none, false⟩] [0, 1]) (.seq (.reg [⟨some 5, .mov (.t 0), none, false⟩, ⟨some 6, .mov (.t 1), none, false⟩, ⟨some 7, .call (.c (.func 65 [] [])) [.t 5, .t 6], none, false⟩, ⟨some 8, .bin .geq (.t 7) (.c (.int .i64 0)), none, false⟩, ⟨some 4, .mov (.t 8), none, false⟩] [4]) .ret)
def x35 : XF := ⟨2, b35, [.t 4]⟩
def h35 : Yq := fun id => match id with
  | 0 => [0, 1]
  | 1 => [4]
  | _ => []
theorem cv35 : cvF Tryd.prog h35 Tryd.f35 = some x35 := by kernel_rfl

/-- winnower/filter.Sealed$1 -/
def b36 : XC := .seq (.reg [⟨some 2, .box 41 (.t 0), none, false⟩, ⟨some 3, .mov (.c (.bool false)), none, false⟩] [1, 2]) (.seq (.reg [⟨some 4, .faddr 0 (.t 2), none, false⟩, ⟨some 5, .load false 1 (.t 4), none, false⟩, ⟨some 6, .load false 1 (.t 1), none, false⟩, ⟨some 7, .bin .neq (.t 5) (.t 6), none, false⟩, ⟨some 8, .mov (.t 7), none, false⟩, ⟨some 9, .load true 3 (.t 2), some (8, false), false⟩, ⟨some 10, .call (.c (.func 25 [] [])) [.t 9], some (8, false), false⟩, ⟨some 11, .un .not (.t 10), some (8, false), false⟩, ⟨some 12, .pick (.t 8) (.c (.bool true)) (.t 11), none, false⟩, ⟨some 3, .mov (.t 12), none, false⟩] [3]) .ret)
def x36 : XF := ⟨2, b36, [.t 3]⟩
def h36 : Yq := fun id => match id with
  | 0 => [1, 2]
  | 1 => [3]
  | _ => []
theorem cv36 : cvF Tryd.prog h36 Tryd.f36 = some x36 := by kernel_rfl

/-- winnower/filter.sets -/
def lp37_0 : XC := .seq (.reg [⟨some 21, .bin .lss (.t 20) (.t 19), none, false⟩] [1, 2, 6, 7, 8, 18, 19, 20, 21]) (.seq (.cond (.t 21) .skip (.exit 0)) (.seq (.block 1 (.seq (.reg [⟨some 22, .iaddr 8 (.t 18) (.t 20), none, false⟩, ⟨some 23, .load true 8 (.t 22), none, false⟩, ⟨some 10, .alloc 70 [.int .i64 0, .int .i64 0, .int .i64 0, .int .i64 0, .str ⟨#[]⟩, .bool false, .int .i64 0, .int .i64 0], none, false⟩, ⟨none, .store 8 (.t 10) (.t 23), none, false⟩] [1, 2, 6, 7, 8, 10, 18, 19, 20]) (.seq (.reg [⟨some 11, .alloc 34 [.nils], none, false⟩] [1, 2, 6, 7, 8, 10, 11, 18, 19, 20]) (.seq (.block 2 (.seq (.reg [⟨some 25, .faddr 0 (.t 10), none, false⟩, ⟨some 26, .load false 1 (.t 25), none, false⟩, ⟨some 27, .bin .eql (.t 26) (.c (.int .i64 0)), none, false⟩, ⟨some 24, .mov (.t 27), none, false⟩] [1, 2, 6, 7, 8, 10, 11, 18, 19, 20, 24]) (.cond (.t 24) (.reg [⟨some 28, .mov (.t 1), none, false⟩, ⟨some 29, .call (.c (.func 66 [] [])) [.t 28], none, false⟩, ⟨none, .store 1 (.t 11) (.t 29), none, false⟩] [1, 2, 6, 7, 8, 11, 18, 19, 20]) (.seq (.reg [⟨some 31, .faddr 0 (.t 10), none, false⟩, ⟨some 32, .load false 1 (.t 31), none, false⟩, ⟨some 33, .bin .geq (.t 32) (.c (.int .i64 1)), none, false⟩, ⟨some 34, .mov (.t 33), none, false⟩, ⟨some 35, .faddr 0 (.t 10), some (34, true), false⟩, ⟨some 36, .load false 1 (.t 35), some (34, true), false⟩, ⟨some 37, .bin .leq (.t 36) (.c (.int .i64 7)), some (34, true), false⟩, ⟨some 38, .pick (.t 34) (.t 37) (.c (.bool false)), none, false⟩, ⟨some 30, .mov (.t 38), none, false⟩] [1, 2, 6, 7, 8, 10, 11, 18, 19, 20, 30]) (.cond (.t 30) (.reg [⟨some 39, .mov (.t 2), none, false⟩, ⟨some 40, .load true 8 (.t 10), none, false⟩, ⟨some 41, .call (.t 39) [.t 40], none, false⟩, ⟨none, .store 1 (.t 11) (.t 41), none, false⟩] [1, 2, 6, 7, 8, 11, 18, 19, 20]) (.seq (.reg [⟨some 43, .faddr 0 (.t 10), none, false⟩, ⟨some 44, .load false 1 (.t 43), none, false⟩, ⟨some 45, .bin .eql (.t 44) (.c (.int .i64 10)), none, false⟩, ⟨some 46, .mov (.t 45), none, false⟩, ⟨some 47, .mov (.t 8), some (46, true), false⟩, ⟨some 48, .faddr 6 (.t 10), some (46, true), false⟩, ⟨some 49, .load false 1 (.t 48), some (46, true), false⟩, ⟨some 50, .call (.t 47) [.t 49], some (46, true), false⟩, ⟨some 51, .pick (.t 46) (.t 50) (.c (.bool false)), none, false⟩, ⟨some 42, .mov (.t 51), none, false⟩] [1, 2, 6, 7, 8, 10, 11, 18, 19, 20, 42]) (.cond (.t 42) (.reg [⟨some 52, .load false 1 (.t 7), none, false⟩, ⟨some 53, .faddr 6 (.t 10), none, false⟩, ⟨some 54, .load false 1 (.t 53), none, false⟩, ⟨some 55, .iaddr 1 (.t 52) (.t 54), none, false⟩, ⟨some 56, .load true 1 (.t 55), none, false⟩, ⟨some 57, .mov (.t 1), none, false⟩, ⟨some 58, .call (.c (.func 68 [] [])) [.t 56, .t 57], none, false⟩, ⟨none, .store 1 (.t 11) (.t 58), none, false⟩] [1, 2, 6, 7, 8, 11, 18, 19, 20]) (.seq (.reg [⟨some 60, .faddr 0 (.t 10), none, false⟩, ⟨some 61, .load false 1 (.t 60), none, false⟩, ⟨some 62, .bin .eql (.t 61) (.c (.int .i64 8)), none, false⟩, ⟨some 63, .mov (.t 62), none, false⟩, ⟨some 64, .mov (.t 8), some (63, true), false⟩, ⟨some 65, .faddr 6 (.t 10), some (63, true), false⟩, ⟨some 66, .load false 1 (.t 65), some (63, true), false⟩, ⟨some 67, .call (.t 64) [.t 66], some (63, true), false⟩, ⟨some 68, .pick (.t 63) (.t 67) (.c (.bool false)), none, false⟩, ⟨some 69, .mov (.t 68), none, false⟩, ⟨some 70, .mov (.t 8), some (69, true), false⟩, ⟨some 71, .faddr 7 (.t 10), some (69, true), false⟩, ⟨some 72, .load false 1 (.t 71), some (69, true), false⟩, ⟨some 73, .call (.t 70) [.t 72], some (69, true), false⟩, ⟨some 74, .pick (.t 69) (.t 73) (.c (.bool false)), none, false⟩, ⟨some 59, .mov (.t 74), none, false⟩] [1, 2, 6, 7, 8, 10, 11, 18, 19, 20, 59]) (.cond (.t 59) (.reg [⟨some 75, .load false 1 (.t 7), none, false⟩, ⟨some 76, .faddr 6 (.t 10), none, false⟩, ⟨some 77, .load false 1 (.t 76), none, false⟩, ⟨some 78, .iaddr 1 (.t 75) (.t 77), none, false⟩, ⟨some 79, .load true 1 (.t 78), none, false⟩, ⟨some 80, .load false 1 (.t 7), none, false⟩, ⟨some 81, .faddr 7 (.t 10), none, false⟩, ⟨some 82, .load false 1 (.t 81), none, false⟩, ⟨some 83, .iaddr 1 (.t 80) (.t 82), none, false⟩, ⟨some 84, .load true 1 (.t 83), none, false⟩, ⟨some 85, .call (.c (.func 69 [] [])) [.t 79, .t 84], none, false⟩, ⟨none, .store 1 (.t 11) (.t 85), none, false⟩] [1, 2, 6, 7, 8, 11, 18, 19, 20]) (.seq (.reg [⟨some 87, .faddr 0 (.t 10), none, false⟩, ⟨some 88, .load false 1 (.t 87), none, false⟩, ⟨some 89, .bin .eql (.t 88) (.c (.int .i64 9)), none, false⟩, ⟨some 90, .mov (.t 89), none, false⟩, ⟨some 91, .mov (.t 8), some (90, true), false⟩, ⟨some 92, .faddr 6 (.t 10), some (90, true), false⟩, ⟨some 93, .load false 1 (.t 92), some (90, true), false⟩, ⟨some 94, .call (.t 91) [.t 93], some (90, true), false⟩, ⟨some 95, .pick (.t 90) (.t 94) (.c (.bool false)), none, false⟩, ⟨some 96, .mov (.t 95), none, false⟩, ⟨some 97, .mov (.t 8), some (96, true), false⟩, ⟨some 98, .faddr 7 (.t 10), some (96, true), false⟩, ⟨some 99, .load false 1 (.t 98), some (96, true), false⟩, ⟨some 100, .call (.t 97) [.t 99], some (96, true), false⟩, ⟨some 101, .pick (.t 96) (.t 100) (.c (.bool false)), none, false⟩, ⟨some 86, .mov (.t 101), none, false⟩] [1, 2, 6, 7, 8, 10, 11, 18, 19, 20, 86]) (.cond (.t 86) (.reg [⟨some 102, .load false 1 (.t 7), none, false⟩, ⟨some 103, .faddr 6 (.t 10), none, false⟩, ⟨some 104, .load false 1 (.t 103), none, false⟩, ⟨some 105, .iaddr 1 (.t 102) (.t 104), none, false⟩, ⟨some 106, .load true 1 (.t 105), none, false⟩, ⟨some 107, .load false 1 (.t 7), none, false⟩, ⟨some 108, .faddr 7 (.t 10), none, false⟩, ⟨some 109, .load false 1 (.t 108), none, false⟩, ⟨some 110, .iaddr 1 (.t 107) (.t 109), none, false⟩, ⟨some 111, .load true 1 (.t 110), none, false⟩, ⟨some 112, .call (.c (.func 70 [] [])) [.t 106, .t 111], none, false⟩, ⟨none, .store 1 (.t 11) (.t 112), none, false⟩] [1, 2, 6, 7, 8, 11, 18, 19, 20]) .skip))))))))))) (.reg [⟨some 113, .load false 1 (.t 7), none, false⟩, ⟨some 114, .load true 1 (.t 11), none, false⟩, ⟨some 115, .mkslice true 34 1 [.t 114], none, false⟩, ⟨some 116, .app 34 1 24 (.t 113) (.t 115), none, false⟩, ⟨none, .store 1 (.t 7) (.t 116), none, false⟩] [1, 2, 6, 7, 8, 18, 19, 20]))))) (.reg [⟨some 117, .bin .add (.t 20) (.c (.int .i64 1)), none, false⟩, ⟨some 20, .mov (.t 117), none, false⟩] [1, 2, 6, 7, 8, 18, 19, 20])))
def b37 : XC := .seq (.reg [⟨some 6, .alloc 34 [.nils], none, false⟩] [0, 1, 2, 6]) (.seq (.seq (.reg [⟨some 12, .mov (.t 0), none, false⟩, ⟨some 13, .len 8 (.t 12), none, false⟩, ⟨some 14, .bin .eql (.t 13) (.c (.int .i64 0)), none, false⟩] [0, 1, 2, 6, 14]) (.cond (.t 14) (.seq (.reg [⟨some 15, .mov (.t 1), none, false⟩, ⟨some 16, .call (.c (.func 66 [] [])) [.t 15], none, false⟩, ⟨none, .store 1 (.t 6) (.t 16), none, false⟩] [6]) .ret) .skip)) (.seq (.reg [⟨some 7, .alloc 112 [.nils], none, false⟩] [0, 1, 2, 6, 7]) (.seq (.reg [⟨some 17, .mkfn 67 [] [.t 7], none, false⟩, ⟨some 8, .mov (.t 17), none, false⟩] [0, 1, 2, 6, 7, 8]) (.seq (.seq (.reg [⟨some 18, .mov (.t 0), none, false⟩, ⟨some 19, .len 8 (.t 18), none, false⟩, ⟨some 20, .mov (.c (.int .i64 0)), none, false⟩] [1, 2, 6, 7, 8, 18, 19, 20]) (.block 0 (.loop lp37_0))) (.seq (.reg [⟨some 118, .load false 1 (.t 7), none, false⟩, ⟨some 119, .load false 1 (.t 7), none, false⟩, ⟨some 120, .len 1 (.t 119), none, false⟩, ⟨some 121, .bin .sub (.t 120) (.c (.int .i64 1)), none, false⟩, ⟨some 122, .iaddr 1 (.t 118) (.t 121), none, false⟩, ⟨some 123, .load true 1 (.t 122), none, false⟩, ⟨none, .store 1 (.t 6) (.t 123), none, false⟩] [6]) .ret)))))
def x37 : XF := ⟨3, b37, [.cell 6 true 1]⟩
def h37 : Yq := fun id => match id with
  | 0 => [0, 1, 2, 6]
  | 1 => [0, 1, 2, 6, 14]
  | 2 => [6]
  | 3 => [0, 1, 2, 6, 7]
  | 4 => [0, 1, 2, 6, 7, 8]
  | 5 => [1, 2, 6, 7, 8, 18, 19, 20]
  | 6 => [1, 2, 6, 7, 8, 18, 19, 20, 21]
  | 7 => [1, 2, 6, 7, 8, 10, 18, 19, 20]
  | 8 => [1, 2, 6, 7, 8, 10, 11, 18, 19, 20]
  | 9 => [1, 2, 6, 7, 8, 10, 11, 18, 19, 20, 24]
  | 10 => [1, 2, 6, 7, 8, 11, 18, 19, 20]
  | 11 => [1, 2, 6, 7, 8, 10, 11, 18, 19, 20, 30]
  | 12 => [1, 2, 6, 7, 8, 11, 18, 19, 20]
  | 13 => [1, 2, 6, 7, 8, 10, 11, 18, 19, 20, 42]
  | 14 => [1, 2, 6, 7, 8, 11, 18, 19, 20]
  | 15 => [1, 2, 6, 7, 8, 10, 11, 18, 19, 20, 59]
  | 16 => [1, 2, 6, 7, 8, 11, 18, 19, 20]
  | 17 => [1, 2, 6, 7, 8, 10, 11, 18, 19, 20, 86]
  | 18 => [1, 2, 6, 7, 8, 11, 18, 19, 20]
  | 19 => [1, 2, 6, 7, 8, 18, 19, 20]
  | 20 => [1, 2, 6, 7, 8, 18, 19, 20]
  | 21 => [6]
  | _ => []
theorem cv37 : cvF Tryd.prog h37 Tryd.f37 = some x37 := by kernel_rfl

/-- (winnower/filter.sealed).leaf -/
def b38 : XC := .seq (.reg [⟨some 2, .box 79 (.t 0), none, false⟩, ⟨some 3, .box 70 (.t 1), none, false⟩, ⟨some 4, .alloc 34 [.nils], none, false⟩] [2, 3, 4]) (.seq (.seq (.reg [⟨some 12, .faddr 1 (.t 3), none, false⟩, ⟨some 13, .load false 1 (.t 12), none, false⟩, ⟨some 14, .bin .lss (.t 13) (.c (.int .i64 0)), none, false⟩, ⟨some 15, .mov (.t 14), none, false⟩, ⟨some 16, .faddr 1 (.t 3), some (15, false), false⟩, ⟨some 17, .load false 1 (.t 16), some (15, false), false⟩, ⟨some 18, .faddr 5 (.t 2), some (15, false), false⟩, ⟨some 19, .load false 1 (.t 18), some (15, false), false⟩, ⟨some 20, .len 3 (.t 19), some (15, false), false⟩, ⟨some 21, .bin .geq (.t 17) (.t 20), some (15, false), false⟩, ⟨some 22, .pick (.t 15) (.c (.bool true)) (.t 21), none, false⟩] [2, 3, 4, 22]) (.cond (.t 22) (.seq (.reg [⟨some 23, .build [.nils] [], none, false⟩, ⟨none, .store 1 (.t 4) (.t 23), none, false⟩] [4]) .ret) .skip)) (.seq (.reg [⟨some 24, .faddr 5 (.t 2), none, false⟩, ⟨some 25, .load false 1 (.t 24), none, false⟩, ⟨some 26, .faddr 1 (.t 3), none, false⟩, ⟨some 27, .load false 1 (.t 26), none, false⟩, ⟨some 28, .iaddr 3 (.t 25) (.t 27), none, false⟩, ⟨some 29, .load true 3 (.t 28), none, false⟩, ⟨some 5, .alloc 41 [.int .i64 0, .nils, .nils], none, false⟩, ⟨none, .store 3 (.t 5) (.t 29), none, false⟩] [3, 4, 5]) (.seq (.reg [⟨some 31, .faddr 1 (.t 5), none, false⟩, ⟨some 32, .load false 1 (.t 31), none, false⟩, ⟨some 33, .call (.c (.func 71 [] [])) [.t 32], none, false⟩, ⟨some 30, .mov (.t 33), none, false⟩, ⟨some 34, .ext (.t 30) 0, none, false⟩, ⟨some 35, .ext (.t 30) 1, none, false⟩, ⟨some 6, .mov (.t 34), none, false⟩, ⟨some 7, .mov (.t 35), none, false⟩] [3, 4, 5, 6, 7]) (.seq (.seq (.reg [⟨some 36, .faddr 0 (.t 3), none, false⟩, ⟨some 37, .load false 1 (.t 36), none, false⟩, ⟨some 38, .bin .eql (.t 37) (.c (.int .i64 7)), none, false⟩] [3, 4, 5, 6, 7, 38]) (.cond (.t 38) (.seq (.reg [⟨some 39, .load true 3 (.t 5), none, false⟩, ⟨some 40, .mov (.t 6), none, false⟩, ⟨some 41, .mov (.t 7), none, false⟩, ⟨some 42, .call (.c (.func 20 [] [])) [.t 39, .t 40, .t 41], none, false⟩, ⟨none, .store 1 (.t 4) (.t 42), none, false⟩] [4]) .ret) .skip)) (.seq (.seq (.reg [⟨some 43, .faddr 2 (.t 3), none, false⟩, ⟨some 44, .load true 4 (.t 43), none, false⟩, ⟨some 45, .call (.c (.func 72 [] [])) [.t 44], none, false⟩, ⟨some 46, .un .not (.t 45), none, false⟩] [3, 4, 5, 7, 46]) (.cond (.t 46) (.seq (.reg [⟨some 47, .load true 3 (.t 5), none, false⟩, ⟨some 48, .call (.c (.func 18 [] [])) [.t 47], none, true⟩, ⟨some 49, .faddr 1 (.t 3), none, false⟩, ⟨some 50, .load false 1 (.t 49), none, false⟩, ⟨some 51, .call (.c (.func 73 [] [])) [.t 48, .t 50], none, true⟩, ⟨some 52, .load true 8 (.t 3), none, false⟩, ⟨some 53, .call (.c (.func 61 [] [])) [.t 51, .t 52], none, false⟩, ⟨none, .store 1 (.t 4) (.t 53), none, false⟩] [4]) .ret) .skip)) (.seq (.reg [⟨some 55, .faddr 1 (.t 5), none, false⟩, ⟨some 56, .load false 1 (.t 55), none, false⟩, ⟨some 57, .faddr 2 (.t 3), none, false⟩, ⟨some 58, .load true 4 (.t 57), none, false⟩, ⟨some 59, .call (.c (.func 74 [] [])) [.t 56, .t 58], none, false⟩, ⟨some 54, .mov (.t 59), none, false⟩, ⟨some 60, .ext (.t 54) 0, none, false⟩, ⟨some 61, .ext (.t 54) 1, none, false⟩, ⟨some 8, .mov (.t 60), none, false⟩, ⟨some 9, .mov (.t 61), none, false⟩] [3, 4, 5, 7, 8, 9]) (.seq (.reg [⟨some 62, .mov (.t 8), none, false⟩, ⟨some 10, .mov (.t 62), none, false⟩] [3, 4, 5, 7, 8, 9, 10]) (.seq (.seq (.reg [⟨some 63, .mov (.t 9), none, false⟩] [3, 4, 5, 7, 8, 10, 63]) (.cond (.t 63) (.reg [⟨some 64, .mov (.t 10), none, false⟩, ⟨some 65, .bin .add (.t 64) (.c (.int .i64 1)), none, false⟩, ⟨some 10, .mov (.t 65), none, false⟩] [3, 4, 5, 7, 8, 10]) .skip)) (.seq (.reg [⟨some 66, .mov (.t 8), none, false⟩, ⟨some 67, .mov (.t 7), none, false⟩, ⟨some 68, .mmx true [.t 66, .t 67], none, false⟩, ⟨some 69, .mov (.t 10), none, false⟩, ⟨some 70, .mov (.t 7), none, false⟩, ⟨some 71, .mmx true [.t 69, .t 70], none, false⟩, ⟨some 8, .mov (.t 68), none, false⟩, ⟨some 10, .mov (.t 71), none, false⟩] [3, 4, 5, 7, 8, 10]) (.seq (.reg [⟨some 72, .faddr 1 (.t 5), none, false⟩, ⟨some 73, .load false 1 (.t 72), none, false⟩, ⟨some 74, .len 4 (.t 73), none, false⟩, ⟨some 11, .mov (.t 74), none, false⟩] [3, 4, 5, 7, 8, 10, 11]) (.seq (.seq (.reg [⟨some 75, .faddr 0 (.t 3), none, false⟩, ⟨some 76, .load false 1 (.t 75), none, false⟩] [4, 5, 7, 8, 10, 11, 76]) (.block 0 (.seq (.reg [⟨some 78, .bin .eql (.t 76) (.c (.int .i64 1)), none, false⟩, ⟨some 77, .mov (.t 78), none, false⟩] [4, 5, 7, 8, 10, 11, 76, 77]) (.cond (.t 77) (.seq (.reg [⟨some 79, .load true 3 (.t 5), none, false⟩, ⟨some 80, .mov (.t 8), none, false⟩, ⟨some 81, .mov (.t 10), none, false⟩, ⟨some 82, .call (.c (.func 20 [] [])) [.t 79, .t 80, .t 81], none, false⟩, ⟨none, .store 1 (.t 4) (.t 82), none, false⟩] [4]) .ret) (.seq (.reg [⟨some 84, .bin .eql (.t 76) (.c (.int .i64 2)), none, false⟩, ⟨some 83, .mov (.t 84), none, false⟩] [4, 5, 7, 8, 10, 11, 76, 83]) (.cond (.t 83) (.seq (.reg [⟨some 85, .load true 3 (.t 5), none, false⟩, ⟨some 86, .mov (.t 7), none, false⟩, ⟨some 87, .mov (.t 8), none, false⟩, ⟨some 88, .call (.c (.func 20 [] [])) [.t 85, .t 86, .t 87], none, true⟩, ⟨some 89, .load true 3 (.t 5), none, false⟩, ⟨some 90, .mov (.t 10), none, false⟩, ⟨some 91, .mov (.t 11), none, false⟩, ⟨some 92, .call (.c (.func 20 [] [])) [.t 89, .t 90, .t 91], none, false⟩, ⟨some 93, .call (.c (.func 70 [] [])) [.t 88, .t 92], none, false⟩, ⟨none, .store 1 (.t 4) (.t 93), none, false⟩] [4]) .ret) (.seq (.reg [⟨some 95, .bin .eql (.t 76) (.c (.int .i64 3)), none, false⟩, ⟨some 94, .mov (.t 95), none, false⟩] [4, 5, 7, 8, 10, 11, 76, 94]) (.cond (.t 94) (.seq (.reg [⟨some 96, .load true 3 (.t 5), none, false⟩, ⟨some 97, .mov (.t 7), none, false⟩, ⟨some 98, .mov (.t 8), none, false⟩, ⟨some 99, .call (.c (.func 20 [] [])) [.t 96, .t 97, .t 98], none, false⟩, ⟨none, .store 1 (.t 4) (.t 99), none, false⟩] [4]) .ret) (.seq (.reg [⟨some 101, .bin .eql (.t 76) (.c (.int .i64 4)), none, false⟩, ⟨some 100, .mov (.t 101), none, false⟩] [4, 5, 7, 8, 10, 11, 76, 100]) (.cond (.t 100) (.seq (.reg [⟨some 102, .load true 3 (.t 5), none, false⟩, ⟨some 103, .mov (.t 7), none, false⟩, ⟨some 104, .mov (.t 10), none, false⟩, ⟨some 105, .call (.c (.func 20 [] [])) [.t 102, .t 103, .t 104], none, false⟩, ⟨none, .store 1 (.t 4) (.t 105), none, false⟩] [4]) .ret) (.seq (.reg [⟨some 107, .bin .eql (.t 76) (.c (.int .i64 5)), none, false⟩, ⟨some 106, .mov (.t 107), none, false⟩] [4, 5, 8, 10, 11, 106]) (.cond (.t 106) (.seq (.reg [⟨some 108, .load true 3 (.t 5), none, false⟩, ⟨some 109, .mov (.t 10), none, false⟩, ⟨some 110, .mov (.t 11), none, false⟩, ⟨some 111, .call (.c (.func 20 [] [])) [.t 108, .t 109, .t 110], none, false⟩, ⟨none, .store 1 (.t 4) (.t 111), none, false⟩] [4]) .ret) .skip)))))))))))) (.seq (.reg [⟨some 112, .load true 3 (.t 5), none, false⟩, ⟨some 113, .mov (.t 8), none, false⟩, ⟨some 114, .mov (.t 11), none, false⟩, ⟨some 115, .call (.c (.func 20 [] [])) [.t 112, .t 113, .t 114], none, false⟩, ⟨none, .store 1 (.t 4) (.t 115), none, false⟩] [4]) .ret))))))))))))
def x38 : XF := ⟨2, b38, [.cell 4 true 1]⟩
def h38 : Yq := fun id => match id with
  | 0 => [2, 3, 4]
  | 1 => [2, 3, 4, 22]
  | 2 => [4]
  | 3 => [3, 4, 5]
  | 4 => [3, 4, 5, 6, 7]
  | 5 => [3, 4, 5, 6, 7, 38]
  | 6 => [4]
  | 7 => [3, 4, 5, 7, 46]
  | 8 => [4]
  | 9 => [3, 4, 5, 7, 8, 9]
  | 10 => [3, 4, 5, 7, 8, 9, 10]
  | 11 => [3, 4, 5, 7, 8, 10, 63]
  | 12 => [3, 4, 5, 7, 8, 10]
  | 13 => [3, 4, 5, 7, 8, 10]
  | 14 => [3, 4, 5, 7, 8, 10, 11]
  | 15 => [4, 5, 7, 8, 10, 11, 76]
  | 16 => [4, 5, 7, 8, 10, 11, 76, 77]
  | 17 => [4]
  | 18 => [4, 5, 7, 8, 10, 11, 76, 83]
  | 19 => [4]
  | 20 => [4, 5, 7, 8, 10, 11, 76, 94]
  | 21 => [4]
  | 22 => [4, 5, 7, 8, 10, 11, 76, 100]
  | 23 => [4]
  | 24 => [4, 5, 8, 10, 11, 106]
  | 25 => [4]
  | 26 => [4]
  | _ => []
theorem cv38 : cvF Tryd.prog h38 Tryd.f38 = some x38 := by kernel_rfl

/-- winnower/winnowerref17.Rows -/
def lp39_0 : XC := .seq (.seq (.reg [⟨some 7, .mov (.t 6), none, false⟩, ⟨some 8, .mov (.t 1), none, false⟩, ⟨some 9, .len 1 (.t 8), none, false⟩, ⟨some 10, .bin .lss (.t 7) (.t 9), none, false⟩] [0, 1, 5, 6, 10]) (.cond (.t 10) .skip (.exit 0))) (.seq (.block 1 (.seq (.reg [⟨some 13, .mov (.t 0), none, false⟩, ⟨some 14, .mov (.t 1), none, false⟩, ⟨some 15, .mov (.t 6), none, false⟩, ⟨some 16, .iaddr 1 (.t 14) (.t 15), none, false⟩, ⟨some 17, .load false 1 (.t 16), none, false⟩, ⟨some 18, .call (.c (.func 75 [] [])) [.t 13, .t 17], none, false⟩] [0, 1, 5, 6, 18]) (.cond (.t 18) (.reg [⟨some 19, .mov (.t 5), none, false⟩, ⟨some 20, .mov (.t 6), none, false⟩, ⟨some 21, .mkslice true 3 1 [.t 20], none, false⟩, ⟨some 22, .app 3 1 8 (.t 19) (.t 21), none, false⟩, ⟨some 5, .mov (.t 22), none, false⟩] [0, 1, 5, 6]) .skip))) (.reg [⟨some 11, .mov (.t 6), none, false⟩, ⟨some 12, .bin .add (.t 11) (.c (.int .i64 1)), none, false⟩, ⟨some 6, .mov (.t 12), none, false⟩] [0, 1, 5, 6]))
def b39 : XC := .seq (.reg [⟨some 4, .mov (.c .nils), none, false⟩] [0, 1]) (.seq (.reg [⟨some 5, .mov (.c .nils), none, false⟩] [0, 1, 5]) (.seq (.seq (.reg [⟨some 6, .mov (.c (.int .i64 0)), none, false⟩] [0, 1, 5, 6]) (.block 0 (.loop lp39_0))) (.seq (.reg [⟨some 23, .mov (.t 5), none, false⟩, ⟨some 4, .mov (.t 23), none, false⟩] [4]) .ret)))
def x39 : XF := ⟨2, b39, [.t 4]⟩
def h39 : Yq := fun id => match id with
  | 0 => [0, 1]
  | 1 => [0, 1, 5]
  | 2 => [0, 1, 5, 6]
  | 3 => [0, 1, 5, 6, 10]
  | 4 => [0, 1, 5, 6]
  | 5 => [0, 1, 5, 6, 18]
  | 6 => [0, 1, 5, 6]
  | 7 => [4]
  | _ => []
theorem cv39 : cvF Tryd.prog h39 Tryd.f39 = some x39 := by kernel_rfl

/-- winnower/winnowerref12.Rows -/
def lp40_0 : XC := .seq (.seq (.reg [⟨some 5, .mov (.t 4), none, false⟩, ⟨some 6, .faddr 4 (.t 1), none, false⟩, ⟨some 7, .load false 1 (.t 6), none, false⟩, ⟨some 8, .len 1 (.t 7), none, false⟩, ⟨some 9, .bin .lss (.t 5) (.t 8), none, false⟩] [1, 3, 4, 9]) (.cond (.t 9) .skip (.exit 0))) (.seq (.block 1 (.reg [⟨some 12, .mov (.t 3), none, false⟩, ⟨some 13, .load true 6 (.t 1), none, false⟩, ⟨some 14, .mov (.t 4), none, false⟩, ⟨some 15, .call (.c (.func 76 [] [])) [.t 13, .t 14], none, false⟩, ⟨some 16, .mkslice true 38 1 [.t 15], none, false⟩, ⟨some 17, .app 38 1 24 (.t 12) (.t 16), none, false⟩, ⟨some 3, .mov (.t 17), none, false⟩] [1, 3, 4])) (.reg [⟨some 10, .mov (.t 4), none, false⟩, ⟨some 11, .bin .add (.t 10) (.c (.int .i64 1)), none, false⟩, ⟨some 4, .mov (.t 11), none, false⟩] [1, 3, 4]))
def b40 : XC := .seq (.reg [⟨some 1, .box 26 (.t 0), none, false⟩, ⟨some 2, .mov (.c .nils), none, false⟩] [1]) (.seq (.reg [⟨some 3, .mov (.c .nils), none, false⟩] [1, 3]) (.seq (.seq (.reg [⟨some 4, .mov (.c (.int .i64 0)), none, false⟩] [1, 3, 4]) (.block 0 (.loop lp40_0))) (.seq (.reg [⟨some 18, .mov (.t 3), none, false⟩, ⟨some 2, .mov (.t 18), none, false⟩] [2]) .ret)))
def x40 : XF := ⟨1, b40, [.t 2]⟩
def h40 : Yq := fun id => match id with
  | 0 => [1]
  | 1 => [1, 3]
  | 2 => [1, 3, 4]
  | 3 => [1, 3, 4, 9]
  | 4 => [1, 3, 4]
  | 5 => [1, 3, 4]
  | 6 => [2]
  | _ => []
theorem cv40 : cvF Tryd.prog h40 Tryd.f40 = some x40 := by kernel_rfl

/-- winnower/winnowerref08.Rises -/
def lp42_0 : XC := .seq (.seq (.reg [⟨some 5, .mov (.t 3), none, false⟩, ⟨some 6, .mov (.t 0), none, false⟩, ⟨some 7, .len 4 (.t 6), none, false⟩, ⟨some 8, .bin .lss (.t 5) (.t 7), none, false⟩] [0, 3, 8]) (.cond (.t 8) .skip (.exit 0))) (.seq (.block 1 (.seq (.reg [⟨some 11, .mov (.t 0), none, false⟩, ⟨some 12, .mov (.t 3), none, false⟩, ⟨some 13, .iaddr 4 (.t 11) (.t 12), none, false⟩, ⟨some 14, .load true 4 (.t 13), none, false⟩, ⟨some 15, .call (.c (.func 77 [] [])) [.t 14], none, false⟩, ⟨some 4, .mov (.t 15), none, false⟩] [0, 3, 4]) (.seq (.reg [⟨some 16, .mov (.t 4), none, false⟩, ⟨some 17, .un .not (.t 16), none, false⟩, ⟨some 18, .mov (.t 17), none, false⟩, ⟨some 19, .mov (.t 3), some (18, false), false⟩, ⟨some 20, .bin .gtr (.t 19) (.c (.int .i64 0)), some (18, false), false⟩, ⟨some 21, .mov (.t 20), some (18, false), false⟩, ⟨some 22, .mov (.t 0), some (21, true), false⟩, ⟨some 23, .mov (.t 3), some (21, true), false⟩, ⟨some 24, .bin .sub (.t 23) (.c (.int .i64 1)), some (21, true), false⟩, ⟨some 25, .iaddr 4 (.t 22) (.t 24), some (21, true), false⟩, ⟨some 26, .load true 4 (.t 25), some (21, true), false⟩, ⟨some 27, .mov (.t 0), some (21, true), false⟩, ⟨some 28, .mov (.t 3), some (21, true), false⟩, ⟨some 29, .iaddr 4 (.t 27) (.t 28), some (21, true), false⟩, ⟨some 30, .load true 4 (.t 29), some (21, true), false⟩, ⟨some 31, .call (.c (.func 78 [] [])) [.t 26, .t 30], some (21, true), false⟩, ⟨some 32, .bin .geq (.t 31) (.c (.int .i64 0)), some (21, true), false⟩, ⟨some 33, .pick (.t 21) (.t 32) (.c (.bool false)), some (18, false), false⟩, ⟨some 34, .pick (.t 18) (.c (.bool true)) (.t 33), none, false⟩] [0, 3, 34]) (.cond (.t 34) (.seq (.reg [⟨some 2, .mov (.c (.bool false)), none, false⟩] [2]) .ret) .skip)))) (.reg [⟨some 9, .mov (.t 3), none, false⟩, ⟨some 10, .bin .add (.t 9) (.c (.int .i64 1)), none, false⟩, ⟨some 3, .mov (.t 10), none, false⟩] [0, 3]))
def b42 : XC := .seq (.reg [⟨some 2, .mov (.c (.bool false)), none, false⟩] [0]) (.seq (.seq (.reg [⟨some 3, .mov (.c (.int .i64 0)), none, false⟩] [0, 3]) (.block 0 (.loop lp42_0))) (.seq (.reg [⟨some 2, .mov (.c (.bool true)), none, false⟩] [2]) .ret))
def x42 : XF := ⟨1, b42, [.t 2]⟩
def h42 : Yq := fun id => match id with
  | 0 => [0]
  | 1 => [0, 3]
  | 2 => [0, 3, 8]
  | 3 => [0, 3]
  | 4 => [0, 3, 4]
  | 5 => [0, 3, 34]
  | 6 => [2]
  | 7 => [2]
  | _ => []
theorem cv42 : cvF Tryd.prog h42 Tryd.f42 = some x42 := by kernel_rfl

/-- winnower/winnowerref02.Unpack -/
def lp43_0 : XC := .seq (.seq (.reg [⟨some 41, .mov (.t 10), none, false⟩, ⟨some 42, .mov (.t 1), none, false⟩, ⟨some 43, .bin .lss (.t 41) (.t 42), none, false⟩] [1, 2, 8, 9, 10, 43]) (.cond (.t 43) .skip (.exit 0))) (.seq (.block 1 (.reg [⟨some 46, .mov (.t 9), none, false⟩, ⟨some 47, .mov (.t 8), none, false⟩, ⟨some 48, .mov (.t 10), none, false⟩, ⟨some 49, .mov (.t 2), none, false⟩, ⟨some 50, .bin .mul (.t 48) (.t 49), none, false⟩, ⟨some 51, .mov (.t 10), none, false⟩, ⟨some 52, .bin .add (.t 51) (.c (.int .i64 1)), none, false⟩, ⟨some 53, .mov (.t 2), none, false⟩, ⟨some 54, .bin .mul (.t 52) (.t 53), none, false⟩, ⟨some 55, .slc 1 (.t 47) (some (.t 50)) (some (.t 54)) none, none, false⟩, ⟨some 56, .call (.c (.func 80 [] [])) [.t 55], none, false⟩, ⟨some 57, .mkslice true 3 1 [.t 56], none, false⟩, ⟨some 58, .app 3 1 8 (.t 46) (.t 57), none, false⟩, ⟨some 9, .mov (.t 58), none, false⟩] [1, 2, 8, 9, 10])) (.reg [⟨some 44, .mov (.t 10), none, false⟩, ⟨some 45, .bin .add (.t 44) (.c (.int .i64 1)), none, false⟩, ⟨some 10, .mov (.t 45), none, false⟩] [1, 2, 8, 9, 10]))
def lp43_1 : XC := .seq (.seq (.reg [⟨some 62, .mov (.t 11), none, false⟩, ⟨some 63, .mov (.t 8), none, false⟩, ⟨some 64, .len 1 (.t 63), none, false⟩, ⟨some 65, .bin .lss (.t 62) (.t 64), none, false⟩] [8, 9, 11, 65]) (.cond (.t 65) .skip (.exit 2))) (.seq (.block 3 (.seq (.reg [⟨some 68, .mov (.t 8), none, false⟩, ⟨some 69, .mov (.t 11), none, false⟩, ⟨some 70, .iaddr 1 (.t 68) (.t 69), none, false⟩, ⟨some 71, .load false 1 (.t 70), none, false⟩, ⟨some 72, .bin .neq (.t 71) (.c (.int .i64 0)), none, false⟩] [8, 9, 11, 72]) (.cond (.t 72) (.seq (.reg [⟨some 6, .mov (.c .nils), none, false⟩, ⟨some 7, .mov (.c (.int .i64 7)), none, false⟩] [6, 7]) .ret) .skip))) (.reg [⟨some 66, .mov (.t 11), none, false⟩, ⟨some 67, .bin .add (.t 66) (.c (.int .i64 1)), none, false⟩, ⟨some 11, .mov (.t 67), none, false⟩] [8, 9, 11]))
def b43 : XC := .seq (.reg [⟨some 6, .mov (.c .nils), none, false⟩, ⟨some 7, .mov (.c (.int .i64 0)), none, false⟩] [0, 1, 2]) (.seq (.seq (.reg [⟨some 12, .mov (.t 2), none, false⟩, ⟨some 13, .bin .lss (.t 12) (.c (.int .i64 0)), none, false⟩, ⟨some 14, .mov (.t 13), none, false⟩, ⟨some 15, .mov (.t 2), some (14, false), false⟩, ⟨some 16, .bin .gtr (.t 15) (.c (.int .i64 62)), some (14, false), false⟩, ⟨some 17, .pick (.t 14) (.c (.bool true)) (.t 16), none, false⟩, ⟨some 18, .mov (.t 17), none, false⟩, ⟨some 19, .mov (.t 1), some (18, false), false⟩, ⟨some 20, .bin .lss (.t 19) (.c (.int .i64 0)), some (18, false), false⟩, ⟨some 21, .pick (.t 18) (.c (.bool true)) (.t 20), none, false⟩] [0, 1, 2, 21]) (.cond (.t 21) (.seq (.reg [⟨some 6, .mov (.c .nils), none, false⟩, ⟨some 7, .mov (.c (.int .i64 1)), none, false⟩] [6, 7]) .ret) .skip)) (.seq (.seq (.reg [⟨some 22, .mov (.t 1), none, false⟩, ⟨some 23, .bin .gtr (.t 22) (.c (.int .i64 4096)), none, false⟩] [0, 1, 2, 23]) (.cond (.t 23) (.seq (.reg [⟨some 6, .mov (.c .nils), none, false⟩, ⟨some 7, .mov (.c (.int .i64 2)), none, false⟩] [6, 7]) .ret) .skip)) (.seq (.seq (.reg [⟨some 24, .mov (.t 0), none, false⟩, ⟨some 25, .len 1 (.t 24), none, false⟩, ⟨some 26, .bin .mul (.c (.int .i64 8)) (.t 25), none, false⟩, ⟨some 27, .mov (.t 1), none, false⟩, ⟨some 28, .mov (.t 2), none, false⟩, ⟨some 29, .bin .mul (.t 27) (.t 28), none, false⟩, ⟨some 30, .bin .lss (.t 26) (.t 29), none, false⟩] [0, 1, 2, 30]) (.cond (.t 30) (.seq (.reg [⟨some 6, .mov (.c .nils), none, false⟩, ⟨some 7, .mov (.c (.int .i64 6)), none, false⟩] [6, 7]) .ret) .skip)) (.seq (.seq (.reg [⟨some 31, .mov (.t 0), none, false⟩, ⟨some 32, .len 1 (.t 31), none, false⟩, ⟨some 33, .mov (.t 1), none, false⟩, ⟨some 34, .mov (.t 2), none, false⟩, ⟨some 35, .bin .mul (.t 33) (.t 34), none, false⟩, ⟨some 36, .bin .add (.t 35) (.c (.int .i64 7)), none, false⟩, ⟨some 37, .bin .quo (.t 36) (.c (.int .i64 8)), none, false⟩, ⟨some 38, .bin .gtr (.t 32) (.t 37), none, false⟩] [0, 1, 2, 38]) (.cond (.t 38) (.seq (.reg [⟨some 6, .mov (.c .nils), none, false⟩, ⟨some 7, .mov (.c (.int .i64 7)), none, false⟩] [6, 7]) .ret) .skip)) (.seq (.reg [⟨some 39, .mov (.t 0), none, false⟩, ⟨some 40, .call (.c (.func 79 [] [])) [.t 39], none, false⟩, ⟨some 8, .mov (.t 40), none, false⟩] [1, 2, 8]) (.seq (.reg [⟨some 9, .mov (.c .nils), none, false⟩] [1, 2, 8, 9]) (.seq (.seq (.reg [⟨some 10, .mov (.c (.int .i64 0)), none, false⟩] [1, 2, 8, 9, 10]) (.block 0 (.loop lp43_0))) (.seq (.seq (.reg [⟨some 59, .mov (.t 1), none, false⟩, ⟨some 60, .mov (.t 2), none, false⟩, ⟨some 61, .bin .mul (.t 59) (.t 60), none, false⟩, ⟨some 11, .mov (.t 61), none, false⟩] [8, 9, 11]) (.block 2 (.loop lp43_1))) (.seq (.reg [⟨some 73, .mov (.t 9), none, false⟩, ⟨some 6, .mov (.t 73), none, false⟩, ⟨some 7, .mov (.c (.int .i64 0)), none, false⟩] [6, 7]) .ret)))))))))
def x43 : XF := ⟨3, b43, [.t 6, .t 7]⟩
def h43 : Yq := fun id => match id with
  | 0 => [0, 1, 2]
  | 1 => [0, 1, 2, 21]
  | 2 => [6, 7]
  | 3 => [0, 1, 2, 23]
  | 4 => [6, 7]
  | 5 => [0, 1, 2, 30]
  | 6 => [6, 7]
  | 7 => [0, 1, 2, 38]
  | 8 => [6, 7]
  | 9 => [1, 2, 8]
  | 10 => [1, 2, 8, 9]
  | 11 => [1, 2, 8, 9, 10]
  | 12 => [1, 2, 8, 9, 10, 43]
  | 13 => [1, 2, 8, 9, 10]
  | 14 => [1, 2, 8, 9, 10]
  | 15 => [8, 9, 11]
  | 16 => [8, 9, 11, 65]
  | 17 => [8, 9, 11]
  | 18 => [8, 9, 11, 72]
  | 19 => [6, 7]
  | 20 => [6, 7]
  | _ => []
theorem cv43 : cvF Tryd.prog h43 Tryd.f43 = some x43 := by kernel_rfl

/-- winnower/winnowerref10.width -/
def b44 : XC := .seq (.reg [⟨some 2, .mov (.c (.int .i64 0)), none, false⟩] [0]) (.seq (.reg [⟨some 3, .mov (.t 0), none, false⟩, ⟨some 4, .bin .sub (.t 3) (.c (.int .i64 1)), none, false⟩, ⟨some 5, .call (.c (.func 81 [] [])) [.t 4], none, false⟩, ⟨some 2, .mov (.t 5), none, false⟩] [2]) .ret)
def x44 : XF := ⟨1, b44, [.t 2]⟩
def h44 : Yq := fun id => match id with
  | 0 => [0]
  | 1 => [2]
  | _ => []
theorem cv44 : cvF Tryd.prog h44 Tryd.f44 = some x44 := by kernel_rfl

/-- winnower/column.ids -/
def lp45_0 : XC := .seq (.reg [⟨some 39, .bin .lss (.t 38) (.t 37), none, false⟩] [1, 4, 5, 6, 36, 37, 38, 39]) (.seq (.cond (.t 39) .skip (.exit 0)) (.seq (.block 1 (.seq (.reg [⟨some 40, .iaddr 1 (.t 36) (.t 38), none, false⟩, ⟨some 41, .load false 1 (.t 40), none, false⟩, ⟨some 8, .mov (.t 41), none, false⟩] [1, 4, 5, 6, 8, 36, 37, 38]) (.seq (.seq (.reg [⟨some 42, .mov (.t 8), none, false⟩, ⟨some 43, .faddr 1 (.t 1), none, false⟩, ⟨some 44, .load false 1 (.t 43), none, false⟩, ⟨some 45, .len 4 (.t 44), none, false⟩, ⟨some 46, .bin .geq (.t 42) (.t 45), none, false⟩] [1, 4, 5, 6, 8, 36, 37, 38, 46]) (.cond (.t 46) (.seq (.reg [⟨some 2, .mov (.c .nils), none, false⟩, ⟨some 3, .mov (.c (.bool false)), none, false⟩] [2, 3]) .ret) .skip)) (.reg [⟨some 47, .mov (.t 6), none, false⟩, ⟨some 48, .mov (.t 8), none, false⟩, ⟨none, .mset false [1] (.t 47) (.t 48) (.c (.bool true)), none, false⟩] [1, 4, 5, 6, 36, 37, 38])))) (.reg [⟨some 49, .bin .add (.t 38) (.c (.int .i64 1)), none, false⟩, ⟨some 38, .mov (.t 49), none, false⟩] [1, 4, 5, 6, 36, 37, 38])))
def b45 : XC := .seq (.reg [⟨some 1, .box 41 (.t 0), none, false⟩, ⟨some 2, .mov (.c .nils), none, false⟩, ⟨some 3, .mov (.c (.bool false)), none, false⟩] [1]) (.seq (.seq (.reg [⟨some 9, .faddr 0 (.t 1), none, false⟩, ⟨some 10, .load false 1 (.t 9), none, false⟩, ⟨some 11, .bin .lss (.t 10) (.c (.int .i64 0)), none, false⟩, ⟨some 12, .mov (.t 11), none, false⟩, ⟨some 13, .faddr 0 (.t 1), some (12, false), false⟩, ⟨some 14, .load false 1 (.t 13), some (12, false), false⟩, ⟨some 15, .bin .gtr (.t 14) (.c (.int .i64 4096)), some (12, false), false⟩, ⟨some 16, .pick (.t 12) (.c (.bool true)) (.t 15), none, false⟩, ⟨some 17, .mov (.t 16), none, false⟩, ⟨some 18, .faddr 1 (.t 1), some (17, false), false⟩, ⟨some 19, .load false 1 (.t 18), some (17, false), false⟩, ⟨some 20, .call (.c (.func 82 [] [])) [.t 19], some (17, false), false⟩, ⟨some 21, .un .not (.t 20), some (17, false), false⟩, ⟨some 22, .pick (.t 17) (.c (.bool true)) (.t 21), none, false⟩] [1, 22]) (.cond (.t 22) (.seq (.reg [⟨some 2, .mov (.c .nils), none, false⟩, ⟨some 3, .mov (.c (.bool false)), none, false⟩] [2, 3]) .ret) .skip)) (.seq (.reg [⟨some 24, .faddr 2 (.t 1), none, false⟩, ⟨some 25, .load false 1 (.t 24), none, false⟩, ⟨some 26, .faddr 0 (.t 1), none, false⟩, ⟨some 27, .load false 1 (.t 26), none, false⟩, ⟨some 28, .faddr 1 (.t 1), none, false⟩, ⟨some 29, .load false 1 (.t 28), none, false⟩, ⟨some 30, .len 4 (.t 29), none, false⟩, ⟨some 31, .call (.c (.func 47 [] [])) [.t 30], none, true⟩, ⟨some 32, .call (.c (.func 83 [] [])) [.t 25, .t 27, .t 31], none, false⟩, ⟨some 23, .mov (.t 32), none, false⟩, ⟨some 33, .ext (.t 23) 0, none, false⟩, ⟨some 34, .ext (.t 23) 1, none, false⟩, ⟨some 4, .mov (.t 33), none, false⟩, ⟨some 5, .mov (.t 34), none, false⟩] [1, 4, 5]) (.seq (.reg [⟨some 35, .mkmap none, none, false⟩, ⟨some 6, .mov (.t 35), none, false⟩] [1, 4, 5, 6]) (.seq (.seq (.reg [⟨some 36, .mov (.t 4), none, false⟩, ⟨some 37, .len 1 (.t 36), none, false⟩, ⟨some 38, .mov (.c (.int .i64 0)), none, false⟩] [1, 4, 5, 6, 36, 37, 38]) (.block 0 (.loop lp45_0))) (.seq (.reg [⟨some 50, .mov (.t 4), none, false⟩, ⟨some 51, .mov (.t 5), none, false⟩, ⟨some 52, .bin .eql (.t 51) (.c (.int .i64 0)), none, false⟩, ⟨some 53, .mov (.t 52), none, false⟩, ⟨some 54, .mov (.t 6), some (53, true), false⟩, ⟨some 55, .mlen (.t 54), some (53, true), false⟩, ⟨some 56, .faddr 1 (.t 1), some (53, true), false⟩, ⟨some 57, .load false 1 (.t 56), some (53, true), false⟩, ⟨some 58, .len 4 (.t 57), some (53, true), false⟩, ⟨some 59, .bin .eql (.t 55) (.t 58), some (53, true), false⟩, ⟨some 60, .pick (.t 53) (.t 59) (.c (.bool false)), none, false⟩, ⟨some 2, .mov (.t 50), none, false⟩, ⟨some 3, .mov (.t 60), none, false⟩] [2, 3]) .ret)))))
def x45 : XF := ⟨1, b45, [.t 2, .t 3]⟩
def h45 : Yq := fun id => match id with
  | 0 => [1]
  | 1 => [1, 22]
  | 2 => [2, 3]
  | 3 => [1, 4, 5]
  | 4 => [1, 4, 5, 6]
  | 5 => [1, 4, 5, 6, 36, 37, 38]
  | 6 => [1, 4, 5, 6, 36, 37, 38, 39]
  | 7 => [1, 4, 5, 6, 8, 36, 37, 38]
  | 8 => [1, 4, 5, 6, 8, 36, 37, 38, 46]
  | 9 => [2, 3]
  | 10 => [1, 4, 5, 6, 36, 37, 38]
  | 11 => [1, 4, 5, 6, 36, 37, 38]
  | 12 => [2, 3]
  | _ => []
theorem cv45 : cvF Tryd.prog h45 Tryd.f45 = some x45 := by kernel_rfl

/-- winnower/column.width -/
def b47 : XC := .seq (.reg [⟨some 2, .mov (.c (.int .i64 0)), none, false⟩] [0]) (.seq (.reg [⟨some 3, .mov (.t 0), none, false⟩, ⟨some 4, .bin .sub (.t 3) (.c (.int .i64 1)), none, false⟩, ⟨some 5, .call (.c (.func 86 [] [])) [.t 4], none, false⟩, ⟨some 2, .mov (.t 5), none, false⟩] [2]) .ret)
def x47 : XF := ⟨1, b47, [.t 2]⟩
def h47 : Yq := fun id => match id with
  | 0 => [0]
  | 1 => [2]
  | _ => []
theorem cv47 : cvF Tryd.prog h47 Tryd.f47 = some x47 := by kernel_rfl

/-- winnower/column.rows -/
def lp48_0 : XC := .seq (.reg [⟨some 18, .bin .lss (.t 17) (.t 16), none, false⟩] [1, 4, 6, 7, 15, 16, 17, 18]) (.seq (.cond (.t 18) .skip (.exit 0)) (.seq (.block 1 (.seq (.reg [⟨some 19, .mov (.t 17), none, false⟩, ⟨some 20, .iaddr 1 (.t 15) (.t 17), none, false⟩, ⟨some 21, .load false 1 (.t 20), none, false⟩, ⟨some 8, .mov (.t 19), none, false⟩, ⟨some 9, .mov (.t 21), none, false⟩] [1, 4, 6, 7, 8, 9, 15, 16, 17]) (.seq (.reg [⟨some 22, .mov (.t 6), none, false⟩, ⟨some 23, .mov (.t 22), none, false⟩, ⟨some 24, .mov (.t 1), some (23, true), false⟩, ⟨some 25, .mov (.t 9), some (23, true), false⟩, ⟨some 26, .call (.t 24) [.t 25], some (23, true), false⟩, ⟨some 27, .pick (.t 23) (.t 26) (.c (.bool false)), none, false⟩] [1, 4, 6, 7, 8, 15, 16, 17, 27]) (.cond (.t 27) (.reg [⟨some 28, .mov (.t 7), none, false⟩, ⟨some 29, .mov (.t 8), none, false⟩, ⟨some 30, .mkslice true 3 1 [.t 29], none, false⟩, ⟨some 31, .app 3 1 8 (.t 28) (.t 30), none, false⟩, ⟨some 7, .mov (.t 31), none, false⟩] [1, 4, 6, 7, 15, 16, 17]) .skip)))) (.reg [⟨some 32, .bin .add (.t 17) (.c (.int .i64 1)), none, false⟩, ⟨some 17, .mov (.t 32), none, false⟩] [1, 4, 6, 7, 15, 16, 17])))
def b48 : XC := .seq (.reg [⟨some 2, .box 41 (.t 0), none, false⟩, ⟨some 4, .alloc 34 [.nils], none, false⟩] [1, 2, 4]) (.seq (.reg [⟨some 11, .load true 3 (.t 2), none, false⟩, ⟨some 12, .call (.c (.func 45 [] [])) [.t 11], none, false⟩, ⟨some 10, .mov (.t 12), none, false⟩, ⟨some 13, .ext (.t 10) 0, none, false⟩, ⟨some 14, .ext (.t 10) 1, none, false⟩, ⟨some 5, .mov (.t 13), none, false⟩, ⟨some 6, .mov (.t 14), none, false⟩] [1, 4, 5, 6]) (.seq (.reg [⟨some 7, .mov (.c .nils), none, false⟩] [1, 4, 5, 6, 7]) (.seq (.seq (.reg [⟨some 15, .mov (.t 5), none, false⟩, ⟨some 16, .len 1 (.t 15), none, false⟩, ⟨some 17, .mov (.c (.int .i64 0)), none, false⟩] [1, 4, 6, 7, 15, 16, 17]) (.block 0 (.loop lp48_0))) (.seq (.reg [⟨some 33, .mov (.t 7), none, false⟩, ⟨some 34, .call (.c (.func 87 [] [])) [.t 33], none, false⟩, ⟨none, .store 1 (.t 4) (.t 34), none, false⟩] [4]) .ret))))
def x48 : XF := ⟨2, b48, [.cell 4 true 1]⟩
def h48 : Yq := fun id => match id with
  | 0 => [1, 2, 4]
  | 1 => [1, 4, 5, 6]
  | 2 => [1, 4, 5, 6, 7]
  | 3 => [1, 4, 6, 7, 15, 16, 17]
  | 4 => [1, 4, 6, 7, 15, 16, 17, 18]
  | 5 => [1, 4, 6, 7, 8, 9, 15, 16, 17]
  | 6 => [1, 4, 6, 7, 8, 15, 16, 17, 27]
  | 7 => [1, 4, 6, 7, 15, 16, 17]
  | 8 => [1, 4, 6, 7, 15, 16, 17]
  | 9 => [4]
  | _ => []
theorem cv48 : cvF Tryd.prog h48 Tryd.f48 = some x48 := by kernel_rfl

/-- winnower/column.Range$1 -/
def b49 : XC := .seq (.reg [⟨some 4, .mov (.c (.bool false)), none, false⟩] [0, 1, 2]) (.seq (.reg [⟨some 5, .mov (.t 0), none, false⟩, ⟨some 6, .load false 1 (.t 1), none, false⟩, ⟨some 7, .bin .geq (.t 5) (.t 6), none, false⟩, ⟨some 8, .mov (.t 7), none, false⟩, ⟨some 9, .mov (.t 0), some (8, true), false⟩, ⟨some 10, .load false 1 (.t 2), some (8, true), false⟩, ⟨some 11, .bin .lss (.t 9) (.t 10), some (8, true), false⟩, ⟨some 12, .pick (.t 8) (.t 11) (.c (.bool false)), none, false⟩, ⟨some 4, .mov (.t 12), none, false⟩] [4]) .ret)
def x49 : XF := ⟨3, b49, [.t 4]⟩
def h49 : Yq := fun id => match id with
  | 0 => [0, 1, 2]
  | 1 => [4]
  | _ => []
theorem cv49 : cvF Tryd.prog h49 Tryd.f49 = some x49 := by kernel_rfl

/-- (winnower/filter.batch).leaf -/
def lp61_0 : XC := .seq (.reg [⟨some 11, .bin .lss (.t 10) (.t 9), none, false⟩] [3, 4, 5, 8, 9, 10, 11]) (.seq (.cond (.t 11) .skip (.exit 0)) (.seq (.block 1 (.seq (.reg [⟨some 12, .mov (.t 10), none, false⟩, ⟨some 13, .iaddr 1 (.t 8) (.t 10), none, false⟩, ⟨some 14, .load false 1 (.t 13), none, false⟩, ⟨some 6, .mov (.t 12), none, false⟩, ⟨some 7, .mov (.t 14), none, false⟩] [3, 4, 5, 6, 7, 8, 9, 10]) (.seq (.reg [⟨some 15, .faddr 1 (.t 3), none, false⟩, ⟨some 16, .load false 1 (.t 15), none, false⟩, ⟨some 17, .bin .geq (.t 16) (.c (.int .i64 0)), none, false⟩, ⟨some 18, .mov (.t 17), none, false⟩, ⟨some 19, .faddr 1 (.t 3), some (18, true), false⟩, ⟨some 20, .load false 1 (.t 19), some (18, true), false⟩, ⟨some 21, .mov (.t 7), some (18, true), false⟩, ⟨some 22, .len 4 (.t 21), some (18, true), false⟩, ⟨some 23, .bin .lss (.t 20) (.t 22), some (18, true), false⟩, ⟨some 24, .pick (.t 18) (.t 23) (.c (.bool false)), none, false⟩, ⟨some 25, .mov (.t 24), none, false⟩, ⟨some 26, .load true 8 (.t 3), some (25, true), false⟩, ⟨some 27, .mov (.t 7), some (25, true), false⟩, ⟨some 28, .faddr 1 (.t 3), some (25, true), false⟩, ⟨some 29, .load false 1 (.t 28), some (25, true), false⟩, ⟨some 30, .iaddr 4 (.t 27) (.t 29), some (25, true), false⟩, ⟨some 31, .load true 4 (.t 30), some (25, true), false⟩, ⟨some 32, .call (.c (.func 104 [] [])) [.t 26, .t 31], some (25, true), false⟩, ⟨some 33, .pick (.t 25) (.t 32) (.c (.bool false)), none, false⟩] [3, 4, 5, 6, 8, 9, 10, 33]) (.cond (.t 33) (.reg [⟨some 34, .mov (.t 5), none, false⟩, ⟨some 35, .mov (.t 6), none, false⟩, ⟨some 36, .mkslice true 3 1 [.t 35], none, false⟩, ⟨some 37, .app 3 1 8 (.t 34) (.t 36), none, false⟩, ⟨some 5, .mov (.t 37), none, false⟩] [3, 4, 5, 8, 9, 10]) .skip)))) (.reg [⟨some 38, .bin .add (.t 10) (.c (.int .i64 1)), none, false⟩, ⟨some 10, .mov (.t 38), none, false⟩] [3, 4, 5, 8, 9, 10])))
def b61 : XC := .seq (.reg [⟨some 3, .box 70 (.t 1), none, false⟩, ⟨some 4, .alloc 34 [.nils], none, false⟩] [0, 3, 4]) (.seq (.reg [⟨some 5, .mov (.c .nils), none, false⟩] [0, 3, 4, 5]) (.seq (.seq (.reg [⟨some 8, .mov (.t 0), none, false⟩, ⟨some 9, .len 1 (.t 8), none, false⟩, ⟨some 10, .mov (.c (.int .i64 0)), none, false⟩] [3, 4, 5, 8, 9, 10]) (.block 0 (.loop lp61_0))) (.seq (.reg [⟨some 39, .mov (.t 5), none, false⟩, ⟨some 40, .call (.c (.func 87 [] [])) [.t 39], none, false⟩, ⟨none, .store 1 (.t 4) (.t 40), none, false⟩] [4]) .ret)))
def x61 : XF := ⟨2, b61, [.cell 4 true 1]⟩
def h61 : Yq := fun id => match id with
  | 0 => [0, 3, 4]
  | 1 => [0, 3, 4, 5]
  | 2 => [3, 4, 5, 8, 9, 10]
  | 3 => [3, 4, 5, 8, 9, 10, 11]
  | 4 => [3, 4, 5, 6, 7, 8, 9, 10]
  | 5 => [3, 4, 5, 6, 8, 9, 10, 33]
  | 6 => [3, 4, 5, 8, 9, 10]
  | 7 => [3, 4, 5, 8, 9, 10]
  | 8 => [4]
  | _ => []
theorem cv61 : cvF Tryd.prog h61 Tryd.f61 = some x61 := by kernel_rfl

/-- (winnower/bitset.Set).Has -/
def b62 : XC := .seq (.reg [⟨some 2, .box 34 (.t 0), none, false⟩, ⟨some 4, .mov (.c (.bool false)), none, false⟩] [1, 2]) (.seq (.reg [⟨some 5, .mov (.t 1), none, false⟩, ⟨some 6, .call (.c (.func 105 [] [])) [.t 5], none, false⟩, ⟨some 7, .mov (.t 6), none, false⟩, ⟨some 8, .load true 1 (.t 2), some (7, true), false⟩, ⟨some 9, .mov (.t 1), some (7, true), false⟩, ⟨some 10, .bin .quo (.t 9) (.c (.int .i64 64)), some (7, true), false⟩, ⟨some 11, .call (.c (.func 106 [] [])) [.t 8, .t 10], some (7, true), false⟩, ⟨some 12, .mov (.t 1), some (7, true), false⟩, ⟨some 13, .bin .rem (.t 12) (.c (.int .i64 64)), some (7, true), false⟩, ⟨some 14, .bin .shr (.t 11) (.t 13), some (7, true), false⟩, ⟨some 15, .bin .and (.t 14) (.c (.int .u64 1)), some (7, true), false⟩, ⟨some 16, .bin .eql (.t 15) (.c (.int .u64 1)), some (7, true), false⟩, ⟨some 17, .pick (.t 7) (.t 16) (.c (.bool false)), none, false⟩, ⟨some 4, .mov (.t 17), none, false⟩] [4]) .ret)
def x62 : XF := ⟨2, b62, [.t 4]⟩
def h62 : Yq := fun id => match id with
  | 0 => [1, 2]
  | 1 => [4]
  | _ => []
theorem cv62 : cvF Tryd.prog h62 Tryd.f62 = some x62 := by kernel_rfl

/-- slices.IndexFunc[[]winnower/api.Column,winnower/api.Column] -/
def lp65_0 : XC := .seq (.reg [⟨some 9, .bin .lss (.t 8) (.t 7), none, false⟩] [0, 1, 7, 8, 9]) (.seq (.cond (.t 9) .skip (.exit 0)) (.seq (.block 1 (.seq (.reg [⟨some 10, .mov (.t 8), none, false⟩, ⟨some 5, .mov (.t 10), none, false⟩] [0, 1, 5, 7, 8]) (.seq (.reg [⟨some 11, .mov (.t 1), none, false⟩, ⟨some 12, .mov (.t 0), none, false⟩, ⟨some 13, .mov (.t 5), none, false⟩, ⟨some 14, .iaddr 3 (.t 12) (.t 13), none, false⟩, ⟨some 15, .load true 3 (.t 14), none, false⟩, ⟨some 16, .call (.t 11) [.t 15], none, false⟩] [0, 1, 5, 7, 8, 16]) (.cond (.t 16) (.seq (.reg [⟨some 17, .mov (.t 5), none, false⟩, ⟨some 4, .mov (.t 17), none, false⟩] [4]) .ret) .skip)))) (.reg [⟨some 18, .bin .add (.t 8) (.c (.int .i64 1)), none, false⟩, ⟨some 8, .mov (.t 18), none, false⟩] [0, 1, 7, 8])))
def b65 : XC := .seq (.reg [⟨some 4, .mov (.c (.int .i64 0)), none, false⟩] [0, 1]) (.seq (.seq (.reg [⟨some 6, .mov (.t 0), none, false⟩, ⟨some 7, .len 3 (.t 6), none, false⟩, ⟨some 8, .mov (.c (.int .i64 0)), none, false⟩] [0, 1, 7, 8]) (.block 0 (.loop lp65_0))) (.seq (.reg [⟨some 4, .mov (.c (.int .i64 (-1))), none, false⟩] [4]) .ret))
def x65 : XF := ⟨2, b65, [.t 4]⟩
def h65 : Yq := fun id => match id with
  | 0 => [0, 1]
  | 1 => [0, 1, 7, 8]
  | 2 => [0, 1, 7, 8, 9]
  | 3 => [0, 1, 5, 7, 8]
  | 4 => [0, 1, 5, 7, 8, 16]
  | 5 => [4]
  | 6 => [0, 1, 7, 8]
  | 7 => [4]
  | _ => []
theorem cv65 : cvF Tryd.prog h65 Tryd.f65 = some x65 := by kernel_rfl

/-- winnower/bitset.Upto -/
def b66 : XC := .seq (.reg [⟨some 1, .box 3 (.t 0), none, false⟩, ⟨some 2, .alloc 34 [.nils], none, false⟩] [1, 2]) (.seq (.reg [⟨some 3, .load false 1 (.t 1), none, false⟩, ⟨some 4, .mmx true [.t 3, .c (.int .i64 0)], none, false⟩, ⟨some 5, .mmx false [.t 4, .c (.int .i64 65536)], none, false⟩, ⟨none, .store 1 (.t 1) (.t 5), none, false⟩] [1, 2]) (.seq (.reg [⟨some 6, .load false 1 (.t 1), none, false⟩, ⟨some 7, .bin .add (.t 6) (.c (.int .i64 64)), none, false⟩, ⟨some 8, .bin .sub (.t 7) (.c (.int .i64 1)), none, false⟩, ⟨some 9, .bin .quo (.t 8) (.c (.int .i64 64)), none, false⟩, ⟨some 10, .mkfn 108 [] [.t 1], none, false⟩, ⟨some 11, .call (.c (.func 107 [] [])) [.t 9, .t 10], none, false⟩, ⟨none, .store 1 (.t 2) (.t 11), none, false⟩] [2]) .ret))
def x66 : XF := ⟨1, b66, [.cell 2 true 1]⟩
def h66 : Yq := fun id => match id with
  | 0 => [1, 2]
  | 1 => [1, 2]
  | 2 => [2]
  | _ => []
theorem cv66 : cvF Tryd.prog h66 Tryd.f66 = some x66 := by kernel_rfl

/-- winnower/filter.sets$1 -/
def b67 : XC := .seq (.reg [⟨some 3, .mov (.c (.bool false)), none, false⟩] [0, 1]) (.seq (.reg [⟨some 4, .mov (.t 0), none, false⟩, ⟨some 5, .bin .geq (.t 4) (.c (.int .i64 0)), none, false⟩, ⟨some 6, .mov (.t 5), none, false⟩, ⟨some 7, .mov (.t 0), some (6, true), false⟩, ⟨some 8, .load false 1 (.t 1), some (6, true), false⟩, ⟨some 9, .len 1 (.t 8), some (6, true), false⟩, ⟨some 10, .bin .lss (.t 7) (.t 9), some (6, true), false⟩, ⟨some 11, .pick (.t 6) (.t 10) (.c (.bool false)), none, false⟩, ⟨some 3, .mov (.t 11), none, false⟩] [3]) .ret)
def x67 : XF := ⟨2, b67, [.t 3]⟩
def h67 : Yq := fun id => match id with
  | 0 => [0, 1]
  | 1 => [3]
  | _ => []
theorem cv67 : cvF Tryd.prog h67 Tryd.f67 = some x67 := by kernel_rfl

/-- (winnower/bitset.Set).Not -/
def b68 : XC := .seq (.reg [⟨some 2, .box 34 (.t 0), none, false⟩, ⟨some 4, .alloc 34 [.nils], none, false⟩] [1, 2, 4]) (.seq (.reg [⟨some 6, .mov (.t 1), none, false⟩, ⟨some 7, .call (.c (.func 66 [] [])) [.t 6], none, false⟩, ⟨some 5, .alloc 34 [.nils], none, false⟩, ⟨none, .store 1 (.t 5) (.t 7), none, false⟩] [2, 4, 5]) (.seq (.reg [⟨some 8, .faddr 0 (.t 5), none, false⟩, ⟨some 9, .load false 1 (.t 8), none, false⟩, ⟨some 10, .len 1 (.t 9), none, false⟩, ⟨some 11, .mkfn 109 [] [.t 5, .t 2], none, false⟩, ⟨some 12, .call (.c (.func 107 [] [])) [.t 10, .t 11], none, false⟩, ⟨none, .store 1 (.t 4) (.t 12), none, false⟩] [4]) .ret))
def x68 : XF := ⟨2, b68, [.cell 4 true 1]⟩
def h68 : Yq := fun id => match id with
  | 0 => [1, 2, 4]
  | 1 => [2, 4, 5]
  | 2 => [4]
  | _ => []
theorem cv68 : cvF Tryd.prog h68 Tryd.f68 = some x68 := by kernel_rfl

/-- (winnower/bitset.Set).And -/
def b69 : XC := .seq (.reg [⟨some 2, .box 34 (.t 0), none, false⟩, ⟨some 3, .box 34 (.t 1), none, false⟩, ⟨some 4, .alloc 34 [.nils], none, false⟩] [2, 3, 4]) (.seq (.reg [⟨some 5, .faddr 0 (.t 2), none, false⟩, ⟨some 6, .load false 1 (.t 5), none, false⟩, ⟨some 7, .len 1 (.t 6), none, false⟩, ⟨some 8, .faddr 0 (.t 3), none, false⟩, ⟨some 9, .load false 1 (.t 8), none, false⟩, ⟨some 10, .len 1 (.t 9), none, false⟩, ⟨some 11, .mmx false [.t 7, .t 10], none, false⟩, ⟨some 12, .mkfn 110 [] [.t 2, .t 3], none, false⟩, ⟨some 13, .call (.c (.func 107 [] [])) [.t 11, .t 12], none, false⟩, ⟨none, .store 1 (.t 4) (.t 13), none, false⟩] [4]) .ret)
def x69 : XF := ⟨2, b69, [.cell 4 true 1]⟩
def h69 : Yq := fun id => match id with
  | 0 => [2, 3, 4]
  | 1 => [4]
  | _ => []
theorem cv69 : cvF Tryd.prog h69 Tryd.f69 = some x69 := by kernel_rfl

/-- (winnower/bitset.Set).Or -/
def b70 : XC := .seq (.reg [⟨some 2, .box 34 (.t 0), none, false⟩, ⟨some 3, .box 34 (.t 1), none, false⟩, ⟨some 4, .alloc 34 [.nils], none, false⟩] [2, 3, 4]) (.seq (.reg [⟨some 5, .faddr 0 (.t 2), none, false⟩, ⟨some 6, .load false 1 (.t 5), none, false⟩, ⟨some 7, .len 1 (.t 6), none, false⟩, ⟨some 8, .faddr 0 (.t 3), none, false⟩, ⟨some 9, .load false 1 (.t 8), none, false⟩, ⟨some 10, .len 1 (.t 9), none, false⟩, ⟨some 11, .mmx true [.t 7, .t 10], none, false⟩, ⟨some 12, .mkfn 111 [] [.t 2, .t 3], none, false⟩, ⟨some 13, .call (.c (.func 107 [] [])) [.t 11, .t 12], none, false⟩, ⟨none, .store 1 (.t 4) (.t 13), none, false⟩] [4]) .ret)
def x70 : XF := ⟨2, b70, [.cell 4 true 1]⟩
def h70 : Yq := fun id => match id with
  | 0 => [2, 3, 4]
  | 1 => [4]
  | _ => []
theorem cv70 : cvF Tryd.prog h70 Tryd.f70 = some x70 := by kernel_rfl

/-- winnower/filter.span -/
def b71 : XC := .seq (.reg [⟨some 2, .mov (.c (.int .i64 0)), none, false⟩, ⟨some 3, .mov (.c (.int .i64 0)), none, false⟩] [0]) (.seq (.seq (.reg [⟨some 4, .mov (.t 0), none, false⟩, ⟨some 5, .len 4 (.t 4), none, false⟩, ⟨some 6, .bin .gtr (.t 5) (.c (.int .i64 0)), none, false⟩, ⟨some 7, .mov (.t 6), none, false⟩, ⟨some 8, .mov (.t 0), some (7, true), false⟩, ⟨some 9, .iaddr 4 (.t 8) (.c (.int .i64 0)), some (7, true), false⟩, ⟨some 10, .faddr 0 (.t 9), some (7, true), false⟩, ⟨some 11, .load false 1 (.t 10), some (7, true), false⟩, ⟨some 12, .bin .eql (.t 11) (.c (.int .i64 0)), some (7, true), false⟩, ⟨some 13, .pick (.t 7) (.t 12) (.c (.bool false)), none, false⟩] [13]) (.cond (.t 13) (.seq (.reg [⟨some 2, .mov (.c (.int .i64 0)), none, false⟩, ⟨some 3, .mov (.c (.int .i64 1)), none, false⟩] [2, 3]) .ret) .skip)) (.seq (.reg [⟨some 2, .mov (.c (.int .i64 0)), none, false⟩, ⟨some 3, .mov (.c (.int .i64 0)), none, false⟩] [2, 3]) .ret))
def x71 : XF := ⟨1, b71, [.t 2, .t 3]⟩
def h71 : Yq := fun id => match id with
  | 0 => [0]
  | 1 => [13]
  | 2 => [2, 3]
  | 3 => [2, 3]
  | _ => []
theorem cv71 : cvF Tryd.prog h71 Tryd.f71 = some x71 := by kernel_rfl

/-- winnower/value.May -/
def b72 : XC := .seq (.reg [⟨some 1, .box 48 (.t 0), none, false⟩, ⟨some 2, .mov (.c (.bool false)), none, false⟩] [1]) (.seq (.reg [⟨some 4, .faddr 0 (.t 1), none, false⟩, ⟨some 5, .load false 1 (.t 4), none, false⟩, ⟨some 6, .build [.int .i64 0, .int .i64 0, .str ⟨#[]⟩, .bool false] [(0, (1, .t 5))], none, false⟩, ⟨some 3, .alloc 48 [.int .i64 0, .int .i64 0, .str ⟨#[]⟩, .bool false], none, false⟩, ⟨none, .store 4 (.t 3) (.t 6), none, false⟩] [1, 3]) (.seq (.seq (.reg [⟨some 7, .faddr 0 (.t 1), none, false⟩, ⟨some 8, .load false 1 (.t 7), none, false⟩] [1, 3, 8]) (.block 0 (.seq (.block 5 (.seq (.block 4 (.seq (.block 3 (.seq (.block 2 (.seq (.block 1 (.seq (.seq (.seq (.reg [⟨some 10, .bin .eql (.t 8) (.c (.int .i64 1)), none, false⟩, ⟨some 9, .mov (.t 10), none, false⟩] [1, 3, 8, 9]) (.cond (.t 9) (.exit 1) .skip)) (.seq (.seq (.reg [⟨some 12, .bin .eql (.t 8) (.c (.int .i64 2)), none, false⟩, ⟨some 11, .mov (.t 12), none, false⟩] [1, 3, 8, 11]) (.cond (.t 11) (.exit 2) .skip)) (.seq (.seq (.reg [⟨some 14, .bin .eql (.t 8) (.c (.int .i64 3)), none, false⟩, ⟨some 13, .mov (.t 14), none, false⟩] [1, 3, 8, 13]) (.cond (.t 13) (.exit 3) .skip)) (.seq (.reg [⟨some 16, .bin .eql (.t 8) (.c (.int .i64 0)), none, false⟩, ⟨some 15, .mov (.t 16), none, false⟩] [1, 3, 15]) (.cond (.t 15) (.exit 4) .skip))))) (.exit 5))) (.seq (.reg [⟨some 17, .faddr 1 (.t 1), none, false⟩, ⟨some 18, .load false 1 (.t 17), none, false⟩, ⟨some 19, .faddr 1 (.t 3), none, false⟩, ⟨none, .store 1 (.t 19) (.t 18), none, false⟩] [1, 3]) (.exit 0)))) (.seq (.seq (.reg [⟨some 20, .faddr 2 (.t 1), none, false⟩, ⟨some 21, .load false 1 (.t 20), none, false⟩, ⟨some 22, .faddr 2 (.t 3), none, false⟩, ⟨none, .store 1 (.t 22) (.t 21), none, false⟩] [1, 3]) (.seq (.reg [⟨some 23, .faddr 2 (.t 1), none, false⟩, ⟨some 24, .load false 1 (.t 23), none, false⟩, ⟨some 25, .lens (.t 24), none, false⟩, ⟨some 26, .bin .gtr (.t 25) (.c (.int .i64 64)), none, false⟩] [1, 3, 26]) (.cond (.t 26) (.seq (.reg [⟨some 2, .mov (.c (.bool false)), none, false⟩] [2]) .ret) .skip))) (.exit 0)))) (.reg [⟨some 27, .faddr 3 (.t 1), none, false⟩, ⟨some 28, .load false 1 (.t 27), none, false⟩, ⟨some 29, .faddr 3 (.t 3), none, false⟩, ⟨none, .store 1 (.t 29) (.t 28), none, false⟩] [1, 3]))) (.seq (.exit 0) (.exit 0)))) (.seq (.seq (.reg [⟨some 2, .mov (.c (.bool false)), none, false⟩] [2]) .ret) (.exit 0))))) (.seq (.reg [⟨some 30, .load true 4 (.t 1), none, false⟩, ⟨some 31, .load true 4 (.t 3), none, false⟩, ⟨some 32, .eqa [1, 1, 2, 0] false (.t 30) (.t 31), none, false⟩, ⟨some 2, .mov (.t 32), none, false⟩] [2]) .ret)))
def x72 : XF := ⟨1, b72, [.t 2]⟩
def h72 : Yq := fun id => match id with
  | 0 => [1]
  | 1 => [1, 3]
  | 2 => [1, 3, 8]
  | 3 => [1, 3, 8, 9]
  | 4 => [1, 3, 8, 11]
  | 5 => [1, 3, 8, 13]
  | 6 => [1, 3, 15]
  | 7 => [1, 3]
  | 8 => [1, 3]
  | 9 => [1, 3, 26]
  | 10 => [2]
  | 11 => [1, 3]
  | 12 => [2]
  | 13 => [2]
  | _ => []
theorem cv72 : cvF Tryd.prog h72 Tryd.f72 = some x72 := by kernel_rfl

/-- winnower/filter.across -/
def lp73_0 : XC := .seq (.reg [⟨some 12, .bin .lss (.t 11) (.t 10), none, false⟩] [1, 5, 9, 10, 11, 12]) (.seq (.cond (.t 12) .skip (.exit 0)) (.seq (.block 1 (.seq (.reg [⟨some 13, .iaddr 4 (.t 9) (.t 11), none, false⟩, ⟨some 14, .load true 4 (.t 13), none, false⟩, ⟨some 7, .alloc 48 [.int .i64 0, .int .i64 0, .str ⟨#[]⟩, .bool false], none, false⟩, ⟨none, .store 4 (.t 7) (.t 14), none, false⟩] [1, 5, 7, 9, 10, 11]) (.seq (.reg [⟨some 15, .mov (.t 1), none, false⟩, ⟨some 16, .bin .add (.t 15) (.c (.int .i64 1)), none, false⟩, ⟨some 17, .make 48 4 40 (.agg [.int .i64 0, .int .i64 0, .str ⟨#[]⟩, .bool false]) (.t 16) (.t 16), none, false⟩, ⟨some 8, .mov (.t 17), none, false⟩] [1, 5, 7, 8, 9, 10, 11]) (.seq (.reg [⟨some 18, .mov (.t 8), none, false⟩, ⟨some 19, .mov (.t 1), none, false⟩, ⟨some 20, .load true 4 (.t 7), none, false⟩, ⟨some 21, .iaddr 4 (.t 18) (.t 19), none, false⟩, ⟨none, .store 4 (.t 21) (.t 20), none, false⟩] [1, 5, 8, 9, 10, 11]) (.reg [⟨some 22, .mov (.t 5), none, false⟩, ⟨some 23, .mov (.t 8), none, false⟩, ⟨some 24, .mkslice true 38 1 [.t 23], none, false⟩, ⟨some 25, .app 38 1 24 (.t 22) (.t 24), none, false⟩, ⟨some 5, .mov (.t 25), none, false⟩] [1, 5, 9, 10, 11]))))) (.reg [⟨some 26, .bin .add (.t 11) (.c (.int .i64 1)), none, false⟩, ⟨some 11, .mov (.t 26), none, false⟩] [1, 5, 9, 10, 11])))
def b73 : XC := .seq (.reg [⟨some 4, .mov (.c .nils), none, false⟩] [0, 1]) (.seq (.reg [⟨some 5, .mov (.c .nils), none, false⟩] [0, 1, 5]) (.seq (.seq (.reg [⟨some 9, .mov (.t 0), none, false⟩, ⟨some 10, .len 4 (.t 9), none, false⟩, ⟨some 11, .mov (.c (.int .i64 0)), none, false⟩] [1, 5, 9, 10, 11]) (.block 0 (.loop lp73_0))) (.seq (.reg [⟨some 27, .mov (.t 5), none, false⟩, ⟨some 4, .mov (.t 27), none, false⟩] [4]) .ret)))
def x73 : XF := ⟨2, b73, [.t 4]⟩
def h73 : Yq := fun id => match id with
  | 0 => [0, 1]
  | 1 => [0, 1, 5]
  | 2 => [1, 5, 9, 10, 11]
  | 3 => [1, 5, 9, 10, 11, 12]
  | 4 => [1, 5, 7, 9, 10, 11]
  | 5 => [1, 5, 7, 8, 9, 10, 11]
  | 6 => [1, 5, 8, 9, 10, 11]
  | 7 => [1, 5, 9, 10, 11]
  | 8 => [1, 5, 9, 10, 11]
  | 9 => [4]
  | _ => []
theorem cv73 : cvF Tryd.prog h73 Tryd.f73 = some x73 := by kernel_rfl

/-- winnower/dict.Search -/
def b74 : XC := .seq (.reg [⟨some 3, .box 48 (.t 1), none, false⟩, ⟨some 4, .mov (.c (.int .i64 0)), none, false⟩, ⟨some 5, .mov (.c (.bool false)), none, false⟩] [0, 3]) (.seq (.seq (.reg [⟨some 6, .mov (.t 0), none, false⟩, ⟨some 7, .call (.c (.func 82 [] [])) [.t 6], none, false⟩, ⟨some 8, .un .not (.t 7), none, false⟩, ⟨some 9, .mov (.t 8), none, false⟩, ⟨some 10, .load true 4 (.t 3), some (9, false), false⟩, ⟨some 11, .call (.c (.func 72 [] [])) [.t 10], some (9, false), false⟩, ⟨some 12, .un .not (.t 11), some (9, false), false⟩, ⟨some 13, .pick (.t 9) (.c (.bool true)) (.t 12), none, false⟩] [0, 3, 13]) (.cond (.t 13) (.seq (.reg [⟨some 4, .mov (.c (.int .i64 0)), none, false⟩, ⟨some 5, .mov (.c (.bool false)), none, false⟩] [4, 5]) .ret) .skip)) (.seq (.reg [⟨some 14, .mov (.t 0), none, false⟩, ⟨some 15, .load true 4 (.t 3), none, false⟩, ⟨some 16, .call (.c (.func 98 [] [])) [.t 14, .t 15], none, false⟩, ⟨some 17, .ext (.t 16) 0, none, false⟩, ⟨some 18, .ext (.t 16) 1, none, false⟩, ⟨some 4, .mov (.t 17), none, false⟩, ⟨some 5, .mov (.t 18), none, false⟩] [4, 5]) .ret))
def x74 : XF := ⟨2, b74, [.t 4, .t 5]⟩
def h74 : Yq := fun id => match id with
  | 0 => [0, 3]
  | 1 => [0, 3, 13]
  | 2 => [4, 5]
  | 3 => [4, 5]
  | _ => []
theorem cv74 : cvF Tryd.prog h74 Tryd.f74 = some x74 := by kernel_rfl

/-- winnower/winnowerref17.Holds -/
def lp75_0 : XC := .seq (.seq (.reg [⟨some 17, .mov (.t 6), none, false⟩, ⟨some 18, .mov (.t 0), none, false⟩, ⟨some 19, .len 8 (.t 18), none, false⟩, ⟨some 20, .bin .lss (.t 17) (.t 19), none, false⟩] [0, 1, 5, 6, 20]) (.cond (.t 20) .skip (.exit 0))) (.seq (.block 1 (.seq (.reg [⟨some 23, .mov (.t 0), none, false⟩, ⟨some 24, .mov (.t 6), none, false⟩, ⟨some 25, .iaddr 8 (.t 23) (.t 24), none, false⟩, ⟨some 26, .load true 8 (.t 25), none, false⟩, ⟨some 7, .alloc 70 [.int .i64 0, .int .i64 0, .int .i64 0, .int .i64 0, .str ⟨#[]⟩, .bool false, .int .i64 0, .int .i64 0], none, false⟩, ⟨none, .store 8 (.t 7) (.t 26), none, false⟩] [0, 1, 5, 6, 7]) (.seq (.reg [⟨some 27, .faddr 1 (.t 7), none, false⟩, ⟨some 28, .load false 1 (.t 27), none, false⟩, ⟨some 29, .bin .geq (.t 28) (.c (.int .i64 0)), none, false⟩, ⟨some 30, .mov (.t 29), none, false⟩, ⟨some 31, .faddr 1 (.t 7), some (30, true), false⟩, ⟨some 32, .load false 1 (.t 31), some (30, true), false⟩, ⟨some 33, .mov (.t 1), some (30, true), false⟩, ⟨some 34, .len 4 (.t 33), some (30, true), false⟩, ⟨some 35, .bin .lss (.t 32) (.t 34), some (30, true), false⟩, ⟨some 36, .pick (.t 30) (.t 35) (.c (.bool false)), none, false⟩, ⟨some 8, .mov (.t 36), none, false⟩] [0, 1, 5, 6, 7, 8]) (.seq (.reg [⟨some 37, .faddr 6 (.t 7), none, false⟩, ⟨some 38, .load false 1 (.t 37), none, false⟩, ⟨some 39, .bin .geq (.t 38) (.c (.int .i64 0)), none, false⟩, ⟨some 40, .mov (.t 39), none, false⟩, ⟨some 41, .faddr 6 (.t 7), some (40, true), false⟩, ⟨some 42, .load false 1 (.t 41), some (40, true), false⟩, ⟨some 43, .mov (.t 6), some (40, true), false⟩, ⟨some 44, .bin .lss (.t 42) (.t 43), some (40, true), false⟩, ⟨some 45, .pick (.t 40) (.t 44) (.c (.bool false)), none, false⟩, ⟨some 9, .mov (.t 45), none, false⟩] [0, 1, 5, 6, 7, 8, 9]) (.seq (.reg [⟨some 46, .faddr 7 (.t 7), none, false⟩, ⟨some 47, .load false 1 (.t 46), none, false⟩, ⟨some 48, .bin .geq (.t 47) (.c (.int .i64 0)), none, false⟩, ⟨some 49, .mov (.t 48), none, false⟩, ⟨some 50, .faddr 7 (.t 7), some (49, true), false⟩, ⟨some 51, .load false 1 (.t 50), some (49, true), false⟩, ⟨some 52, .mov (.t 6), some (49, true), false⟩, ⟨some 53, .bin .lss (.t 51) (.t 52), some (49, true), false⟩, ⟨some 54, .pick (.t 49) (.t 53) (.c (.bool false)), none, false⟩, ⟨some 10, .mov (.t 54), none, false⟩] [0, 1, 5, 6, 7, 8, 9, 10]) (.seq (.reg [⟨some 55, .faddr 0 (.t 7), none, false⟩, ⟨some 56, .load false 1 (.t 55), none, false⟩] [0, 1, 5, 6, 7, 8, 9, 10, 56]) (.block 2 (.seq (.reg [⟨some 71, .bin .eql (.t 56) (.c (.int .i64 0)), none, false⟩, ⟨some 70, .mov (.t 71), none, false⟩] [0, 1, 5, 6, 7, 8, 9, 10, 56, 70]) (.cond (.t 70) (.reg [⟨some 72, .mov (.t 5), none, false⟩, ⟨some 73, .mov (.t 6), none, false⟩, ⟨some 74, .iaddr 1 (.t 72) (.t 73), none, false⟩, ⟨none, .store 1 (.t 74) (.c (.bool true)), none, false⟩] [0, 1, 5, 6]) (.seq (.reg [⟨some 76, .bin .eql (.t 56) (.c (.int .i64 7)), none, false⟩, ⟨some 75, .mov (.t 76), none, false⟩] [0, 1, 5, 6, 7, 8, 9, 10, 56, 75]) (.cond (.t 75) (.reg [⟨some 77, .mov (.t 5), none, false⟩, ⟨some 78, .mov (.t 6), none, false⟩, ⟨some 79, .mov (.t 8), none, false⟩, ⟨some 80, .mov (.t 79), none, false⟩, ⟨some 81, .mov (.t 1), some (80, true), false⟩, ⟨some 82, .faddr 1 (.t 7), some (80, true), false⟩, ⟨some 83, .load false 1 (.t 82), some (80, true), false⟩, ⟨some 84, .iaddr 4 (.t 81) (.t 83), some (80, true), false⟩, ⟨some 85, .faddr 0 (.t 84), some (80, true), false⟩, ⟨some 86, .load false 1 (.t 85), some (80, true), false⟩, ⟨some 87, .bin .eql (.t 86) (.c (.int .i64 0)), some (80, true), false⟩, ⟨some 88, .pick (.t 80) (.t 87) (.c (.bool false)), none, false⟩, ⟨some 89, .iaddr 1 (.t 77) (.t 78), none, false⟩, ⟨none, .store 1 (.t 89) (.t 88), none, false⟩] [0, 1, 5, 6]) (.seq (.reg [⟨some 91, .bin .eql (.t 56) (.c (.int .i64 8)), none, false⟩, ⟨some 90, .mov (.t 91), none, false⟩] [0, 1, 5, 6, 7, 8, 9, 10, 56, 90]) (.cond (.t 90) (.reg [⟨some 92, .mov (.t 5), none, false⟩, ⟨some 93, .mov (.t 6), none, false⟩, ⟨some 94, .mov (.t 9), none, false⟩, ⟨some 95, .mov (.t 94), none, false⟩, ⟨some 96, .mov (.t 10), some (95, true), false⟩, ⟨some 97, .pick (.t 95) (.t 96) (.c (.bool false)), none, false⟩, ⟨some 98, .mov (.t 97), none, false⟩, ⟨some 99, .mov (.t 5), some (98, true), false⟩, ⟨some 100, .faddr 6 (.t 7), some (98, true), false⟩, ⟨some 101, .load false 1 (.t 100), some (98, true), false⟩, ⟨some 102, .iaddr 1 (.t 99) (.t 101), some (98, true), false⟩, ⟨some 103, .load false 1 (.t 102), some (98, true), false⟩, ⟨some 104, .pick (.t 98) (.t 103) (.c (.bool false)), none, false⟩, ⟨some 105, .mov (.t 104), none, false⟩, ⟨some 106, .mov (.t 5), some (105, true), false⟩, ⟨some 107, .faddr 7 (.t 7), some (105, true), false⟩, ⟨some 108, .load false 1 (.t 107), some (105, true), false⟩, ⟨some 109, .iaddr 1 (.t 106) (.t 108), some (105, true), false⟩, ⟨some 110, .load false 1 (.t 109), some (105, true), false⟩, ⟨some 111, .pick (.t 105) (.t 110) (.c (.bool false)), none, false⟩, ⟨some 112, .iaddr 1 (.t 92) (.t 93), none, false⟩, ⟨none, .store 1 (.t 112) (.t 111), none, false⟩] [0, 1, 5, 6]) (.seq (.reg [⟨some 114, .bin .eql (.t 56) (.c (.int .i64 9)), none, false⟩, ⟨some 113, .mov (.t 114), none, false⟩] [0, 1, 5, 6, 7, 8, 9, 10, 56, 113]) (.cond (.t 113) (.reg [⟨some 115, .mov (.t 5), none, false⟩, ⟨some 116, .mov (.t 6), none, false⟩, ⟨some 117, .mov (.t 9), none, false⟩, ⟨some 118, .mov (.t 117), none, false⟩, ⟨some 119, .mov (.t 10), some (118, true), false⟩, ⟨some 120, .pick (.t 118) (.t 119) (.c (.bool false)), none, false⟩, ⟨some 121, .mov (.t 120), none, false⟩, ⟨some 122, .mov (.t 5), some (121, true), false⟩, ⟨some 123, .faddr 6 (.t 7), some (121, true), false⟩, ⟨some 124, .load false 1 (.t 123), some (121, true), false⟩, ⟨some 125, .iaddr 1 (.t 122) (.t 124), some (121, true), false⟩, ⟨some 126, .load false 1 (.t 125), some (121, true), false⟩, ⟨some 127, .mov (.t 126), some (121, true), false⟩, ⟨some 128, .mov (.t 5), some (127, false), false⟩, ⟨some 129, .faddr 7 (.t 7), some (127, false), false⟩, ⟨some 130, .load false 1 (.t 129), some (127, false), false⟩, ⟨some 131, .iaddr 1 (.t 128) (.t 130), some (127, false), false⟩, ⟨some 132, .load false 1 (.t 131), some (127, false), false⟩, ⟨some 133, .pick (.t 127) (.c (.bool true)) (.t 132), some (121, true), false⟩, ⟨some 134, .pick (.t 121) (.t 133) (.c (.bool false)), none, false⟩, ⟨some 135, .iaddr 1 (.t 115) (.t 116), none, false⟩, ⟨none, .store 1 (.t 135) (.t 134), none, false⟩] [0, 1, 5, 6]) (.seq (.reg [⟨some 137, .bin .eql (.t 56) (.c (.int .i64 10)), none, false⟩, ⟨some 136, .mov (.t 137), none, false⟩] [0, 1, 5, 6, 7, 8, 9, 136]) (.cond (.t 136) (.reg [⟨some 138, .mov (.t 5), none, false⟩, ⟨some 139, .mov (.t 6), none, false⟩, ⟨some 140, .mov (.t 9), none, false⟩, ⟨some 141, .mov (.t 140), none, false⟩, ⟨some 142, .mov (.t 5), some (141, true), false⟩, ⟨some 143, .faddr 6 (.t 7), some (141, true), false⟩, ⟨some 144, .load false 1 (.t 143), some (141, true), false⟩, ⟨some 145, .iaddr 1 (.t 142) (.t 144), some (141, true), false⟩, ⟨some 146, .load false 1 (.t 145), some (141, true), false⟩, ⟨some 147, .un .not (.t 146), some (141, true), false⟩, ⟨some 148, .pick (.t 141) (.t 147) (.c (.bool false)), none, false⟩, ⟨some 149, .iaddr 1 (.t 138) (.t 139), none, false⟩, ⟨none, .store 1 (.t 149) (.t 148), none, false⟩] [0, 1, 5, 6]) (.reg [⟨some 57, .mov (.t 5), none, false⟩, ⟨some 58, .mov (.t 6), none, false⟩, ⟨some 59, .mov (.t 8), none, false⟩, ⟨some 60, .mov (.t 59), none, false⟩, ⟨some 61, .load true 8 (.t 7), some (60, true), false⟩, ⟨some 62, .mov (.t 1), some (60, true), false⟩, ⟨some 63, .faddr 1 (.t 7), some (60, true), false⟩, ⟨some 64, .load false 1 (.t 63), some (60, true), false⟩, ⟨some 65, .iaddr 4 (.t 62) (.t 64), some (60, true), false⟩, ⟨some 66, .load true 4 (.t 65), some (60, true), false⟩, ⟨some 67, .call (.c (.func 112 [] [])) [.t 61, .t 66], some (60, true), false⟩, ⟨some 68, .pick (.t 60) (.t 67) (.c (.bool false)), none, false⟩, ⟨some 69, .iaddr 1 (.t 57) (.t 58), none, false⟩, ⟨none, .store 1 (.t 69) (.t 68), none, false⟩] [0, 1, 5, 6])))))))))))))))))) (.reg [⟨some 21, .mov (.t 6), none, false⟩, ⟨some 22, .bin .add (.t 21) (.c (.int .i64 1)), none, false⟩, ⟨some 6, .mov (.t 22), none, false⟩] [0, 1, 5, 6]))
def b75 : XC := .seq (.reg [⟨some 4, .mov (.c (.bool false)), none, false⟩] [0, 1]) (.seq (.seq (.reg [⟨some 11, .mov (.t 0), none, false⟩, ⟨some 12, .len 8 (.t 11), none, false⟩, ⟨some 13, .bin .eql (.t 12) (.c (.int .i64 0)), none, false⟩] [0, 1, 13]) (.cond (.t 13) (.seq (.reg [⟨some 4, .mov (.c (.bool true)), none, false⟩] [4]) .ret) .skip)) (.seq (.reg [⟨some 14, .mov (.t 0), none, false⟩, ⟨some 15, .len 8 (.t 14), none, false⟩, ⟨some 16, .make 4 1 1 (.bool false) (.t 15) (.t 15), none, false⟩, ⟨some 5, .mov (.t 16), none, false⟩] [0, 1, 5]) (.seq (.seq (.reg [⟨some 6, .mov (.c (.int .i64 0)), none, false⟩] [0, 1, 5, 6]) (.block 0 (.loop lp75_0))) (.seq (.reg [⟨some 150, .mov (.t 5), none, false⟩, ⟨some 151, .mov (.t 0), none, false⟩, ⟨some 152, .len 8 (.t 151), none, false⟩, ⟨some 153, .bin .sub (.t 152) (.c (.int .i64 1)), none, false⟩, ⟨some 154, .iaddr 1 (.t 150) (.t 153), none, false⟩, ⟨some 155, .load false 1 (.t 154), none, false⟩, ⟨some 4, .mov (.t 155), none, false⟩] [4]) .ret))))
def x75 : XF := ⟨2, b75, [.t 4]⟩
def h75 : Yq := fun id => match id with
  | 0 => [0, 1]
  | 1 => [0, 1, 13]
  | 2 => [4]
  | 3 => [0, 1, 5]
  | 4 => [0, 1, 5, 6]
  | 5 => [0, 1, 5, 6, 20]
  | 6 => [0, 1, 5, 6]
  | 7 => [0, 1, 5, 6, 7]
  | 8 => [0, 1, 5, 6, 7, 8]
  | 9 => [0, 1, 5, 6, 7, 8, 9]
  | 10 => [0, 1, 5, 6, 7, 8, 9, 10]
  | 11 => [0, 1, 5, 6, 7, 8, 9, 10, 56]
  | 12 => [0, 1, 5, 6]
  | 13 => [0, 1, 5, 6, 7, 8, 9, 10, 56, 70]
  | 14 => [0, 1, 5, 6]
  | 15 => [0, 1, 5, 6, 7, 8, 9, 10, 56, 75]
  | 16 => [0, 1, 5, 6]
  | 17 => [0, 1, 5, 6, 7, 8, 9, 10, 56, 90]
  | 18 => [0, 1, 5, 6]
  | 19 => [0, 1, 5, 6, 7, 8, 9, 10, 56, 113]
  | 20 => [0, 1, 5, 6]
  | 21 => [0, 1, 5, 6, 7, 8, 9, 136]
  | 22 => [0, 1, 5, 6]
  | 23 => [4]
  | _ => []
theorem cv75 : cvF Tryd.prog h75 Tryd.f75 = some x75 := by kernel_rfl

/-- winnower/winnowerref12.Row -/
def lp76_0 : XC := .seq (.seq (.reg [⟨some 17, .mov (.t 6), none, false⟩, ⟨some 18, .faddr 5 (.t 2), none, false⟩, ⟨some 19, .load false 1 (.t 18), none, false⟩, ⟨some 20, .len 3 (.t 19), none, false⟩, ⟨some 21, .bin .lss (.t 17) (.t 20), none, false⟩] [1, 2, 5, 6, 21]) (.cond (.t 21) .skip (.exit 0))) (.seq (.block 1 (.seq (.reg [⟨some 24, .faddr 5 (.t 2), none, false⟩, ⟨some 25, .load false 1 (.t 24), none, false⟩, ⟨some 26, .mov (.t 6), none, false⟩, ⟨some 27, .iaddr 3 (.t 25) (.t 26), none, false⟩, ⟨some 28, .load true 3 (.t 27), none, false⟩, ⟨some 29, .call (.c (.func 16 [] [])) [.t 28], none, false⟩, ⟨some 7, .mov (.t 29), none, false⟩] [1, 2, 5, 6, 7]) (.seq (.seq (.reg [⟨some 30, .mov (.t 1), none, false⟩, ⟨some 31, .mov (.t 7), none, false⟩, ⟨some 32, .len 4 (.t 31), none, false⟩, ⟨some 33, .bin .geq (.t 30) (.t 32), none, false⟩] [1, 2, 5, 6, 7, 33]) (.cond (.t 33) (.seq (.reg [⟨some 4, .mov (.c .nils), none, false⟩] [4]) .ret) .skip)) (.reg [⟨some 34, .mov (.t 5), none, false⟩, ⟨some 35, .mov (.t 7), none, false⟩, ⟨some 36, .mov (.t 1), none, false⟩, ⟨some 37, .iaddr 4 (.t 35) (.t 36), none, false⟩, ⟨some 38, .load true 4 (.t 37), none, false⟩, ⟨some 39, .mkslice true 48 4 [.t 38], none, false⟩, ⟨some 40, .app 48 4 40 (.t 34) (.t 39), none, false⟩, ⟨some 5, .mov (.t 40), none, false⟩] [1, 2, 5, 6])))) (.reg [⟨some 22, .mov (.t 6), none, false⟩, ⟨some 23, .bin .add (.t 22) (.c (.int .i64 1)), none, false⟩, ⟨some 6, .mov (.t 23), none, false⟩] [1, 2, 5, 6]))
def b76 : XC := .seq (.reg [⟨some 2, .box 26 (.t 0), none, false⟩, ⟨some 4, .mov (.c .nils), none, false⟩] [1, 2]) (.seq (.seq (.reg [⟨some 8, .mov (.t 1), none, false⟩, ⟨some 9, .bin .lss (.t 8) (.c (.int .i64 0)), none, false⟩, ⟨some 10, .mov (.t 9), none, false⟩, ⟨some 11, .mov (.t 1), some (10, false), false⟩, ⟨some 12, .faddr 4 (.t 2), some (10, false), false⟩, ⟨some 13, .load false 1 (.t 12), some (10, false), false⟩, ⟨some 14, .len 1 (.t 13), some (10, false), false⟩, ⟨some 15, .bin .geq (.t 11) (.t 14), some (10, false), false⟩, ⟨some 16, .pick (.t 10) (.c (.bool true)) (.t 15), none, false⟩] [1, 2, 16]) (.cond (.t 16) (.seq (.reg [⟨some 4, .mov (.c .nils), none, false⟩] [4]) .ret) .skip)) (.seq (.reg [⟨some 5, .mov (.c .nils), none, false⟩] [1, 2, 5]) (.seq (.seq (.reg [⟨some 6, .mov (.c (.int .i64 0)), none, false⟩] [1, 2, 5, 6]) (.block 0 (.loop lp76_0))) (.seq (.reg [⟨some 41, .mov (.t 5), none, false⟩, ⟨some 4, .mov (.t 41), none, false⟩] [4]) .ret))))
def x76 : XF := ⟨2, b76, [.t 4]⟩
def h76 : Yq := fun id => match id with
  | 0 => [1, 2]
  | 1 => [1, 2, 16]
  | 2 => [4]
  | 3 => [1, 2, 5]
  | 4 => [1, 2, 5, 6]
  | 5 => [1, 2, 5, 6, 21]
  | 6 => [1, 2, 5, 6]
  | 7 => [1, 2, 5, 6, 7]
  | 8 => [1, 2, 5, 6, 7, 33]
  | 9 => [4]
  | 10 => [1, 2, 5, 6]
  | 11 => [4]
  | _ => []
theorem cv76 : cvF Tryd.prog h76 Tryd.f76 = some x76 := by kernel_rfl

/-- winnower/winnowerref06.May -/
def b77 : XC := .seq (.reg [⟨some 1, .box 48 (.t 0), none, false⟩, ⟨some 2, .mov (.c (.bool false)), none, false⟩] [1]) (.seq (.reg [⟨some 6, .faddr 1 (.t 1), none, false⟩, ⟨some 7, .load false 1 (.t 6), none, false⟩, ⟨some 8, .bin .eql (.t 7) (.c (.int .i64 0)), none, false⟩, ⟨some 3, .mov (.t 8), none, false⟩] [1, 3]) (.seq (.reg [⟨some 9, .faddr 2 (.t 1), none, false⟩, ⟨some 10, .load false 1 (.t 9), none, false⟩, ⟨some 11, .bin .eql (.t 10) (.c (.str ⟨#[]⟩)), none, false⟩, ⟨some 4, .mov (.t 11), none, false⟩] [1, 3, 4]) (.seq (.reg [⟨some 12, .faddr 3 (.t 1), none, false⟩, ⟨some 13, .load false 1 (.t 12), none, false⟩, ⟨some 14, .un .not (.t 13), none, false⟩, ⟨some 5, .mov (.t 14), none, false⟩] [1, 3, 4, 5]) (.seq (.seq (.reg [⟨some 15, .faddr 0 (.t 1), none, false⟩, ⟨some 16, .load false 1 (.t 15), none, false⟩] [1, 3, 4, 5, 16]) (.block 0 (.seq (.reg [⟨some 18, .bin .eql (.t 16) (.c (.int .i64 0)), none, false⟩, ⟨some 17, .mov (.t 18), none, false⟩] [1, 3, 4, 5, 16, 17]) (.cond (.t 17) (.seq (.reg [⟨some 19, .mov (.t 3), none, false⟩, ⟨some 20, .mov (.t 19), none, false⟩, ⟨some 21, .mov (.t 4), some (20, true), false⟩, ⟨some 22, .pick (.t 20) (.t 21) (.c (.bool false)), none, false⟩, ⟨some 23, .mov (.t 22), none, false⟩, ⟨some 24, .mov (.t 5), some (23, true), false⟩, ⟨some 25, .pick (.t 23) (.t 24) (.c (.bool false)), none, false⟩, ⟨some 2, .mov (.t 25), none, false⟩] [2]) .ret) (.seq (.reg [⟨some 27, .bin .eql (.t 16) (.c (.int .i64 1)), none, false⟩, ⟨some 26, .mov (.t 27), none, false⟩] [1, 3, 4, 5, 16, 26]) (.cond (.t 26) (.seq (.reg [⟨some 28, .mov (.t 4), none, false⟩, ⟨some 29, .mov (.t 28), none, false⟩, ⟨some 30, .mov (.t 5), some (29, true), false⟩, ⟨some 31, .pick (.t 29) (.t 30) (.c (.bool false)), none, false⟩, ⟨some 2, .mov (.t 31), none, false⟩] [2]) .ret) (.seq (.reg [⟨some 33, .bin .eql (.t 16) (.c (.int .i64 2)), none, false⟩, ⟨some 32, .mov (.t 33), none, false⟩] [1, 3, 4, 5, 16, 32]) (.cond (.t 32) (.seq (.reg [⟨some 34, .mov (.t 3), none, false⟩, ⟨some 35, .mov (.t 34), none, false⟩, ⟨some 36, .mov (.t 5), some (35, true), false⟩, ⟨some 37, .pick (.t 35) (.t 36) (.c (.bool false)), none, false⟩, ⟨some 38, .mov (.t 37), none, false⟩, ⟨some 39, .faddr 2 (.t 1), some (38, true), false⟩, ⟨some 40, .load false 1 (.t 39), some (38, true), false⟩, ⟨some 41, .lens (.t 40), some (38, true), false⟩, ⟨some 42, .bin .leq (.t 41) (.c (.int .i64 64)), some (38, true), false⟩, ⟨some 43, .pick (.t 38) (.t 42) (.c (.bool false)), none, false⟩, ⟨some 2, .mov (.t 43), none, false⟩] [2]) .ret) (.seq (.reg [⟨some 45, .bin .eql (.t 16) (.c (.int .i64 3)), none, false⟩, ⟨some 44, .mov (.t 45), none, false⟩] [3, 4, 44]) (.cond (.t 44) (.seq (.reg [⟨some 46, .mov (.t 3), none, false⟩, ⟨some 47, .mov (.t 46), none, false⟩, ⟨some 48, .mov (.t 4), some (47, true), false⟩, ⟨some 49, .pick (.t 47) (.t 48) (.c (.bool false)), none, false⟩, ⟨some 2, .mov (.t 49), none, false⟩] [2]) .ret) .skip)))))))))) (.seq (.reg [⟨some 2, .mov (.c (.bool false)), none, false⟩] [2]) .ret)))))
def x77 : XF := ⟨1, b77, [.t 2]⟩
def h77 : Yq := fun id => match id with
  | 0 => [1]
  | 1 => [1, 3]
  | 2 => [1, 3, 4]
  | 3 => [1, 3, 4, 5]
  | 4 => [1, 3, 4, 5, 16]
  | 5 => [1, 3, 4, 5, 16, 17]
  | 6 => [2]
  | 7 => [1, 3, 4, 5, 16, 26]
  | 8 => [2]
  | 9 => [1, 3, 4, 5, 16, 32]
  | 10 => [2]
  | 11 => [3, 4, 44]
  | 12 => [2]
  | 13 => [2]
  | _ => []
theorem cv77 : cvF Tryd.prog h77 Tryd.f77 = some x77 := by kernel_rfl

/-- winnower/winnowerref06.Order -/
def b78 : XC := .seq (.reg [⟨some 2, .box 48 (.t 0), none, false⟩, ⟨some 3, .box 48 (.t 1), none, false⟩, ⟨some 4, .mov (.c (.int .i64 0)), none, false⟩] [2, 3]) (.seq (.seq (.reg [⟨some 5, .faddr 0 (.t 2), none, false⟩, ⟨some 6, .load false 1 (.t 5), none, false⟩, ⟨some 7, .faddr 0 (.t 3), none, false⟩, ⟨some 8, .load false 1 (.t 7), none, false⟩, ⟨some 9, .bin .lss (.t 6) (.t 8), none, false⟩] [2, 3, 9]) (.cond (.t 9) (.seq (.reg [⟨some 4, .mov (.c (.int .i64 (-1))), none, false⟩] [4]) .ret) .skip)) (.seq (.seq (.reg [⟨some 10, .faddr 0 (.t 2), none, false⟩, ⟨some 11, .load false 1 (.t 10), none, false⟩, ⟨some 12, .faddr 0 (.t 3), none, false⟩, ⟨some 13, .load false 1 (.t 12), none, false⟩, ⟨some 14, .bin .gtr (.t 11) (.t 13), none, false⟩] [2, 3, 14]) (.cond (.t 14) (.seq (.reg [⟨some 4, .mov (.c (.int .i64 1)), none, false⟩] [4]) .ret) .skip)) (.seq (.seq (.reg [⟨some 15, .faddr 0 (.t 2), none, false⟩, ⟨some 16, .load false 1 (.t 15), none, false⟩] [2, 3, 16]) (.block 0 (.seq (.reg [⟨some 18, .bin .eql (.t 16) (.c (.int .i64 1)), none, false⟩, ⟨some 17, .mov (.t 18), none, false⟩] [2, 3, 16, 17]) (.cond (.t 17) (.seq (.seq (.reg [⟨some 19, .faddr 1 (.t 2), none, false⟩, ⟨some 20, .load false 1 (.t 19), none, false⟩, ⟨some 21, .faddr 1 (.t 3), none, false⟩, ⟨some 22, .load false 1 (.t 21), none, false⟩, ⟨some 23, .bin .lss (.t 20) (.t 22), none, false⟩] [2, 3, 23]) (.cond (.t 23) (.seq (.reg [⟨some 4, .mov (.c (.int .i64 (-1))), none, false⟩] [4]) .ret) .skip)) (.seq (.reg [⟨some 24, .faddr 1 (.t 2), none, false⟩, ⟨some 25, .load false 1 (.t 24), none, false⟩, ⟨some 26, .faddr 1 (.t 3), none, false⟩, ⟨some 27, .load false 1 (.t 26), none, false⟩, ⟨some 28, .bin .gtr (.t 25) (.t 27), none, false⟩] [28]) (.cond (.t 28) (.seq (.reg [⟨some 4, .mov (.c (.int .i64 1)), none, false⟩] [4]) .ret) .skip))) (.seq (.reg [⟨some 30, .bin .eql (.t 16) (.c (.int .i64 2)), none, false⟩, ⟨some 29, .mov (.t 30), none, false⟩] [2, 3, 16, 29]) (.cond (.t 29) (.seq (.reg [⟨some 31, .faddr 2 (.t 2), none, false⟩, ⟨some 32, .load false 1 (.t 31), none, false⟩, ⟨some 33, .faddr 2 (.t 3), none, false⟩, ⟨some 34, .load false 1 (.t 33), none, false⟩, ⟨some 35, .call (.c (.func 113 [] [])) [.t 32, .t 34], none, false⟩, ⟨some 4, .mov (.t 35), none, false⟩] [4]) .ret) (.seq (.reg [⟨some 37, .bin .eql (.t 16) (.c (.int .i64 3)), none, false⟩, ⟨some 36, .mov (.t 37), none, false⟩] [2, 3, 36]) (.cond (.t 36) (.seq (.seq (.reg [⟨some 38, .faddr 3 (.t 2), none, false⟩, ⟨some 39, .load false 1 (.t 38), none, false⟩, ⟨some 40, .un .not (.t 39), none, false⟩, ⟨some 41, .mov (.t 40), none, false⟩, ⟨some 42, .faddr 3 (.t 3), some (41, true), false⟩, ⟨some 43, .load false 1 (.t 42), some (41, true), false⟩, ⟨some 44, .pick (.t 41) (.t 43) (.c (.bool false)), none, false⟩] [2, 3, 44]) (.cond (.t 44) (.seq (.reg [⟨some 4, .mov (.c (.int .i64 (-1))), none, false⟩] [4]) .ret) .skip)) (.seq (.reg [⟨some 45, .faddr 3 (.t 2), none, false⟩, ⟨some 46, .load false 1 (.t 45), none, false⟩, ⟨some 47, .mov (.t 46), none, false⟩, ⟨some 48, .faddr 3 (.t 3), some (47, true), false⟩, ⟨some 49, .load false 1 (.t 48), some (47, true), false⟩, ⟨some 50, .un .not (.t 49), some (47, true), false⟩, ⟨some 51, .pick (.t 47) (.t 50) (.c (.bool false)), none, false⟩] [51]) (.cond (.t 51) (.seq (.reg [⟨some 4, .mov (.c (.int .i64 1)), none, false⟩] [4]) .ret) .skip))) .skip)))))))) (.seq (.reg [⟨some 4, .mov (.c (.int .i64 0)), none, false⟩] [4]) .ret))))
def x78 : XF := ⟨2, b78, [.t 4]⟩
def h78 : Yq := fun id => match id with
  | 0 => [2, 3]
  | 1 => [2, 3, 9]
  | 2 => [4]
  | 3 => [2, 3, 14]
  | 4 => [4]
  | 5 => [2, 3, 16]
  | 6 => [2, 3, 16, 17]
  | 7 => [2, 3, 23]
  | 8 => [4]
  | 9 => [28]
  | 10 => [4]
  | 11 => [2, 3, 16, 29]
  | 12 => [4]
  | 13 => [2, 3, 36]
  | 14 => [2, 3, 44]
  | 15 => [4]
  | 16 => [51]
  | 17 => [4]
  | 18 => [4]
  | _ => []
theorem cv78 : cvF Tryd.prog h78 Tryd.f78 = some x78 := by kernel_rfl

/-- winnower/winnowerref02.spread -/
def lp79_0 : XC := .seq (.seq (.reg [⟨some 5, .mov (.t 4), none, false⟩, ⟨some 6, .mov (.t 0), none, false⟩, ⟨some 7, .len 1 (.t 6), none, false⟩, ⟨some 8, .bin .lss (.t 5) (.t 7), none, false⟩] [0, 3, 4, 8]) (.cond (.t 8) .skip (.exit 0))) (.seq (.block 1 (.reg [⟨some 11, .mov (.t 3), none, false⟩, ⟨some 12, .mov (.t 0), none, false⟩, ⟨some 13, .mov (.t 4), none, false⟩, ⟨some 14, .iaddr 1 (.t 12) (.t 13), none, false⟩, ⟨some 15, .load false 1 (.t 14), none, false⟩, ⟨some 16, .toint .i64 (.t 15), none, false⟩, ⟨some 17, .call (.c (.func 114 [] [])) [.t 16, .c (.int .i64 8)], none, false⟩, ⟨some 18, .app 3 1 8 (.t 11) (.t 17), none, false⟩, ⟨some 3, .mov (.t 18), none, false⟩] [0, 3, 4])) (.reg [⟨some 9, .mov (.t 4), none, false⟩, ⟨some 10, .bin .add (.t 9) (.c (.int .i64 1)), none, false⟩, ⟨some 4, .mov (.t 10), none, false⟩] [0, 3, 4]))
def b79 : XC := .seq (.reg [⟨some 2, .mov (.c .nils), none, false⟩] [0]) (.seq (.reg [⟨some 3, .mov (.c .nils), none, false⟩] [0, 3]) (.seq (.seq (.reg [⟨some 4, .mov (.c (.int .i64 0)), none, false⟩] [0, 3, 4]) (.block 0 (.loop lp79_0))) (.seq (.reg [⟨some 19, .mov (.t 3), none, false⟩, ⟨some 2, .mov (.t 19), none, false⟩] [2]) .ret)))
def x79 : XF := ⟨1, b79, [.t 2]⟩
def h79 : Yq := fun id => match id with
  | 0 => [0]
  | 1 => [0, 3]
  | 2 => [0, 3, 4]
  | 3 => [0, 3, 4, 8]
  | 4 => [0, 3, 4]
  | 5 => [0, 3, 4]
  | 6 => [2]
  | _ => []
theorem cv79 : cvF Tryd.prog h79 Tryd.f79 = some x79 := by kernel_rfl

/-- winnower/winnowerref02.value -/
def lp80_0 : XC := .seq (.seq (.reg [⟨some 8, .mov (.t 4), none, false⟩, ⟨some 9, .bin .geq (.t 8) (.c (.int .i64 0)), none, false⟩] [0, 3, 4, 9]) (.cond (.t 9) .skip (.exit 0))) (.seq (.block 1 (.reg [⟨some 12, .mov (.t 3), none, false⟩, ⟨some 13, .bin .mul (.c (.int .i64 2)) (.t 12), none, false⟩, ⟨some 14, .mov (.t 0), none, false⟩, ⟨some 15, .mov (.t 4), none, false⟩, ⟨some 16, .iaddr 1 (.t 14) (.t 15), none, false⟩, ⟨some 17, .load false 1 (.t 16), none, false⟩, ⟨some 18, .bin .add (.t 13) (.t 17), none, false⟩, ⟨some 3, .mov (.t 18), none, false⟩] [0, 3, 4])) (.reg [⟨some 10, .mov (.t 4), none, false⟩, ⟨some 11, .bin .sub (.t 10) (.c (.int .i64 1)), none, false⟩, ⟨some 4, .mov (.t 11), none, false⟩] [0, 3, 4]))
def b80 : XC := .seq (.reg [⟨some 2, .mov (.c (.int .i64 0)), none, false⟩] [0]) (.seq (.reg [⟨some 3, .mov (.c (.int .i64 0)), none, false⟩] [0, 3]) (.seq (.seq (.reg [⟨some 5, .mov (.t 0), none, false⟩, ⟨some 6, .len 1 (.t 5), none, false⟩, ⟨some 7, .bin .sub (.t 6) (.c (.int .i64 1)), none, false⟩, ⟨some 4, .mov (.t 7), none, false⟩] [0, 3, 4]) (.block 0 (.loop lp80_0))) (.seq (.reg [⟨some 19, .mov (.t 3), none, false⟩, ⟨some 2, .mov (.t 19), none, false⟩] [2]) .ret)))
def x80 : XF := ⟨1, b80, [.t 2]⟩
def h80 : Yq := fun id => match id with
  | 0 => [0]
  | 1 => [0, 3]
  | 2 => [0, 3, 4]
  | 3 => [0, 3, 4, 9]
  | 4 => [0, 3, 4]
  | 5 => [0, 3, 4]
  | 6 => [2]
  | _ => []
theorem cv80 : cvF Tryd.prog h80 Tryd.f80 = some x80 := by kernel_rfl

/-- winnower/winnowerref02.Width -/
def lp81_0 : XC := .seq (.seq (.reg [⟨some 6, .mov (.t 4), none, false⟩, ⟨some 7, .bin .gtr (.t 6) (.c (.int .i64 0)), none, false⟩] [3, 4, 7]) (.cond (.t 7) .skip (.exit 0))) (.seq (.block 1 (.reg [⟨some 10, .mov (.t 3), none, false⟩, ⟨some 11, .bin .add (.t 10) (.c (.int .i64 1)), none, false⟩, ⟨some 3, .mov (.t 11), none, false⟩] [3, 4])) (.reg [⟨some 8, .mov (.t 4), none, false⟩, ⟨some 9, .bin .quo (.t 8) (.c (.int .i64 2)), none, false⟩, ⟨some 4, .mov (.t 9), none, false⟩] [3, 4]))
def b81 : XC := .seq (.reg [⟨some 2, .mov (.c (.int .i64 0)), none, false⟩] [0]) (.seq (.reg [⟨some 3, .mov (.c (.int .i64 0)), none, false⟩] [0, 3]) (.seq (.seq (.reg [⟨some 5, .mov (.t 0), none, false⟩, ⟨some 4, .mov (.t 5), none, false⟩] [3, 4]) (.block 0 (.loop lp81_0))) (.seq (.reg [⟨some 12, .mov (.t 3), none, false⟩, ⟨some 2, .mov (.t 12), none, false⟩] [2]) .ret)))
def x81 : XF := ⟨1, b81, [.t 2]⟩
def h81 : Yq := fun id => match id with
  | 0 => [0]
  | 1 => [0, 3]
  | 2 => [3, 4]
  | 3 => [3, 4, 7]
  | 4 => [3, 4]
  | 5 => [3, 4]
  | 6 => [2]
  | _ => []
theorem cv81 : cvF Tryd.prog h81 Tryd.f81 = some x81 := by kernel_rfl

/-- winnower/dict.Rises -/
def lp82_0 : XC := .seq (.reg [⟨some 8, .bin .lss (.t 7) (.t 6), none, false⟩] [0, 5, 6, 7, 8]) (.seq (.cond (.t 8) .skip (.exit 0)) (.seq (.block 1 (.seq (.reg [⟨some 9, .mov (.t 7), none, false⟩, ⟨some 10, .iaddr 4 (.t 5) (.t 7), none, false⟩, ⟨some 11, .load true 4 (.t 10), none, false⟩, ⟨some 4, .alloc 48 [.int .i64 0, .int .i64 0, .str ⟨#[]⟩, .bool false], none, false⟩, ⟨some 3, .mov (.t 9), none, false⟩, ⟨none, .store 4 (.t 4) (.t 11), none, false⟩] [0, 3, 4, 5, 6, 7]) (.seq (.reg [⟨some 12, .load true 4 (.t 4), none, false⟩, ⟨some 13, .call (.c (.func 72 [] [])) [.t 12], none, false⟩, ⟨some 14, .un .not (.t 13), none, false⟩, ⟨some 15, .mov (.t 14), none, false⟩, ⟨some 16, .mov (.t 3), some (15, false), false⟩, ⟨some 17, .bin .gtr (.t 16) (.c (.int .i64 0)), some (15, false), false⟩, ⟨some 18, .mov (.t 17), some (15, false), false⟩, ⟨some 19, .mov (.t 0), some (18, true), false⟩, ⟨some 20, .mov (.t 3), some (18, true), false⟩, ⟨some 21, .bin .sub (.t 20) (.c (.int .i64 1)), some (18, true), false⟩, ⟨some 22, .iaddr 4 (.t 19) (.t 21), some (18, true), false⟩, ⟨some 23, .load true 4 (.t 22), some (18, true), false⟩, ⟨some 24, .load true 4 (.t 4), some (18, true), false⟩, ⟨some 25, .call (.c (.func 97 [] [])) [.t 23, .t 24], some (18, true), false⟩, ⟨some 26, .bin .geq (.t 25) (.c (.int .i64 0)), some (18, true), false⟩, ⟨some 27, .pick (.t 18) (.t 26) (.c (.bool false)), some (15, false), false⟩, ⟨some 28, .pick (.t 15) (.c (.bool true)) (.t 27), none, false⟩] [0, 5, 6, 7, 28]) (.cond (.t 28) (.seq (.reg [⟨some 2, .mov (.c (.bool false)), none, false⟩] [2]) .ret) .skip)))) (.reg [⟨some 29, .bin .add (.t 7) (.c (.int .i64 1)), none, false⟩, ⟨some 7, .mov (.t 29), none, false⟩] [0, 5, 6, 7])))
def b82 : XC := .seq (.reg [⟨some 2, .mov (.c (.bool false)), none, false⟩] [0]) (.seq (.seq (.reg [⟨some 5, .mov (.t 0), none, false⟩, ⟨some 6, .len 4 (.t 5), none, false⟩, ⟨some 7, .mov (.c (.int .i64 0)), none, false⟩] [0, 5, 6, 7]) (.block 0 (.loop lp82_0))) (.seq (.reg [⟨some 2, .mov (.c (.bool true)), none, false⟩] [2]) .ret))
def x82 : XF := ⟨1, b82, [.t 2]⟩
def h82 : Yq := fun id => match id with
  | 0 => [0]
  | 1 => [0, 5, 6, 7]
  | 2 => [0, 5, 6, 7, 8]
  | 3 => [0, 3, 4, 5, 6, 7]
  | 4 => [0, 5, 6, 7, 28]
  | 5 => [2]
  | 6 => [0, 5, 6, 7]
  | 7 => [2]
  | _ => []
theorem cv82 : cvF Tryd.prog h82 Tryd.f82 = some x82 := by kernel_rfl

/-- winnower/bits.Unpack -/
def lp83_0 : XC := .seq (.reg [⟨some 57, .bin .lss (.t 56) (.t 55), none, false⟩] [0, 2, 8, 55, 56, 57]) (.seq (.cond (.t 57) .skip (.exit 1)) (.seq (.block 2 (.seq (.reg [⟨some 58, .mov (.t 56), none, false⟩, ⟨some 9, .mov (.t 58), none, false⟩] [0, 2, 8, 9, 55, 56]) (.reg [⟨some 59, .mov (.t 8), none, false⟩, ⟨some 60, .mov (.t 9), none, false⟩, ⟨some 61, .mov (.t 0), none, false⟩, ⟨some 62, .mov (.t 9), none, false⟩, ⟨some 63, .mov (.t 2), none, false⟩, ⟨some 64, .call (.c (.func 85 [] [])) [.t 61, .t 62, .t 63], none, false⟩, ⟨some 65, .iaddr 1 (.t 59) (.t 60), none, false⟩, ⟨none, .store 1 (.t 65) (.t 64), none, false⟩] [0, 2, 8, 55, 56]))) (.reg [⟨some 66, .bin .add (.t 56) (.c (.int .i64 1)), none, false⟩, ⟨some 56, .mov (.t 66), none, false⟩] [0, 2, 8, 55, 56])))
def b83 : XC := .seq (.reg [⟨some 6, .mov (.c .nils), none, false⟩, ⟨some 7, .mov (.c (.int .i64 0)), none, false⟩] [0, 1, 2]) (.seq (.block 0 (.seq (.seq (.reg [⟨some 11, .mov (.t 2), none, false⟩, ⟨some 12, .call (.c (.func 84 [] [])) [.t 11], none, false⟩, ⟨some 13, .un .not (.t 12), none, false⟩, ⟨some 10, .mov (.t 13), none, false⟩] [0, 1, 2, 10]) (.cond (.t 10) .skip (.reg [⟨some 14, .mov (.t 1), none, false⟩, ⟨some 15, .bin .lss (.t 14) (.c (.int .i64 0)), none, false⟩, ⟨some 10, .mov (.t 15), none, false⟩] [0, 1, 2, 10]))) (.cond (.t 10) (.seq (.reg [⟨some 6, .mov (.c .nils), none, false⟩, ⟨some 7, .mov (.c (.int .i64 1)), none, false⟩] [6, 7]) .ret) (.seq (.reg [⟨some 17, .mov (.t 1), none, false⟩, ⟨some 18, .bin .gtr (.t 17) (.c (.int .i64 4096)), none, false⟩, ⟨some 16, .mov (.t 18), none, false⟩] [0, 1, 2, 16]) (.cond (.t 16) (.seq (.reg [⟨some 6, .mov (.c .nils), none, false⟩, ⟨some 7, .mov (.c (.int .i64 2)), none, false⟩] [6, 7]) .ret) (.seq (.reg [⟨some 20, .mov (.t 0), none, false⟩, ⟨some 21, .len 1 (.t 20), none, false⟩, ⟨some 22, .mov (.t 1), none, false⟩, ⟨some 23, .mov (.t 2), none, false⟩, ⟨some 24, .call (.c (.func 99 [] [])) [.t 22, .t 23], none, false⟩, ⟨some 25, .bin .lss (.t 21) (.t 24), none, false⟩, ⟨some 19, .mov (.t 25), none, false⟩] [0, 1, 2, 19]) (.cond (.t 19) (.seq (.reg [⟨some 6, .mov (.c .nils), none, false⟩, ⟨some 7, .mov (.c (.int .i64 6)), none, false⟩] [6, 7]) .ret) (.seq (.seq (.reg [⟨some 27, .mov (.t 0), none, false⟩, ⟨some 28, .len 1 (.t 27), none, false⟩, ⟨some 29, .mov (.t 1), none, false⟩, ⟨some 30, .mov (.t 2), none, false⟩, ⟨some 31, .call (.c (.func 99 [] [])) [.t 29, .t 30], none, false⟩, ⟨some 32, .bin .gtr (.t 28) (.t 31), none, false⟩, ⟨some 26, .mov (.t 32), none, false⟩] [0, 1, 2, 26]) (.cond (.t 26) .skip (.reg [⟨some 33, .mov (.t 1), none, false⟩, ⟨some 34, .mov (.t 2), none, false⟩, ⟨some 35, .bin .mul (.t 33) (.t 34), none, false⟩, ⟨some 36, .bin .rem (.t 35) (.c (.int .i64 8)), none, false⟩, ⟨some 37, .bin .gtr (.t 36) (.c (.int .i64 0)), none, false⟩, ⟨some 38, .mov (.t 37), none, false⟩, ⟨some 39, .mov (.t 0), some (38, true), false⟩, ⟨some 40, .mov (.t 0), some (38, true), false⟩, ⟨some 41, .len 1 (.t 40), some (38, true), false⟩, ⟨some 42, .bin .sub (.t 41) (.c (.int .i64 1)), some (38, true), false⟩, ⟨some 43, .iaddr 1 (.t 39) (.t 42), some (38, true), false⟩, ⟨some 44, .load false 1 (.t 43), some (38, true), false⟩, ⟨some 45, .mov (.t 1), some (38, true), false⟩, ⟨some 46, .mov (.t 2), some (38, true), false⟩, ⟨some 47, .bin .mul (.t 45) (.t 46), some (38, true), false⟩, ⟨some 48, .bin .rem (.t 47) (.c (.int .i64 8)), some (38, true), false⟩, ⟨some 49, .bin .shr (.t 44) (.t 48), some (38, true), false⟩, ⟨some 50, .bin .gtr (.t 49) (.c (.int .u8 0)), some (38, true), false⟩, ⟨some 51, .pick (.t 38) (.t 50) (.c (.bool false)), none, false⟩, ⟨some 26, .mov (.t 51), none, false⟩] [0, 1, 2, 26]))) (.cond (.t 26) (.seq (.reg [⟨some 6, .mov (.c .nils), none, false⟩, ⟨some 7, .mov (.c (.int .i64 7)), none, false⟩] [6, 7]) .ret) .skip))))))))) (.seq (.reg [⟨some 52, .mov (.t 1), none, false⟩, ⟨some 53, .make 3 1 8 (.int .i64 0) (.t 52) (.t 52), none, false⟩, ⟨some 8, .mov (.t 53), none, false⟩] [0, 2, 8]) (.seq (.seq (.reg [⟨some 54, .mov (.t 8), none, false⟩, ⟨some 55, .len 1 (.t 54), none, false⟩, ⟨some 56, .mov (.c (.int .i64 0)), none, false⟩] [0, 2, 8, 55, 56]) (.block 1 (.loop lp83_0))) (.seq (.reg [⟨some 67, .mov (.t 8), none, false⟩, ⟨some 6, .mov (.t 67), none, false⟩, ⟨some 7, .mov (.c (.int .i64 0)), none, false⟩] [6, 7]) .ret))))
def x83 : XF := ⟨3, b83, [.t 6, .t 7]⟩
def h83 : Yq := fun id => match id with
  | 0 => [0, 1, 2]
  | 1 => [0, 1, 2, 10]
  | 2 => [0, 1, 2, 10]
  | 3 => [6, 7]
  | 4 => [0, 1, 2, 16]
  | 5 => [6, 7]
  | 6 => [0, 1, 2, 19]
  | 7 => [6, 7]
  | 8 => [0, 1, 2, 26]
  | 9 => [0, 1, 2, 26]
  | 10 => [6, 7]
  | 11 => [0, 2, 8]
  | 12 => [0, 2, 8, 55, 56]
  | 13 => [0, 2, 8, 55, 56, 57]
  | 14 => [0, 2, 8, 9, 55, 56]
  | 15 => [0, 2, 8, 55, 56]
  | 16 => [0, 2, 8, 55, 56]
  | 17 => [6, 7]
  | _ => []
theorem cv83 : cvF Tryd.prog h83 Tryd.f83 = some x83 := by kernel_rfl

/-- winnower/bits.may -/
def b84 : XC := .seq (.reg [⟨some 2, .mov (.c (.bool false)), none, false⟩] [0]) (.seq (.reg [⟨some 3, .mov (.t 0), none, false⟩, ⟨some 4, .bin .geq (.t 3) (.c (.int .i64 0)), none, false⟩, ⟨some 5, .mov (.t 4), none, false⟩, ⟨some 6, .mov (.t 0), some (5, true), false⟩, ⟨some 7, .bin .leq (.t 6) (.c (.int .i64 62)), some (5, true), false⟩, ⟨some 8, .pick (.t 5) (.t 7) (.c (.bool false)), none, false⟩, ⟨some 2, .mov (.t 8), none, false⟩] [2]) .ret)
def x84 : XF := ⟨1, b84, [.t 2]⟩
def h84 : Yq := fun id => match id with
  | 0 => [0]
  | 1 => [2]
  | _ => []
theorem cv84 : cvF Tryd.prog h84 Tryd.f84 = some x84 := by kernel_rfl

/-- winnower/bits.number -/
def b85 : XC := .seq (.reg [⟨some 3, .box 39 (.t 0), none, false⟩, ⟨some 6, .mov (.c (.int .i64 0)), none, false⟩] [1, 2, 3]) (.seq (.reg [⟨some 7, .alloc 3 [.int .i64 0], none, false⟩, ⟨none, .store 1 (.t 7) (.c (.int .i64 0)), none, false⟩] [1, 2, 3, 7]) (.seq (.reg [⟨some 8, .mov (.t 1), none, false⟩, ⟨some 9, .mov (.t 2), none, false⟩, ⟨some 10, .mkfn 115 [] [.t 7, .t 3], none, false⟩, ⟨some 11, .call (.c (.func 100 [] [])) [.t 8, .t 9, .t 10], none, false⟩] [7]) (.seq (.reg [⟨some 12, .load false 1 (.t 7), none, false⟩, ⟨some 6, .mov (.t 12), none, false⟩] [6]) .ret)))
def x85 : XF := ⟨3, b85, [.t 6]⟩
def h85 : Yq := fun id => match id with
  | 0 => [1, 2, 3]
  | 1 => [1, 2, 3, 7]
  | 2 => [7]
  | 3 => [6]
  | _ => []
theorem cv85 : cvF Tryd.prog h85 Tryd.f85 = some x85 := by kernel_rfl

/-- winnower/bits.Width -/
def b86 : XC := .seq (.reg [⟨some 2, .mov (.c (.int .i64 0)), none, false⟩] [0]) (.seq (.reg [⟨some 3, .mov (.t 0), none, false⟩, ⟨some 4, .mmx true [.t 3, .c (.int .i64 0)], none, false⟩, ⟨some 5, .toint .u64 (.t 4), none, false⟩, ⟨some 6, .call (.c (.func 116 [] [])) [.t 5], none, false⟩, ⟨some 2, .mov (.t 6), none, false⟩] [2]) .ret)
def x86 : XF := ⟨1, b86, [.t 2]⟩
def h86 : Yq := fun id => match id with
  | 0 => [0]
  | 1 => [2]
  | _ => []
theorem cv86 : cvF Tryd.prog h86 Tryd.f86 = some x86 := by kernel_rfl

/-- winnower/bitset.Of -/
def lp87_0 : XC := .seq (.reg [⟨some 9, .bin .lss (.t 8) (.t 7), none, false⟩] [2, 3, 6, 7, 8, 9]) (.seq (.cond (.t 9) .skip (.exit 0)) (.seq (.block 1 (.seq (.reg [⟨some 10, .iaddr 1 (.t 6) (.t 8), none, false⟩, ⟨some 11, .load false 1 (.t 10), none, false⟩, ⟨some 5, .mov (.t 11), none, false⟩] [2, 3, 5, 6, 7, 8]) (.seq (.reg [⟨some 12, .mov (.t 5), none, false⟩, ⟨some 13, .call (.c (.func 105 [] [])) [.t 12], none, false⟩] [2, 3, 5, 6, 7, 8, 13]) (.cond (.t 13) (.reg [⟨some 14, .mov (.t 3), none, false⟩, ⟨some 15, .mov (.t 5), none, false⟩, ⟨some 16, .call (.c (.func 117 [] [])) [.t 14, .t 15], none, false⟩, ⟨some 3, .mov (.t 16), none, false⟩] [2, 3, 6, 7, 8]) .skip)))) (.reg [⟨some 17, .bin .add (.t 8) (.c (.int .i64 1)), none, false⟩, ⟨some 8, .mov (.t 17), none, false⟩] [2, 3, 6, 7, 8])))
def b87 : XC := .seq (.reg [⟨some 2, .alloc 34 [.nils], none, false⟩] [0, 2]) (.seq (.reg [⟨some 3, .mov (.c .nils), none, false⟩] [0, 2, 3]) (.seq (.seq (.reg [⟨some 6, .mov (.t 0), none, false⟩, ⟨some 7, .len 1 (.t 6), none, false⟩, ⟨some 8, .mov (.c (.int .i64 0)), none, false⟩] [2, 3, 6, 7, 8]) (.block 0 (.loop lp87_0))) (.seq (.reg [⟨some 18, .mov (.t 3), none, false⟩, ⟨some 19, .build [.nils] [(0, (1, .t 18))], none, false⟩, ⟨none, .store 1 (.t 2) (.t 19), none, false⟩] [2]) .ret)))
def x87 : XF := ⟨1, b87, [.cell 2 true 1]⟩
def h87 : Yq := fun id => match id with
  | 0 => [0, 2]
  | 1 => [0, 2, 3]
  | 2 => [2, 3, 6, 7, 8]
  | 3 => [2, 3, 6, 7, 8, 9]
  | 4 => [2, 3, 5, 6, 7, 8]
  | 5 => [2, 3, 5, 6, 7, 8, 13]
  | 6 => [2, 3, 6, 7, 8]
  | 7 => [2, 3, 6, 7, 8]
  | 8 => [2]
  | _ => []
theorem cv87 : cvF Tryd.prog h87 Tryd.f87 = some x87 := by kernel_rfl

/-- winnower/value.truth -/
def b90 : XC := .seq (.reg [⟨some 2, .mov (.c (.int .i64 0)), none, false⟩] [0]) (.seq (.seq (.reg [⟨some 3, .mov (.t 0), none, false⟩] [3]) (.cond (.t 3) (.seq (.reg [⟨some 2, .mov (.c (.int .i64 1)), none, false⟩] [2]) .ret) .skip)) (.seq (.reg [⟨some 2, .mov (.c (.int .i64 0)), none, false⟩] [2]) .ret))
def x90 : XF := ⟨1, b90, [.t 2]⟩
def h90 : Yq := fun id => match id with
  | 0 => [0]
  | 1 => [3]
  | 2 => [2]
  | 3 => [2]
  | _ => []
theorem cv90 : cvF Tryd.prog h90 Tryd.f90 = some x90 := by kernel_rfl

/-- winnower/value.Order -/
def b97 : XC := .seq (.reg [⟨some 2, .box 48 (.t 0), none, false⟩, ⟨some 3, .box 48 (.t 1), none, false⟩, ⟨some 4, .mov (.c (.int .i64 0)), none, false⟩] [2, 3]) (.seq (.block 0 (.seq (.reg [⟨some 6, .faddr 0 (.t 2), none, false⟩, ⟨some 7, .load false 1 (.t 6), none, false⟩, ⟨some 8, .faddr 0 (.t 3), none, false⟩, ⟨some 9, .load false 1 (.t 8), none, false⟩, ⟨some 10, .bin .neq (.t 7) (.t 9), none, false⟩, ⟨some 5, .mov (.t 10), none, false⟩] [2, 3, 5]) (.cond (.t 5) (.seq (.reg [⟨some 11, .faddr 0 (.t 2), none, false⟩, ⟨some 12, .load false 1 (.t 11), none, false⟩, ⟨some 13, .faddr 0 (.t 3), none, false⟩, ⟨some 14, .load false 1 (.t 13), none, false⟩, ⟨some 15, .call (.c (.func 121 [] [])) [.t 12, .t 14], none, false⟩, ⟨some 4, .mov (.t 15), none, false⟩] [4]) .ret) (.seq (.reg [⟨some 17, .faddr 0 (.t 2), none, false⟩, ⟨some 18, .load false 1 (.t 17), none, false⟩, ⟨some 19, .bin .eql (.t 18) (.c (.int .i64 1)), none, false⟩, ⟨some 16, .mov (.t 19), none, false⟩] [2, 3, 16]) (.cond (.t 16) (.seq (.reg [⟨some 20, .faddr 1 (.t 2), none, false⟩, ⟨some 21, .load false 1 (.t 20), none, false⟩, ⟨some 22, .faddr 1 (.t 3), none, false⟩, ⟨some 23, .load false 1 (.t 22), none, false⟩, ⟨some 24, .call (.c (.func 121 [] [])) [.t 21, .t 23], none, false⟩, ⟨some 4, .mov (.t 24), none, false⟩] [4]) .ret) (.seq (.reg [⟨some 26, .faddr 0 (.t 2), none, false⟩, ⟨some 27, .load false 1 (.t 26), none, false⟩, ⟨some 28, .bin .eql (.t 27) (.c (.int .i64 2)), none, false⟩, ⟨some 25, .mov (.t 28), none, false⟩] [2, 3, 25]) (.cond (.t 25) (.seq (.reg [⟨some 29, .faddr 2 (.t 2), none, false⟩, ⟨some 30, .load false 1 (.t 29), none, false⟩, ⟨some 31, .faddr 2 (.t 3), none, false⟩, ⟨some 32, .load false 1 (.t 31), none, false⟩, ⟨some 33, .call (.c (.func 122 [] [])) [.t 30, .t 32], none, false⟩, ⟨some 4, .mov (.t 33), none, false⟩] [4]) .ret) (.seq (.reg [⟨some 35, .faddr 0 (.t 2), none, false⟩, ⟨some 36, .load false 1 (.t 35), none, false⟩, ⟨some 37, .bin .eql (.t 36) (.c (.int .i64 3)), none, false⟩, ⟨some 34, .mov (.t 37), none, false⟩] [2, 3, 34]) (.cond (.t 34) (.seq (.reg [⟨some 38, .faddr 3 (.t 2), none, false⟩, ⟨some 39, .load false 1 (.t 38), none, false⟩, ⟨some 40, .call (.c (.func 90 [] [])) [.t 39], none, true⟩, ⟨some 41, .faddr 3 (.t 3), none, false⟩, ⟨some 42, .load false 1 (.t 41), none, false⟩, ⟨some 43, .call (.c (.func 90 [] [])) [.t 42], none, false⟩, ⟨some 44, .call (.c (.func 121 [] [])) [.t 40, .t 43], none, false⟩, ⟨some 4, .mov (.t 44), none, false⟩] [4]) .ret) .skip))))))))) (.seq (.reg [⟨some 4, .mov (.c (.int .i64 0)), none, false⟩] [4]) .ret))
def x97 : XF := ⟨2, b97, [.t 4]⟩
def h97 : Yq := fun id => match id with
  | 0 => [2, 3]
  | 1 => [2, 3, 5]
  | 2 => [4]
  | 3 => [2, 3, 16]
  | 4 => [4]
  | 5 => [2, 3, 25]
  | 6 => [4]
  | 7 => [2, 3, 34]
  | 8 => [4]
  | 9 => [4]
  | _ => []
theorem cv97 : cvF Tryd.prog h97 Tryd.f97 = some x97 := by kernel_rfl

/-- winnower/dict.search -/
def b98 : XC := .seq (.reg [⟨some 3, .box 48 (.t 1), none, false⟩, ⟨some 4, .mov (.c (.int .i64 0)), none, false⟩, ⟨some 5, .mov (.c (.bool false)), none, false⟩] [0, 3]) (.seq (.reg [⟨some 7, .mov (.t 0), none, false⟩, ⟨some 8, .mkfn 124 [] [.t 3], none, false⟩, ⟨some 9, .call (.c (.func 123 [] [])) [.t 7, .t 8], none, false⟩, ⟨some 6, .mov (.t 9), none, false⟩] [0, 3, 6]) (.seq (.reg [⟨some 10, .mov (.t 6), none, false⟩, ⟨some 11, .mov (.t 6), none, false⟩, ⟨some 12, .mov (.t 0), none, false⟩, ⟨some 13, .len 4 (.t 12), none, false⟩, ⟨some 14, .bin .lss (.t 11) (.t 13), none, false⟩, ⟨some 15, .mov (.t 14), none, false⟩, ⟨some 16, .mov (.t 0), some (15, true), false⟩, ⟨some 17, .mov (.t 6), some (15, true), false⟩, ⟨some 18, .iaddr 4 (.t 16) (.t 17), some (15, true), false⟩, ⟨some 19, .load true 4 (.t 18), some (15, true), false⟩, ⟨some 20, .load true 4 (.t 3), some (15, true), false⟩, ⟨some 21, .eqa [1, 1, 2, 0] false (.t 19) (.t 20), some (15, true), false⟩, ⟨some 22, .pick (.t 15) (.t 21) (.c (.bool false)), none, false⟩, ⟨some 4, .mov (.t 10), none, false⟩, ⟨some 5, .mov (.t 22), none, false⟩] [4, 5]) .ret))
def x98 : XF := ⟨2, b98, [.t 4, .t 5]⟩
def h98 : Yq := fun id => match id with
  | 0 => [0, 3]
  | 1 => [0, 3, 6]
  | 2 => [4, 5]
  | _ => []
theorem cv98 : cvF Tryd.prog h98 Tryd.f98 = some x98 := by kernel_rfl

/-- winnower/bits.size -/
def b99 : XC := .seq (.reg [⟨some 4, .mov (.c (.int .i64 0)), none, false⟩] [0, 1]) (.seq (.reg [⟨some 5, .mov (.t 0), none, false⟩, ⟨some 6, .mov (.t 1), none, false⟩, ⟨some 7, .bin .mul (.t 5) (.t 6), none, false⟩, ⟨some 8, .bin .add (.t 7) (.c (.int .i64 7)), none, false⟩, ⟨some 9, .bin .quo (.t 8) (.c (.int .i64 8)), none, false⟩, ⟨some 4, .mov (.t 9), none, false⟩] [4]) .ret)
def x99 : XF := ⟨2, b99, [.t 4]⟩
def h99 : Yq := fun id => match id with
  | 0 => [0, 1]
  | 1 => [4]
  | _ => []
theorem cv99 : cvF Tryd.prog h99 Tryd.f99 = some x99 := by kernel_rfl

/-- winnower/bits.places -/
def lp100_0 : XC := .seq (.reg [⟨some 9, .bin .lss (.t 8) (.t 7), none, false⟩] [0, 1, 2, 7, 8, 9]) (.seq (.cond (.t 9) .skip (.exit 0)) (.seq (.block 1 (.seq (.reg [⟨some 10, .mov (.t 8), none, false⟩, ⟨some 6, .mov (.t 10), none, false⟩] [0, 1, 2, 6, 7, 8]) (.reg [⟨some 11, .mov (.t 2), none, false⟩, ⟨some 12, .mov (.t 0), none, false⟩, ⟨some 13, .mov (.t 1), none, false⟩, ⟨some 14, .bin .mul (.t 12) (.t 13), none, false⟩, ⟨some 15, .mov (.t 6), none, false⟩, ⟨some 16, .bin .add (.t 14) (.t 15), none, false⟩, ⟨some 17, .mov (.t 6), none, false⟩, ⟨some 18, .call (.t 11) [.t 16, .t 17], none, false⟩] [0, 1, 2, 7, 8]))) (.reg [⟨some 19, .bin .add (.t 8) (.c (.int .i64 1)), none, false⟩, ⟨some 8, .mov (.t 19), none, false⟩] [0, 1, 2, 7, 8])))
def b100 : XC := .seq (.reg [⟨some 7, .mov (.t 1), none, false⟩, ⟨some 8, .mov (.c (.int .i64 0)), none, false⟩] [0, 1, 2, 7, 8]) (.block 0 (.loop lp100_0))
def x100 : XF := ⟨3, b100, []⟩
def h100 : Yq := fun id => match id with
  | 0 => [0, 1, 2, 7, 8]
  | 1 => [0, 1, 2, 7, 8, 9]
  | 2 => [0, 1, 2, 6, 7, 8]
  | 3 => [0, 1, 2, 7, 8]
  | 4 => [0, 1, 2, 7, 8]
  | _ => []
theorem cv100 : cvF Tryd.prog h100 Tryd.f100 = some x100 := by kernel_rfl

/-- winnower/filter.one -/
def b104 : XC := .seq (.reg [⟨some 2, .box 70 (.t 0), none, false⟩, ⟨some 3, .box 48 (.t 1), none, false⟩, ⟨some 4, .mov (.c (.bool false)), none, false⟩] [2, 3]) (.seq (.seq (.reg [⟨some 6, .faddr 0 (.t 2), none, false⟩, ⟨some 7, .load false 1 (.t 6), none, false⟩, ⟨some 8, .bin .eql (.t 7) (.c (.int .i64 7)), none, false⟩, ⟨some 9, .mov (.t 8), none, false⟩, ⟨some 10, .faddr 0 (.t 3), some (9, false), false⟩, ⟨some 11, .load false 1 (.t 10), some (9, false), false⟩, ⟨some 12, .bin .eql (.t 11) (.c (.int .i64 0)), some (9, false), false⟩, ⟨some 13, .pick (.t 9) (.c (.bool true)) (.t 12), none, false⟩] [2, 3, 13]) (.cond (.t 13) (.seq (.reg [⟨some 14, .faddr 0 (.t 2), none, false⟩, ⟨some 15, .load false 1 (.t 14), none, false⟩, ⟨some 16, .bin .eql (.t 15) (.c (.int .i64 7)), none, false⟩, ⟨some 17, .mov (.t 16), none, false⟩, ⟨some 18, .faddr 0 (.t 3), some (17, true), false⟩, ⟨some 19, .load false 1 (.t 18), some (17, true), false⟩, ⟨some 20, .bin .eql (.t 19) (.c (.int .i64 0)), some (17, true), false⟩, ⟨some 21, .pick (.t 17) (.t 20) (.c (.bool false)), none, false⟩, ⟨some 4, .mov (.t 21), none, false⟩] [4]) .ret) .skip)) (.seq (.reg [⟨some 22, .load true 4 (.t 3), none, false⟩, ⟨some 23, .faddr 2 (.t 2), none, false⟩, ⟨some 24, .load true 4 (.t 23), none, false⟩, ⟨some 25, .call (.c (.func 97 [] [])) [.t 22, .t 24], none, false⟩, ⟨some 5, .mov (.t 25), none, false⟩] [2, 5]) (.seq (.seq (.reg [⟨some 26, .faddr 0 (.t 2), none, false⟩, ⟨some 27, .load false 1 (.t 26), none, false⟩] [5, 27]) (.block 0 (.seq (.reg [⟨some 29, .bin .eql (.t 27) (.c (.int .i64 1)), none, false⟩, ⟨some 28, .mov (.t 29), none, false⟩] [5, 27, 28]) (.cond (.t 28) (.seq (.reg [⟨some 30, .mov (.t 5), none, false⟩, ⟨some 31, .bin .eql (.t 30) (.c (.int .i64 0)), none, false⟩, ⟨some 4, .mov (.t 31), none, false⟩] [4]) .ret) (.seq (.reg [⟨some 33, .bin .eql (.t 27) (.c (.int .i64 2)), none, false⟩, ⟨some 32, .mov (.t 33), none, false⟩] [5, 27, 32]) (.cond (.t 32) (.seq (.reg [⟨some 34, .mov (.t 5), none, false⟩, ⟨some 35, .bin .neq (.t 34) (.c (.int .i64 0)), none, false⟩, ⟨some 4, .mov (.t 35), none, false⟩] [4]) .ret) (.seq (.reg [⟨some 37, .bin .eql (.t 27) (.c (.int .i64 3)), none, false⟩, ⟨some 36, .mov (.t 37), none, false⟩] [5, 27, 36]) (.cond (.t 36) (.seq (.reg [⟨some 38, .mov (.t 5), none, false⟩, ⟨some 39, .bin .lss (.t 38) (.c (.int .i64 0)), none, false⟩, ⟨some 4, .mov (.t 39), none, false⟩] [4]) .ret) (.seq (.reg [⟨some 41, .bin .eql (.t 27) (.c (.int .i64 4)), none, false⟩, ⟨some 40, .mov (.t 41), none, false⟩] [5, 27, 40]) (.cond (.t 40) (.seq (.reg [⟨some 42, .mov (.t 5), none, false⟩, ⟨some 43, .bin .leq (.t 42) (.c (.int .i64 0)), none, false⟩, ⟨some 4, .mov (.t 43), none, false⟩] [4]) .ret) (.seq (.reg [⟨some 45, .bin .eql (.t 27) (.c (.int .i64 5)), none, false⟩, ⟨some 44, .mov (.t 45), none, false⟩] [5, 27, 44]) (.cond (.t 44) (.seq (.reg [⟨some 46, .mov (.t 5), none, false⟩, ⟨some 47, .bin .gtr (.t 46) (.c (.int .i64 0)), none, false⟩, ⟨some 4, .mov (.t 47), none, false⟩] [4]) .ret) (.seq (.reg [⟨some 49, .bin .eql (.t 27) (.c (.int .i64 6)), none, false⟩, ⟨some 48, .mov (.t 49), none, false⟩] [5, 48]) (.cond (.t 48) (.seq (.reg [⟨some 50, .mov (.t 5), none, false⟩, ⟨some 51, .bin .geq (.t 50) (.c (.int .i64 0)), none, false⟩, ⟨some 4, .mov (.t 51), none, false⟩] [4]) .ret) .skip)))))))))))))) (.seq (.reg [⟨some 4, .mov (.c (.bool false)), none, false⟩] [4]) .ret))))
def x104 : XF := ⟨2, b104, [.t 4]⟩
def h104 : Yq := fun id => match id with
  | 0 => [2, 3]
  | 1 => [2, 3, 13]
  | 2 => [4]
  | 3 => [2, 5]
  | 4 => [5, 27]
  | 5 => [5, 27, 28]
  | 6 => [4]
  | 7 => [5, 27, 32]
  | 8 => [4]
  | 9 => [5, 27, 36]
  | 10 => [4]
  | 11 => [5, 27, 40]
  | 12 => [4]
  | 13 => [5, 27, 44]
  | 14 => [4]
  | 15 => [5, 48]
  | 16 => [4]
  | 17 => [4]
  | _ => []
theorem cv104 : cvF Tryd.prog h104 Tryd.f104 = some x104 := by kernel_rfl

/-- winnower/bitset.may -/
def b105 : XC := .seq (.reg [⟨some 2, .mov (.c (.bool false)), none, false⟩] [0]) (.seq (.reg [⟨some 3, .mov (.t 0), none, false⟩, ⟨some 4, .bin .geq (.t 3) (.c (.int .i64 0)), none, false⟩, ⟨some 5, .mov (.t 4), none, false⟩, ⟨some 6, .mov (.t 0), some (5, true), false⟩, ⟨some 7, .bin .lss (.t 6) (.c (.int .i64 65536)), some (5, true), false⟩, ⟨some 8, .pick (.t 5) (.t 7) (.c (.bool false)), none, false⟩, ⟨some 2, .mov (.t 8), none, false⟩] [2]) .ret)
def x105 : XF := ⟨1, b105, [.t 2]⟩
def h105 : Yq := fun id => match id with
  | 0 => [0]
  | 1 => [2]
  | _ => []
theorem cv105 : cvF Tryd.prog h105 Tryd.f105 = some x105 := by kernel_rfl

/-- (winnower/bitset.Set).at -/
def b106 : XC := .seq (.reg [⟨some 2, .box 34 (.t 0), none, false⟩, ⟨some 4, .mov (.c (.int .u64 0)), none, false⟩] [1, 2]) (.seq (.seq (.reg [⟨some 5, .mov (.t 1), none, false⟩, ⟨some 6, .faddr 0 (.t 2), none, false⟩, ⟨some 7, .load false 1 (.t 6), none, false⟩, ⟨some 8, .len 1 (.t 7), none, false⟩, ⟨some 9, .bin .lss (.t 5) (.t 8), none, false⟩] [1, 2, 9]) (.cond (.t 9) (.seq (.reg [⟨some 10, .faddr 0 (.t 2), none, false⟩, ⟨some 11, .load false 1 (.t 10), none, false⟩, ⟨some 12, .mov (.t 1), none, false⟩, ⟨some 13, .iaddr 1 (.t 11) (.t 12), none, false⟩, ⟨some 14, .load false 1 (.t 13), none, false⟩, ⟨some 4, .mov (.t 14), none, false⟩] [4]) .ret) .skip)) (.seq (.reg [⟨some 4, .mov (.c (.int .u64 0)), none, false⟩] [4]) .ret))
def x106 : XF := ⟨2, b106, [.t 4]⟩
def h106 : Yq := fun id => match id with
  | 0 => [1, 2]
  | 1 => [1, 2, 9]
  | 2 => [4]
  | 3 => [4]
  | _ => []
theorem cv106 : cvF Tryd.prog h106 Tryd.f106 = some x106 := by kernel_rfl

/-- winnower/bitset.each -/
def lp107_0 : XC := .seq (.reg [⟨some 12, .bin .lss (.t 11) (.t 10), none, false⟩] [1, 4, 5, 10, 11, 12]) (.seq (.cond (.t 12) .skip (.exit 0)) (.seq (.block 1 (.seq (.reg [⟨some 13, .mov (.t 11), none, false⟩, ⟨some 6, .mov (.t 13), none, false⟩] [1, 4, 5, 6, 10, 11]) (.reg [⟨some 14, .mov (.t 5), none, false⟩, ⟨some 15, .mov (.t 6), none, false⟩, ⟨some 16, .mov (.t 1), none, false⟩, ⟨some 17, .mov (.t 6), none, false⟩, ⟨some 18, .call (.t 16) [.t 17], none, false⟩, ⟨some 19, .iaddr 1 (.t 14) (.t 15), none, false⟩, ⟨none, .store 1 (.t 19) (.t 18), none, false⟩] [1, 4, 5, 10, 11]))) (.reg [⟨some 20, .bin .add (.t 11) (.c (.int .i64 1)), none, false⟩, ⟨some 11, .mov (.t 20), none, false⟩] [1, 4, 5, 10, 11])))
def b107 : XC := .seq (.reg [⟨some 4, .alloc 34 [.nils], none, false⟩] [0, 1, 4]) (.seq (.reg [⟨some 7, .mov (.t 0), none, false⟩, ⟨some 8, .make 108 1 8 (.int .u64 0) (.t 7) (.t 7), none, false⟩, ⟨some 5, .mov (.t 8), none, false⟩] [1, 4, 5]) (.seq (.seq (.reg [⟨some 9, .mov (.t 5), none, false⟩, ⟨some 10, .len 1 (.t 9), none, false⟩, ⟨some 11, .mov (.c (.int .i64 0)), none, false⟩] [1, 4, 5, 10, 11]) (.block 0 (.loop lp107_0))) (.seq (.reg [⟨some 21, .mov (.t 5), none, false⟩, ⟨some 22, .build [.nils] [(0, (1, .t 21))], none, false⟩, ⟨none, .store 1 (.t 4) (.t 22), none, false⟩] [4]) .ret)))
def x107 : XF := ⟨2, b107, [.cell 4 true 1]⟩
def h107 : Yq := fun id => match id with
  | 0 => [0, 1, 4]
  | 1 => [1, 4, 5]
  | 2 => [1, 4, 5, 10, 11]
  | 3 => [1, 4, 5, 10, 11, 12]
  | 4 => [1, 4, 5, 6, 10, 11]
  | 5 => [1, 4, 5, 10, 11]
  | 6 => [1, 4, 5, 10, 11]
  | 7 => [4]
  | _ => []
theorem cv107 : cvF Tryd.prog h107 Tryd.f107 = some x107 := by kernel_rfl

/-- winnower/bitset.Upto$1 -/
def b108 : XC := .seq (.reg [⟨some 3, .mov (.c (.int .u64 0)), none, false⟩] [0, 1]) (.seq (.seq (.reg [⟨some 4, .load false 1 (.t 1), none, false⟩, ⟨some 5, .mov (.t 0), none, false⟩, ⟨some 6, .bin .mul (.t 5) (.c (.int .i64 64)), none, false⟩, ⟨some 7, .bin .sub (.t 4) (.t 6), none, false⟩, ⟨some 8, .bin .geq (.t 7) (.c (.int .i64 64)), none, false⟩] [0, 1, 8]) (.cond (.t 8) (.seq (.reg [⟨some 3, .mov (.c (.int .u64 18446744073709551615)), none, false⟩] [3]) .ret) .skip)) (.seq (.reg [⟨some 9, .load false 1 (.t 1), none, false⟩, ⟨some 10, .mov (.t 0), none, false⟩, ⟨some 11, .bin .mul (.t 10) (.c (.int .i64 64)), none, false⟩, ⟨some 12, .bin .sub (.t 9) (.t 11), none, false⟩, ⟨some 13, .bin .shl (.c (.int .u64 1)) (.t 12), none, false⟩, ⟨some 14, .bin .sub (.t 13) (.c (.int .u64 1)), none, false⟩, ⟨some 3, .mov (.t 14), none, false⟩] [3]) .ret))
def x108 : XF := ⟨2, b108, [.t 3]⟩
def h108 : Yq := fun id => match id with
  | 0 => [0, 1]
  | 1 => [0, 1, 8]
  | 2 => [3]
  | 3 => [3]
  | _ => []
theorem cv108 : cvF Tryd.prog h108 Tryd.f108 = some x108 := by kernel_rfl

/-- (winnower/bitset.Set).Not$1 -/
def b109 : XC := .seq (.reg [⟨some 4, .mov (.c (.int .u64 0)), none, false⟩] [0, 1, 2]) (.seq (.reg [⟨some 5, .faddr 0 (.t 1), none, false⟩, ⟨some 6, .load false 1 (.t 5), none, false⟩, ⟨some 7, .mov (.t 0), none, false⟩, ⟨some 8, .iaddr 1 (.t 6) (.t 7), none, false⟩, ⟨some 9, .load false 1 (.t 8), none, false⟩, ⟨some 10, .load true 1 (.t 2), none, false⟩, ⟨some 11, .mov (.t 0), none, false⟩, ⟨some 12, .call (.c (.func 106 [] [])) [.t 10, .t 11], none, true⟩, ⟨some 13, .bin .andNot (.t 9) (.t 12), none, false⟩, ⟨some 4, .mov (.t 13), none, false⟩] [4]) .ret)
def x109 : XF := ⟨3, b109, [.t 4]⟩
def h109 : Yq := fun id => match id with
  | 0 => [0, 1, 2]
  | 1 => [4]
  | _ => []
theorem cv109 : cvF Tryd.prog h109 Tryd.f109 = some x109 := by kernel_rfl

/-- (winnower/bitset.Set).And$1 -/
def b110 : XC := .seq (.reg [⟨some 4, .mov (.c (.int .u64 0)), none, false⟩] [0, 1, 2]) (.seq (.reg [⟨some 5, .faddr 0 (.t 1), none, false⟩, ⟨some 6, .load false 1 (.t 5), none, false⟩, ⟨some 7, .mov (.t 0), none, false⟩, ⟨some 8, .iaddr 1 (.t 6) (.t 7), none, false⟩, ⟨some 9, .load false 1 (.t 8), none, false⟩, ⟨some 10, .faddr 0 (.t 2), none, false⟩, ⟨some 11, .load false 1 (.t 10), none, false⟩, ⟨some 12, .mov (.t 0), none, false⟩, ⟨some 13, .iaddr 1 (.t 11) (.t 12), none, false⟩, ⟨some 14, .load false 1 (.t 13), none, false⟩, ⟨some 15, .bin .and (.t 9) (.t 14), none, false⟩, ⟨some 4, .mov (.t 15), none, false⟩] [4]) .ret)
def x110 : XF := ⟨3, b110, [.t 4]⟩
def h110 : Yq := fun id => match id with
  | 0 => [0, 1, 2]
  | 1 => [4]
  | _ => []
theorem cv110 : cvF Tryd.prog h110 Tryd.f110 = some x110 := by kernel_rfl

/-- (winnower/bitset.Set).Or$1 -/
def b111 : XC := .seq (.reg [⟨some 4, .mov (.c (.int .u64 0)), none, false⟩] [0, 1, 2]) (.seq (.reg [⟨some 5, .load true 1 (.t 1), none, false⟩, ⟨some 6, .mov (.t 0), none, false⟩, ⟨some 7, .call (.c (.func 106 [] [])) [.t 5, .t 6], none, true⟩, ⟨some 8, .load true 1 (.t 2), none, false⟩, ⟨some 9, .mov (.t 0), none, false⟩, ⟨some 10, .call (.c (.func 106 [] [])) [.t 8, .t 9], none, false⟩, ⟨some 11, .bin .or (.t 7) (.t 10), none, false⟩, ⟨some 4, .mov (.t 11), none, false⟩] [4]) .ret)
def x111 : XF := ⟨3, b111, [.t 4]⟩
def h111 : Yq := fun id => match id with
  | 0 => [0, 1, 2]
  | 1 => [4]
  | _ => []
theorem cv111 : cvF Tryd.prog h111 Tryd.f111 = some x111 := by kernel_rfl

/-- winnower/winnowerref17.compared -/
def b112 : XC := .seq (.reg [⟨some 2, .box 70 (.t 0), none, false⟩, ⟨some 3, .box 48 (.t 1), none, false⟩, ⟨some 4, .mov (.c (.bool false)), none, false⟩] [2, 3]) (.seq (.seq (.reg [⟨some 6, .faddr 0 (.t 3), none, false⟩, ⟨some 7, .load false 1 (.t 6), none, false⟩, ⟨some 8, .bin .eql (.t 7) (.c (.int .i64 0)), none, false⟩] [2, 3, 8]) (.cond (.t 8) (.seq (.reg [⟨some 4, .mov (.c (.bool false)), none, false⟩] [4]) .ret) .skip)) (.seq (.reg [⟨some 9, .load true 4 (.t 3), none, false⟩, ⟨some 10, .faddr 2 (.t 2), none, false⟩, ⟨some 11, .load true 4 (.t 10), none, false⟩, ⟨some 12, .call (.c (.func 78 [] [])) [.t 9, .t 11], none, false⟩, ⟨some 5, .mov (.t 12), none, false⟩] [2, 5]) (.seq (.reg [⟨some 13, .faddr 0 (.t 2), none, false⟩, ⟨some 14, .load false 1 (.t 13), none, false⟩, ⟨some 15, .bin .eql (.t 14) (.c (.int .i64 1)), none, false⟩, ⟨some 16, .mov (.t 15), none, false⟩, ⟨some 17, .mov (.t 5), some (16, true), false⟩, ⟨some 18, .bin .eql (.t 17) (.c (.int .i64 0)), some (16, true), false⟩, ⟨some 19, .pick (.t 16) (.t 18) (.c (.bool false)), none, false⟩, ⟨some 20, .mov (.t 19), none, false⟩, ⟨some 21, .faddr 0 (.t 2), some (20, false), false⟩, ⟨some 22, .load false 1 (.t 21), some (20, false), false⟩, ⟨some 23, .bin .eql (.t 22) (.c (.int .i64 2)), some (20, false), false⟩, ⟨some 24, .mov (.t 23), some (20, false), false⟩, ⟨some 25, .mov (.t 5), some (24, true), false⟩, ⟨some 26, .bin .neq (.t 25) (.c (.int .i64 0)), some (24, true), false⟩, ⟨some 27, .pick (.t 24) (.t 26) (.c (.bool false)), some (20, false), false⟩, ⟨some 28, .pick (.t 20) (.c (.bool true)) (.t 27), none, false⟩, ⟨some 29, .mov (.t 28), none, false⟩, ⟨some 30, .faddr 0 (.t 2), some (29, false), false⟩, ⟨some 31, .load false 1 (.t 30), some (29, false), false⟩, ⟨some 32, .bin .eql (.t 31) (.c (.int .i64 3)), some (29, false), false⟩, ⟨some 33, .mov (.t 32), some (29, false), false⟩, ⟨some 34, .mov (.t 5), some (33, true), false⟩, ⟨some 35, .bin .lss (.t 34) (.c (.int .i64 0)), some (33, true), false⟩, ⟨some 36, .pick (.t 33) (.t 35) (.c (.bool false)), some (29, false), false⟩, ⟨some 37, .pick (.t 29) (.c (.bool true)) (.t 36), none, false⟩, ⟨some 38, .mov (.t 37), none, false⟩, ⟨some 39, .faddr 0 (.t 2), some (38, false), false⟩, ⟨some 40, .load false 1 (.t 39), some (38, false), false⟩, ⟨some 41, .bin .eql (.t 40) (.c (.int .i64 4)), some (38, false), false⟩, ⟨some 42, .mov (.t 41), some (38, false), false⟩, ⟨some 43, .mov (.t 5), some (42, true), false⟩, ⟨some 44, .bin .leq (.t 43) (.c (.int .i64 0)), some (42, true), false⟩, ⟨some 45, .pick (.t 42) (.t 44) (.c (.bool false)), some (38, false), false⟩, ⟨some 46, .pick (.t 38) (.c (.bool true)) (.t 45), none, false⟩, ⟨some 47, .mov (.t 46), none, false⟩, ⟨some 48, .faddr 0 (.t 2), some (47, false), false⟩, ⟨some 49, .load false 1 (.t 48), some (47, false), false⟩, ⟨some 50, .bin .eql (.t 49) (.c (.int .i64 5)), some (47, false), false⟩, ⟨some 51, .mov (.t 50), some (47, false), false⟩, ⟨some 52, .mov (.t 5), some (51, true), false⟩, ⟨some 53, .bin .gtr (.t 52) (.c (.int .i64 0)), some (51, true), false⟩, ⟨some 54, .pick (.t 51) (.t 53) (.c (.bool false)), some (47, false), false⟩, ⟨some 55, .pick (.t 47) (.c (.bool true)) (.t 54), none, false⟩, ⟨some 56, .mov (.t 55), none, false⟩, ⟨some 57, .faddr 0 (.t 2), some (56, false), false⟩, ⟨some 58, .load false 1 (.t 57), some (56, false), false⟩, ⟨some 59, .bin .eql (.t 58) (.c (.int .i64 6)), some (56, false), false⟩, ⟨some 60, .mov (.t 59), some (56, false), false⟩, ⟨some 61, .mov (.t 5), some (60, true), false⟩, ⟨some 62, .bin .geq (.t 61) (.c (.int .i64 0)), some (60, true), false⟩, ⟨some 63, .pick (.t 60) (.t 62) (.c (.bool false)), some (56, false), false⟩, ⟨some 64, .pick (.t 56) (.c (.bool true)) (.t 63), none, false⟩, ⟨some 4, .mov (.t 64), none, false⟩] [4]) .ret)))
def x112 : XF := ⟨2, b112, [.t 4]⟩
def h112 : Yq := fun id => match id with
  | 0 => [2, 3]
  | 1 => [2, 3, 8]
  | 2 => [4]
  | 3 => [2, 5]
  | 4 => [4]
  | _ => []
theorem cv112 : cvF Tryd.prog h112 Tryd.f112 = some x112 := by kernel_rfl

/-- winnower/winnowerref06.text -/
def lp113_0 : XC := .seq (.seq (.reg [⟨some 6, .mov (.t 5), none, false⟩, ⟨some 7, .mov (.t 0), none, false⟩, ⟨some 8, .lens (.t 7), none, false⟩, ⟨some 9, .bin .lss (.t 6) (.t 8), none, false⟩, ⟨some 10, .mov (.t 9), none, false⟩, ⟨some 11, .mov (.t 5), some (10, true), false⟩, ⟨some 12, .mov (.t 1), some (10, true), false⟩, ⟨some 13, .lens (.t 12), some (10, true), false⟩, ⟨some 14, .bin .lss (.t 11) (.t 13), some (10, true), false⟩, ⟨some 15, .pick (.t 10) (.t 14) (.c (.bool false)), none, false⟩] [0, 1, 5, 15]) (.cond (.t 15) .skip (.exit 0))) (.seq (.block 1 (.seq (.seq (.reg [⟨some 18, .mov (.t 0), none, false⟩, ⟨some 19, .mov (.t 5), none, false⟩, ⟨some 20, .idxs (.t 18) (.t 19), none, false⟩, ⟨some 21, .mov (.t 1), none, false⟩, ⟨some 22, .mov (.t 5), none, false⟩, ⟨some 23, .idxs (.t 21) (.t 22), none, false⟩, ⟨some 24, .bin .lss (.t 20) (.t 23), none, false⟩] [0, 1, 5, 24]) (.cond (.t 24) (.seq (.reg [⟨some 4, .mov (.c (.int .i64 (-1))), none, false⟩] [4]) .ret) .skip)) (.seq (.reg [⟨some 25, .mov (.t 0), none, false⟩, ⟨some 26, .mov (.t 5), none, false⟩, ⟨some 27, .idxs (.t 25) (.t 26), none, false⟩, ⟨some 28, .mov (.t 1), none, false⟩, ⟨some 29, .mov (.t 5), none, false⟩, ⟨some 30, .idxs (.t 28) (.t 29), none, false⟩, ⟨some 31, .bin .gtr (.t 27) (.t 30), none, false⟩] [0, 1, 5, 31]) (.cond (.t 31) (.seq (.reg [⟨some 4, .mov (.c (.int .i64 1)), none, false⟩] [4]) .ret) .skip)))) (.reg [⟨some 16, .mov (.t 5), none, false⟩, ⟨some 17, .bin .add (.t 16) (.c (.int .i64 1)), none, false⟩, ⟨some 5, .mov (.t 17), none, false⟩] [0, 1, 5]))
def b113 : XC := .seq (.reg [⟨some 4, .mov (.c (.int .i64 0)), none, false⟩] [0, 1]) (.seq (.seq (.reg [⟨some 5, .mov (.c (.int .i64 0)), none, false⟩] [0, 1, 5]) (.block 0 (.loop lp113_0))) (.seq (.seq (.reg [⟨some 32, .mov (.t 0), none, false⟩, ⟨some 33, .lens (.t 32), none, false⟩, ⟨some 34, .mov (.t 1), none, false⟩, ⟨some 35, .lens (.t 34), none, false⟩, ⟨some 36, .bin .lss (.t 33) (.t 35), none, false⟩] [0, 1, 36]) (.cond (.t 36) (.seq (.reg [⟨some 4, .mov (.c (.int .i64 (-1))), none, false⟩] [4]) .ret) .skip)) (.seq (.seq (.reg [⟨some 37, .mov (.t 0), none, false⟩, ⟨some 38, .lens (.t 37), none, false⟩, ⟨some 39, .mov (.t 1), none, false⟩, ⟨some 40, .lens (.t 39), none, false⟩, ⟨some 41, .bin .gtr (.t 38) (.t 40), none, false⟩] [41]) (.cond (.t 41) (.seq (.reg [⟨some 4, .mov (.c (.int .i64 1)), none, false⟩] [4]) .ret) .skip)) (.seq (.reg [⟨some 4, .mov (.c (.int .i64 0)), none, false⟩] [4]) .ret))))
def x113 : XF := ⟨2, b113, [.t 4]⟩
def h113 : Yq := fun id => match id with
  | 0 => [0, 1]
  | 1 => [0, 1, 5]
  | 2 => [0, 1, 5, 15]
  | 3 => [0, 1, 5]
  | 4 => [0, 1, 5, 24]
  | 5 => [4]
  | 6 => [0, 1, 5, 31]
  | 7 => [4]
  | 8 => [0, 1, 36]
  | 9 => [4]
  | 10 => [41]
  | 11 => [4]
  | 12 => [4]
  | _ => []
theorem cv113 : cvF Tryd.prog h113 Tryd.f113 = some x113 := by kernel_rfl

/-- winnower/winnowerref02.number -/
def lp114_0 : XC := .seq (.seq (.reg [⟨some 7, .mov (.t 6), none, false⟩, ⟨some 8, .mov (.t 1), none, false⟩, ⟨some 9, .bin .lss (.t 7) (.t 8), none, false⟩] [0, 1, 5, 6, 9]) (.cond (.t 9) .skip (.exit 0))) (.seq (.block 1 (.seq (.reg [⟨some 12, .mov (.t 5), none, false⟩, ⟨some 13, .mov (.t 0), none, false⟩, ⟨some 14, .bin .rem (.t 13) (.c (.int .i64 2)), none, false⟩, ⟨some 15, .mkslice true 3 1 [.t 14], none, false⟩, ⟨some 16, .app 3 1 8 (.t 12) (.t 15), none, false⟩, ⟨some 5, .mov (.t 16), none, false⟩] [0, 1, 5, 6]) (.reg [⟨some 17, .mov (.t 0), none, false⟩, ⟨some 18, .bin .quo (.t 17) (.c (.int .i64 2)), none, false⟩, ⟨some 0, .mov (.t 18), none, false⟩] [0, 1, 5, 6]))) (.reg [⟨some 10, .mov (.t 6), none, false⟩, ⟨some 11, .bin .add (.t 10) (.c (.int .i64 1)), none, false⟩, ⟨some 6, .mov (.t 11), none, false⟩] [0, 1, 5, 6]))
def b114 : XC := .seq (.reg [⟨some 4, .mov (.c .nils), none, false⟩] [0, 1]) (.seq (.reg [⟨some 5, .mov (.c .nils), none, false⟩] [0, 1, 5]) (.seq (.seq (.reg [⟨some 6, .mov (.c (.int .i64 0)), none, false⟩] [0, 1, 5, 6]) (.block 0 (.loop lp114_0))) (.seq (.reg [⟨some 19, .mov (.t 5), none, false⟩, ⟨some 4, .mov (.t 19), none, false⟩] [4]) .ret)))
def x114 : XF := ⟨2, b114, [.t 4]⟩
def h114 : Yq := fun id => match id with
  | 0 => [0, 1]
  | 1 => [0, 1, 5]
  | 2 => [0, 1, 5, 6]
  | 3 => [0, 1, 5, 6, 9]
  | 4 => [0, 1, 5, 6]
  | 5 => [0, 1, 5, 6]
  | 6 => [0, 1, 5, 6]
  | 7 => [4]
  | _ => []
theorem cv114 : cvF Tryd.prog h114 Tryd.f114 = some x114 := by kernel_rfl

/-- winnower/bits.number$1 -/
def b115 : XC := .reg [⟨some 6, .load false 1 (.t 2), none, false⟩, ⟨some 7, .load false 1 (.t 3), none, false⟩, ⟨some 8, .mov (.t 0), none, false⟩, ⟨some 9, .bin .quo (.t 8) (.c (.int .i64 8)), none, false⟩, ⟨some 10, .iaddr 1 (.t 7) (.t 9), none, false⟩, ⟨some 11, .load false 1 (.t 10), none, false⟩, ⟨some 12, .mov (.t 0), none, false⟩, ⟨some 13, .bin .rem (.t 12) (.c (.int .i64 8)), none, false⟩, ⟨some 14, .bin .shr (.t 11) (.t 13), none, false⟩, ⟨some 15, .bin .and (.t 14) (.c (.int .u8 1)), none, false⟩, ⟨some 16, .toint .i64 (.t 15), none, false⟩, ⟨some 17, .mov (.t 1), none, false⟩, ⟨some 18, .bin .shl (.t 16) (.t 17), none, false⟩, ⟨some 19, .bin .or (.t 6) (.t 18), none, false⟩, ⟨none, .store 1 (.t 2) (.t 19), none, false⟩] []
def x115 : XF := ⟨4, b115, []⟩
def h115 : Yq := fun id => match id with
  | _ => []
theorem cv115 : cvF Tryd.prog h115 Tryd.f115 = some x115 := by kernel_rfl

/-- math/bits.Len64 -/
def b116 : XC := .seq (.reg [⟨some 2, .mov (.c (.int .i64 0)), none, false⟩] [0, 2]) (.seq (.seq (.reg [⟨some 3, .mov (.t 0), none, false⟩, ⟨some 4, .bin .geq (.t 3) (.c (.int .u64 4294967296)), none, false⟩] [0, 2, 4]) (.cond (.t 4) (.seq (.reg [⟨some 5, .mov (.t 0), none, false⟩, ⟨some 6, .bin .shr (.t 5) (.c (.int .u64 32)), none, false⟩, ⟨some 0, .mov (.t 6), none, false⟩] [0]) (.reg [⟨some 2, .mov (.c (.int .i64 32)), none, false⟩] [0, 2])) .skip)) (.seq (.seq (.reg [⟨some 7, .mov (.t 0), none, false⟩, ⟨some 8, .bin .geq (.t 7) (.c (.int .u64 65536)), none, false⟩] [0, 2, 8]) (.cond (.t 8) (.seq (.reg [⟨some 9, .mov (.t 0), none, false⟩, ⟨some 10, .bin .shr (.t 9) (.c (.int .u64 16)), none, false⟩, ⟨some 0, .mov (.t 10), none, false⟩] [0, 2]) (.reg [⟨some 11, .mov (.t 2), none, false⟩, ⟨some 12, .bin .add (.t 11) (.c (.int .i64 16)), none, false⟩, ⟨some 2, .mov (.t 12), none, false⟩] [0, 2])) .skip)) (.seq (.seq (.reg [⟨some 13, .mov (.t 0), none, false⟩, ⟨some 14, .bin .geq (.t 13) (.c (.int .u64 256)), none, false⟩] [0, 2, 14]) (.cond (.t 14) (.seq (.reg [⟨some 15, .mov (.t 0), none, false⟩, ⟨some 16, .bin .shr (.t 15) (.c (.int .u64 8)), none, false⟩, ⟨some 0, .mov (.t 16), none, false⟩] [0, 2]) (.reg [⟨some 17, .mov (.t 2), none, false⟩, ⟨some 18, .bin .add (.t 17) (.c (.int .i64 8)), none, false⟩, ⟨some 2, .mov (.t 18), none, false⟩] [0, 2])) .skip)) (.seq (.reg [⟨some 19, .mov (.t 2), none, false⟩, ⟨some 20, .mov (.t 0), none, false⟩, ⟨some 21, .toint .u8 (.t 20), none, false⟩, ⟨some 22, .idxs (.c (.str ⟨#[0, 1, 2, 2, 3, 3, 3, 3, 4, 4, 4, 4, 4, 4, 4, 4, 5, 5, 5, 5, 5, 5, 5, 5, 5, 5, 5, 5, 5, 5, 5, 5, 6, 6, 6, 6, 6, 6, 6, 6, 6, 6, 6, 6, 6, 6, 6, 6, 6, 6, 6, 6, 6, 6, 6, 6, 6, 6, 6, 6, 6, 6, 6, 6, 7, 7, 7, 7, 7, 7, 7, 7, 7, 7, 7, 7, 7, 7, 7, 7, 7, 7, 7, 7, 7, 7, 7, 7, 7, 7, 7, 7, 7, 7, 7, 7, 7, 7, 7, 7, 7, 7, 7, 7, 7, 7, 7, 7, 7, 7, 7, 7, 7, 7, 7, 7, 7, 7, 7, 7, 7, 7, 7, 7, 7, 7, 7, 7, 8, 8, 8, 8, 8, 8, 8, 8, 8, 8, 8, 8, 8, 8, 8, 8, 8, 8, 8, 8, 8, 8, 8, 8, 8, 8, 8, 8, 8, 8, 8, 8, 8, 8, 8, 8, 8, 8, 8, 8, 8, 8, 8, 8, 8, 8, 8, 8, 8, 8, 8, 8, 8, 8, 8, 8, 8, 8, 8, 8, 8, 8, 8, 8, 8, 8, 8, 8, 8, 8, 8, 8, 8, 8, 8, 8, 8, 8, 8, 8, 8, 8, 8, 8, 8, 8, 8, 8, 8, 8, 8, 8, 8, 8, 8, 8, 8, 8, 8, 8, 8, 8, 8, 8, 8, 8, 8, 8, 8, 8, 8, 8, 8, 8, 8, 8, 8, 8, 8, 8, 8, 8, 8, 8, 8, 8, 8, 8]⟩)) (.t 21), none, false⟩, ⟨some 23, .toint .i64 (.t 22), none, false⟩, ⟨some 24, .bin .add (.t 19) (.t 23), none, false⟩, ⟨some 2, .mov (.t 24), none, false⟩] [2]) .ret))))
def x116 : XF := ⟨1, b116, [.t 2]⟩
def h116 : Yq := fun id => match id with
  | 0 => [0, 2]
  | 1 => [0, 2, 4]
  | 2 => [0]
  | 3 => [0, 2]
  | 4 => [0, 2, 8]
  | 5 => [0, 2]
  | 6 => [0, 2]
  | 7 => [0, 2, 14]
  | 8 => [0, 2]
  | 9 => [0, 2]
  | 10 => [2]
  | _ => []
theorem cv116 : cvF Tryd.prog h116 Tryd.f116 = some x116 := by kernel_rfl

/-- winnower/bitset.put -/
def lp117_0 : XC := .seq (.seq (.reg [⟨some 5, .mov (.t 0), none, false⟩, ⟨some 6, .len 1 (.t 5), none, false⟩, ⟨some 7, .mov (.t 1), none, false⟩, ⟨some 8, .bin .quo (.t 7) (.c (.int .i64 64)), none, false⟩, ⟨some 9, .bin .leq (.t 6) (.t 8), none, false⟩] [0, 1, 9]) (.cond (.t 9) .skip (.exit 0))) (.block 1 (.reg [⟨some 10, .mov (.t 0), none, false⟩, ⟨some 11, .mkslice true 108 1 [.c (.int .u64 0)], none, false⟩, ⟨some 12, .app 108 1 8 (.t 10) (.t 11), none, false⟩, ⟨some 0, .mov (.t 12), none, false⟩] [0, 1]))
def b117 : XC := .seq (.reg [⟨some 4, .mov (.c .nils), none, false⟩] [0, 1]) (.seq (.block 0 (.loop lp117_0)) (.seq (.reg [⟨some 13, .mov (.t 0), none, false⟩, ⟨some 14, .mov (.t 1), none, false⟩, ⟨some 15, .bin .quo (.t 14) (.c (.int .i64 64)), none, false⟩, ⟨some 16, .iaddr 1 (.t 13) (.t 15), none, false⟩, ⟨some 17, .load false 1 (.t 16), none, false⟩, ⟨some 18, .mov (.t 1), none, false⟩, ⟨some 19, .bin .rem (.t 18) (.c (.int .i64 64)), none, false⟩, ⟨some 20, .bin .shl (.c (.int .u64 1)) (.t 19), none, false⟩, ⟨some 21, .bin .or (.t 17) (.t 20), none, false⟩, ⟨some 22, .iaddr 1 (.t 13) (.t 15), none, false⟩, ⟨none, .store 1 (.t 22) (.t 21), none, false⟩] [0]) (.seq (.reg [⟨some 23, .mov (.t 0), none, false⟩, ⟨some 4, .mov (.t 23), none, false⟩] [4]) .ret)))
def x117 : XF := ⟨2, b117, [.t 4]⟩
def h117 : Yq := fun id => match id with
  | 0 => [0, 1]
  | 1 => [0, 1, 9]
  | 2 => [0, 1]
  | 3 => [0]
  | 4 => [4]
  | _ => []
theorem cv117 : cvF Tryd.prog h117 Tryd.f117 = some x117 := by kernel_rfl

/-- cmp.Compare[int] -/
def b121 : XC := .seq (.reg [⟨some 4, .mov (.c (.int .i64 0)), none, false⟩] [0, 1]) (.seq (.reg [⟨some 7, .mov (.t 0), none, false⟩, ⟨some 8, .call (.c (.func 137 [] [])) [.t 7], none, false⟩, ⟨some 5, .mov (.t 8), none, false⟩] [0, 1, 5]) (.seq (.reg [⟨some 9, .mov (.t 1), none, false⟩, ⟨some 10, .call (.c (.func 137 [] [])) [.t 9], none, false⟩, ⟨some 6, .mov (.t 10), none, false⟩] [0, 1, 5, 6]) (.seq (.seq (.reg [⟨some 11, .mov (.t 5), none, false⟩] [0, 1, 6, 11]) (.cond (.t 11) (.seq (.seq (.reg [⟨some 12, .mov (.t 6), none, false⟩] [12]) (.cond (.t 12) (.seq (.reg [⟨some 4, .mov (.c (.int .i64 0)), none, false⟩] [4]) .ret) .skip)) (.seq (.reg [⟨some 4, .mov (.c (.int .i64 (-1))), none, false⟩] [4]) .ret)) .skip)) (.seq (.seq (.reg [⟨some 13, .mov (.t 6), none, false⟩] [0, 1, 13]) (.cond (.t 13) (.seq (.reg [⟨some 4, .mov (.c (.int .i64 1)), none, false⟩] [4]) .ret) .skip)) (.seq (.seq (.reg [⟨some 14, .mov (.t 0), none, false⟩, ⟨some 15, .mov (.t 1), none, false⟩, ⟨some 16, .bin .lss (.t 14) (.t 15), none, false⟩] [0, 1, 16]) (.cond (.t 16) (.seq (.reg [⟨some 4, .mov (.c (.int .i64 (-1))), none, false⟩] [4]) .ret) .skip)) (.seq (.seq (.reg [⟨some 17, .mov (.t 0), none, false⟩, ⟨some 18, .mov (.t 1), none, false⟩, ⟨some 19, .bin .gtr (.t 17) (.t 18), none, false⟩] [19]) (.cond (.t 19) (.seq (.reg [⟨some 4, .mov (.c (.int .i64 1)), none, false⟩] [4]) .ret) .skip)) (.seq (.reg [⟨some 4, .mov (.c (.int .i64 0)), none, false⟩] [4]) .ret)))))))
def x121 : XF := ⟨2, b121, [.t 4]⟩
def h121 : Yq := fun id => match id with
  | 0 => [0, 1]
  | 1 => [0, 1, 5]
  | 2 => [0, 1, 5, 6]
  | 3 => [0, 1, 6, 11]
  | 4 => [12]
  | 5 => [4]
  | 6 => [4]
  | 7 => [0, 1, 13]
  | 8 => [4]
  | 9 => [0, 1, 16]
  | 10 => [4]
  | 11 => [19]
  | 12 => [4]
  | 13 => [4]
  | _ => []
theorem cv121 : cvF Tryd.prog h121 Tryd.f121 = some x121 := by kernel_rfl

/-- cmp.Compare[string] -/
def b122 : XC := .seq (.reg [⟨some 4, .mov (.c (.int .i64 0)), none, false⟩] [0, 1]) (.seq (.reg [⟨some 7, .mov (.t 0), none, false⟩, ⟨some 8, .call (.c (.func 138 [] [])) [.t 7], none, false⟩, ⟨some 5, .mov (.t 8), none, false⟩] [0, 1, 5]) (.seq (.reg [⟨some 9, .mov (.t 1), none, false⟩, ⟨some 10, .call (.c (.func 138 [] [])) [.t 9], none, false⟩, ⟨some 6, .mov (.t 10), none, false⟩] [0, 1, 5, 6]) (.seq (.seq (.reg [⟨some 11, .mov (.t 5), none, false⟩] [0, 1, 6, 11]) (.cond (.t 11) (.seq (.seq (.reg [⟨some 12, .mov (.t 6), none, false⟩] [12]) (.cond (.t 12) (.seq (.reg [⟨some 4, .mov (.c (.int .i64 0)), none, false⟩] [4]) .ret) .skip)) (.seq (.reg [⟨some 4, .mov (.c (.int .i64 (-1))), none, false⟩] [4]) .ret)) .skip)) (.seq (.seq (.reg [⟨some 13, .mov (.t 6), none, false⟩] [0, 1, 13]) (.cond (.t 13) (.seq (.reg [⟨some 4, .mov (.c (.int .i64 1)), none, false⟩] [4]) .ret) .skip)) (.seq (.seq (.reg [⟨some 14, .mov (.t 0), none, false⟩, ⟨some 15, .mov (.t 1), none, false⟩, ⟨some 16, .bin .lss (.t 14) (.t 15), none, false⟩] [0, 1, 16]) (.cond (.t 16) (.seq (.reg [⟨some 4, .mov (.c (.int .i64 (-1))), none, false⟩] [4]) .ret) .skip)) (.seq (.seq (.reg [⟨some 17, .mov (.t 0), none, false⟩, ⟨some 18, .mov (.t 1), none, false⟩, ⟨some 19, .bin .gtr (.t 17) (.t 18), none, false⟩] [19]) (.cond (.t 19) (.seq (.reg [⟨some 4, .mov (.c (.int .i64 1)), none, false⟩] [4]) .ret) .skip)) (.seq (.reg [⟨some 4, .mov (.c (.int .i64 0)), none, false⟩] [4]) .ret)))))))
def x122 : XF := ⟨2, b122, [.t 4]⟩
def h122 : Yq := fun id => match id with
  | 0 => [0, 1]
  | 1 => [0, 1, 5]
  | 2 => [0, 1, 5, 6]
  | 3 => [0, 1, 6, 11]
  | 4 => [12]
  | 5 => [4]
  | 6 => [4]
  | 7 => [0, 1, 13]
  | 8 => [4]
  | 9 => [0, 1, 16]
  | 10 => [4]
  | 11 => [19]
  | 12 => [4]
  | 13 => [4]
  | _ => []
theorem cv122 : cvF Tryd.prog h122 Tryd.f122 = some x122 := by kernel_rfl

/-- winnower/dict.first[winnower/api.Value] -/
def lp123_0 : XC := .seq (.seq (.reg [⟨some 10, .mov (.t 5), none, false⟩, ⟨some 11, .mov (.t 6), none, false⟩, ⟨some 12, .bin .lss (.t 10) (.t 11), none, false⟩] [0, 1, 5, 6, 12]) (.cond (.t 12) .skip (.exit 0))) (.block 1 (.seq (.reg [⟨some 13, .mov (.t 5), none, false⟩, ⟨some 14, .mov (.t 6), none, false⟩, ⟨some 15, .bin .add (.t 13) (.t 14), none, false⟩, ⟨some 16, .bin .quo (.t 15) (.c (.int .i64 2)), none, false⟩, ⟨some 7, .mov (.t 16), none, false⟩] [0, 1, 5, 6, 7]) (.seq (.reg [⟨some 17, .mov (.t 1), none, false⟩, ⟨some 18, .mov (.t 0), none, false⟩, ⟨some 19, .mov (.t 7), none, false⟩, ⟨some 20, .iaddr 4 (.t 18) (.t 19), none, false⟩, ⟨some 21, .load true 4 (.t 20), none, false⟩, ⟨some 22, .call (.t 17) [.t 21], none, false⟩] [0, 1, 5, 6, 7, 22]) (.cond (.t 22) (.reg [⟨some 23, .mov (.t 7), none, false⟩, ⟨some 6, .mov (.t 23), none, false⟩] [0, 1, 5, 6]) (.reg [⟨some 24, .mov (.t 7), none, false⟩, ⟨some 25, .bin .add (.t 24) (.c (.int .i64 1)), none, false⟩, ⟨some 5, .mov (.t 25), none, false⟩] [0, 1, 5, 6])))))
def b123 : XC := .seq (.reg [⟨some 4, .mov (.c (.int .i64 0)), none, false⟩] [0, 1]) (.seq (.reg [⟨some 8, .mov (.t 0), none, false⟩, ⟨some 9, .len 4 (.t 8), none, false⟩, ⟨some 5, .mov (.c (.int .i64 0)), none, false⟩, ⟨some 6, .mov (.t 9), none, false⟩] [0, 1, 5, 6]) (.seq (.block 0 (.loop lp123_0)) (.seq (.reg [⟨some 26, .mov (.t 5), none, false⟩, ⟨some 4, .mov (.t 26), none, false⟩] [4]) .ret)))
def x123 : XF := ⟨2, b123, [.t 4]⟩
def h123 : Yq := fun id => match id with
  | 0 => [0, 1]
  | 1 => [0, 1, 5, 6]
  | 2 => [0, 1, 5, 6, 12]
  | 3 => [0, 1, 5, 6, 7]
  | 4 => [0, 1, 5, 6, 7, 22]
  | 5 => [0, 1, 5, 6]
  | 6 => [0, 1, 5, 6]
  | 7 => [4]
  | _ => []
theorem cv123 : cvF Tryd.prog h123 Tryd.f123 = some x123 := by kernel_rfl

/-- winnower/dict.search$1 -/
def b124 : XC := .seq (.reg [⟨some 2, .box 48 (.t 0), none, false⟩, ⟨some 3, .mov (.c (.bool false)), none, false⟩] [1, 2]) (.seq (.reg [⟨some 4, .load true 4 (.t 2), none, false⟩, ⟨some 5, .load true 4 (.t 1), none, false⟩, ⟨some 6, .call (.c (.func 97 [] [])) [.t 4, .t 5], none, false⟩, ⟨some 7, .bin .geq (.t 6) (.c (.int .i64 0)), none, false⟩, ⟨some 3, .mov (.t 7), none, false⟩] [3]) .ret)
def x124 : XF := ⟨2, b124, [.t 3]⟩
def h124 : Yq := fun id => match id with
  | 0 => [1, 2]
  | 1 => [3]
  | _ => []
theorem cv124 : cvF Tryd.prog h124 Tryd.f124 = some x124 := by kernel_rfl

/-- cmp.isNaN[int] -/
def b137 : XC := .seq (.reg [⟨some 2, .mov (.c (.bool false)), none, false⟩] [0]) (.seq (.reg [⟨some 3, .mov (.t 0), none, false⟩, ⟨some 4, .mov (.t 0), none, false⟩, ⟨some 5, .bin .neq (.t 3) (.t 4), none, false⟩, ⟨some 2, .mov (.t 5), none, false⟩] [2]) .ret)
def x137 : XF := ⟨1, b137, [.t 2]⟩
def h137 : Yq := fun id => match id with
  | 0 => [0]
  | 1 => [2]
  | _ => []
theorem cv137 : cvF Tryd.prog h137 Tryd.f137 = some x137 := by kernel_rfl

/-- cmp.isNaN[string] -/
def b138 : XC := .seq (.reg [⟨some 2, .mov (.c (.bool false)), none, false⟩] [0]) (.seq (.reg [⟨some 3, .mov (.t 0), none, false⟩, ⟨some 4, .mov (.t 0), none, false⟩, ⟨some 5, .bin .neq (.t 3) (.t 4), none, false⟩, ⟨some 2, .mov (.t 5), none, false⟩] [2]) .ret)
def x138 : XF := ⟨1, b138, [.t 2]⟩
def h138 : Yq := fun id => match id with
  | 0 => [0]
  | 1 => [2]
  | _ => []
theorem cv138 : cvF Tryd.prog h138 Tryd.f138 = some x138 := by kernel_rfl

def X : Nat → Option XK := fun f => match f with
  | 10 => some (.ext gList)
  | 3 => some (.fn x3)
  | 6 => some (.fn x6)
  | 7 => some (.fn x7)
  | 8 => some (.fn x8)
  | 9 => some (.fn x9)
  | 11 => some (.fn x11)
  | 12 => some (.fn x12)
  | 14 => some (.fn x14)
  | 15 => some (.fn x15)
  | 16 => some (.fn x16)
  | 18 => some (.fn x18)
  | 20 => some (.fn x20)
  | 25 => some (.fn x25)
  | 31 => some (.fn x31)
  | 32 => some (.fn x32)
  | 33 => some (.fn x33)
  | 35 => some (.fn x35)
  | 36 => some (.fn x36)
  | 37 => some (.fn x37)
  | 38 => some (.fn x38)
  | 39 => some (.fn x39)
  | 40 => some (.fn x40)
  | 42 => some (.fn x42)
  | 43 => some (.fn x43)
  | 44 => some (.fn x44)
  | 45 => some (.fn x45)
  | 47 => some (.fn x47)
  | 48 => some (.fn x48)
  | 49 => some (.fn x49)
  | 61 => some (.fn x61)
  | 62 => some (.fn x62)
  | 65 => some (.fn x65)
  | 66 => some (.fn x66)
  | 67 => some (.fn x67)
  | 68 => some (.fn x68)
  | 69 => some (.fn x69)
  | 70 => some (.fn x70)
  | 71 => some (.fn x71)
  | 72 => some (.fn x72)
  | 73 => some (.fn x73)
  | 74 => some (.fn x74)
  | 75 => some (.fn x75)
  | 76 => some (.fn x76)
  | 77 => some (.fn x77)
  | 78 => some (.fn x78)
  | 79 => some (.fn x79)
  | 80 => some (.fn x80)
  | 81 => some (.fn x81)
  | 82 => some (.fn x82)
  | 83 => some (.fn x83)
  | 84 => some (.fn x84)
  | 85 => some (.fn x85)
  | 86 => some (.fn x86)
  | 87 => some (.fn x87)
  | 90 => some (.fn x90)
  | 97 => some (.fn x97)
  | 98 => some (.fn x98)
  | 99 => some (.fn x99)
  | 100 => some (.fn x100)
  | 104 => some (.fn x104)
  | 105 => some (.fn x105)
  | 106 => some (.fn x106)
  | 107 => some (.fn x107)
  | 108 => some (.fn x108)
  | 109 => some (.fn x109)
  | 110 => some (.fn x110)
  | 111 => some (.fn x111)
  | 112 => some (.fn x112)
  | 113 => some (.fn x113)
  | 114 => some (.fn x114)
  | 115 => some (.fn x115)
  | 116 => some (.fn x116)
  | 117 => some (.fn x117)
  | 121 => some (.fn x121)
  | 122 => some (.fn x122)
  | 123 => some (.fn x123)
  | 124 => some (.fn x124)
  | 137 => some (.fn x137)
  | 138 => some (.fn x138)
  | _ => none
def hints : Nat → Yq := fun f => match f with
  | 3 => h3
  | 6 => h6
  | 7 => h7
  | 8 => h8
  | 9 => h9
  | 11 => h11
  | 12 => h12
  | 14 => h14
  | 15 => h15
  | 16 => h16
  | 18 => h18
  | 20 => h20
  | 25 => h25
  | 31 => h31
  | 32 => h32
  | 33 => h33
  | 35 => h35
  | 36 => h36
  | 37 => h37
  | 38 => h38
  | 39 => h39
  | 40 => h40
  | 42 => h42
  | 43 => h43
  | 44 => h44
  | 45 => h45
  | 47 => h47
  | 48 => h48
  | 49 => h49
  | 61 => h61
  | 62 => h62
  | 65 => h65
  | 66 => h66
  | 67 => h67
  | 68 => h68
  | 69 => h69
  | 70 => h70
  | 71 => h71
  | 72 => h72
  | 73 => h73
  | 74 => h74
  | 75 => h75
  | 76 => h76
  | 77 => h77
  | 78 => h78
  | 79 => h79
  | 80 => h80
  | 81 => h81
  | 82 => h82
  | 83 => h83
  | 84 => h84
  | 85 => h85
  | 86 => h86
  | 87 => h87
  | 90 => h90
  | 97 => h97
  | 98 => h98
  | 99 => h99
  | 100 => h100
  | 104 => h104
  | 105 => h105
  | 106 => h106
  | 107 => h107
  | 108 => h108
  | 109 => h109
  | 110 => h110
  | 111 => h111
  | 112 => h112
  | 113 => h113
  | 114 => h114
  | 115 => h115
  | 116 => h116
  | 117 => h117
  | 121 => h121
  | 122 => h122
  | 123 => h123
  | 124 => h124
  | 137 => h137
  | 138 => h138
  | _ => fun _ => []
theorem sound : Sound Tryd.prog X hints where
  mixed := by kernel_rfl
  ext f g h := by unfold X at h; split at h <;> first | (injection h with h; injection h with h; subst h; exact listOk) | cases h
  fn f x h := by
    unfold X at h
    split at h
    · cases h
    · injection h with h; injection h with h; subst h; exact ⟨Tryd.f3, by kernel_rfl, cv3⟩
    · injection h with h; injection h with h; subst h; exact ⟨Tryd.f6, by kernel_rfl, cv6⟩
    · injection h with h; injection h with h; subst h; exact ⟨Tryd.f7, by kernel_rfl, cv7⟩
    · injection h with h; injection h with h; subst h; exact ⟨Tryd.f8, by kernel_rfl, cv8⟩
    · injection h with h; injection h with h; subst h; exact ⟨Tryd.f9, by kernel_rfl, cv9⟩
    · injection h with h; injection h with h; subst h; exact ⟨Tryd.f11, by kernel_rfl, cv11⟩
    · injection h with h; injection h with h; subst h; exact ⟨Tryd.f12, by kernel_rfl, cv12⟩
    · injection h with h; injection h with h; subst h; exact ⟨Tryd.f14, by kernel_rfl, cv14⟩
    · injection h with h; injection h with h; subst h; exact ⟨Tryd.f15, by kernel_rfl, cv15⟩
    · injection h with h; injection h with h; subst h; exact ⟨Tryd.f16, by kernel_rfl, cv16⟩
    · injection h with h; injection h with h; subst h; exact ⟨Tryd.f18, by kernel_rfl, cv18⟩
    · injection h with h; injection h with h; subst h; exact ⟨Tryd.f20, by kernel_rfl, cv20⟩
    · injection h with h; injection h with h; subst h; exact ⟨Tryd.f25, by kernel_rfl, cv25⟩
    · injection h with h; injection h with h; subst h; exact ⟨Tryd.f31, by kernel_rfl, cv31⟩
    · injection h with h; injection h with h; subst h; exact ⟨Tryd.f32, by kernel_rfl, cv32⟩
    · injection h with h; injection h with h; subst h; exact ⟨Tryd.f33, by kernel_rfl, cv33⟩
    · injection h with h; injection h with h; subst h; exact ⟨Tryd.f35, by kernel_rfl, cv35⟩
    · injection h with h; injection h with h; subst h; exact ⟨Tryd.f36, by kernel_rfl, cv36⟩
    · injection h with h; injection h with h; subst h; exact ⟨Tryd.f37, by kernel_rfl, cv37⟩
    · injection h with h; injection h with h; subst h; exact ⟨Tryd.f38, by kernel_rfl, cv38⟩
    · injection h with h; injection h with h; subst h; exact ⟨Tryd.f39, by kernel_rfl, cv39⟩
    · injection h with h; injection h with h; subst h; exact ⟨Tryd.f40, by kernel_rfl, cv40⟩
    · injection h with h; injection h with h; subst h; exact ⟨Tryd.f42, by kernel_rfl, cv42⟩
    · injection h with h; injection h with h; subst h; exact ⟨Tryd.f43, by kernel_rfl, cv43⟩
    · injection h with h; injection h with h; subst h; exact ⟨Tryd.f44, by kernel_rfl, cv44⟩
    · injection h with h; injection h with h; subst h; exact ⟨Tryd.f45, by kernel_rfl, cv45⟩
    · injection h with h; injection h with h; subst h; exact ⟨Tryd.f47, by kernel_rfl, cv47⟩
    · injection h with h; injection h with h; subst h; exact ⟨Tryd.f48, by kernel_rfl, cv48⟩
    · injection h with h; injection h with h; subst h; exact ⟨Tryd.f49, by kernel_rfl, cv49⟩
    · injection h with h; injection h with h; subst h; exact ⟨Tryd.f61, by kernel_rfl, cv61⟩
    · injection h with h; injection h with h; subst h; exact ⟨Tryd.f62, by kernel_rfl, cv62⟩
    · injection h with h; injection h with h; subst h; exact ⟨Tryd.f65, by kernel_rfl, cv65⟩
    · injection h with h; injection h with h; subst h; exact ⟨Tryd.f66, by kernel_rfl, cv66⟩
    · injection h with h; injection h with h; subst h; exact ⟨Tryd.f67, by kernel_rfl, cv67⟩
    · injection h with h; injection h with h; subst h; exact ⟨Tryd.f68, by kernel_rfl, cv68⟩
    · injection h with h; injection h with h; subst h; exact ⟨Tryd.f69, by kernel_rfl, cv69⟩
    · injection h with h; injection h with h; subst h; exact ⟨Tryd.f70, by kernel_rfl, cv70⟩
    · injection h with h; injection h with h; subst h; exact ⟨Tryd.f71, by kernel_rfl, cv71⟩
    · injection h with h; injection h with h; subst h; exact ⟨Tryd.f72, by kernel_rfl, cv72⟩
    · injection h with h; injection h with h; subst h; exact ⟨Tryd.f73, by kernel_rfl, cv73⟩
    · injection h with h; injection h with h; subst h; exact ⟨Tryd.f74, by kernel_rfl, cv74⟩
    · injection h with h; injection h with h; subst h; exact ⟨Tryd.f75, by kernel_rfl, cv75⟩
    · injection h with h; injection h with h; subst h; exact ⟨Tryd.f76, by kernel_rfl, cv76⟩
    · injection h with h; injection h with h; subst h; exact ⟨Tryd.f77, by kernel_rfl, cv77⟩
    · injection h with h; injection h with h; subst h; exact ⟨Tryd.f78, by kernel_rfl, cv78⟩
    · injection h with h; injection h with h; subst h; exact ⟨Tryd.f79, by kernel_rfl, cv79⟩
    · injection h with h; injection h with h; subst h; exact ⟨Tryd.f80, by kernel_rfl, cv80⟩
    · injection h with h; injection h with h; subst h; exact ⟨Tryd.f81, by kernel_rfl, cv81⟩
    · injection h with h; injection h with h; subst h; exact ⟨Tryd.f82, by kernel_rfl, cv82⟩
    · injection h with h; injection h with h; subst h; exact ⟨Tryd.f83, by kernel_rfl, cv83⟩
    · injection h with h; injection h with h; subst h; exact ⟨Tryd.f84, by kernel_rfl, cv84⟩
    · injection h with h; injection h with h; subst h; exact ⟨Tryd.f85, by kernel_rfl, cv85⟩
    · injection h with h; injection h with h; subst h; exact ⟨Tryd.f86, by kernel_rfl, cv86⟩
    · injection h with h; injection h with h; subst h; exact ⟨Tryd.f87, by kernel_rfl, cv87⟩
    · injection h with h; injection h with h; subst h; exact ⟨Tryd.f90, by kernel_rfl, cv90⟩
    · injection h with h; injection h with h; subst h; exact ⟨Tryd.f97, by kernel_rfl, cv97⟩
    · injection h with h; injection h with h; subst h; exact ⟨Tryd.f98, by kernel_rfl, cv98⟩
    · injection h with h; injection h with h; subst h; exact ⟨Tryd.f99, by kernel_rfl, cv99⟩
    · injection h with h; injection h with h; subst h; exact ⟨Tryd.f100, by kernel_rfl, cv100⟩
    · injection h with h; injection h with h; subst h; exact ⟨Tryd.f104, by kernel_rfl, cv104⟩
    · injection h with h; injection h with h; subst h; exact ⟨Tryd.f105, by kernel_rfl, cv105⟩
    · injection h with h; injection h with h; subst h; exact ⟨Tryd.f106, by kernel_rfl, cv106⟩
    · injection h with h; injection h with h; subst h; exact ⟨Tryd.f107, by kernel_rfl, cv107⟩
    · injection h with h; injection h with h; subst h; exact ⟨Tryd.f108, by kernel_rfl, cv108⟩
    · injection h with h; injection h with h; subst h; exact ⟨Tryd.f109, by kernel_rfl, cv109⟩
    · injection h with h; injection h with h; subst h; exact ⟨Tryd.f110, by kernel_rfl, cv110⟩
    · injection h with h; injection h with h; subst h; exact ⟨Tryd.f111, by kernel_rfl, cv111⟩
    · injection h with h; injection h with h; subst h; exact ⟨Tryd.f112, by kernel_rfl, cv112⟩
    · injection h with h; injection h with h; subst h; exact ⟨Tryd.f113, by kernel_rfl, cv113⟩
    · injection h with h; injection h with h; subst h; exact ⟨Tryd.f114, by kernel_rfl, cv114⟩
    · injection h with h; injection h with h; subst h; exact ⟨Tryd.f115, by kernel_rfl, cv115⟩
    · injection h with h; injection h with h; subst h; exact ⟨Tryd.f116, by kernel_rfl, cv116⟩
    · injection h with h; injection h with h; subst h; exact ⟨Tryd.f117, by kernel_rfl, cv117⟩
    · injection h with h; injection h with h; subst h; exact ⟨Tryd.f121, by kernel_rfl, cv121⟩
    · injection h with h; injection h with h; subst h; exact ⟨Tryd.f122, by kernel_rfl, cv122⟩
    · injection h with h; injection h with h; subst h; exact ⟨Tryd.f123, by kernel_rfl, cv123⟩
    · injection h with h; injection h with h; subst h; exact ⟨Tryd.f124, by kernel_rfl, cv124⟩
    · injection h with h; injection h with h; subst h; exact ⟨Tryd.f137, by kernel_rfl, cv137⟩
    · injection h with h; injection h with h; subst h; exact ⟨Tryd.f138, by kernel_rfl, cv138⟩
    · cases h
end Go.Proofs.YtojhkbbnkhfnhaaDoor
