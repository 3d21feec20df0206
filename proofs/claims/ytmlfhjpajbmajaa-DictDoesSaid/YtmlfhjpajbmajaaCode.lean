/- The program's functions, for the ideal machine. MADE BY gen.py. -/
import Derived.Test.YtmlfhjpajbmajaaChecked
import Derived.Test.YtmlfhjpajbmajaaEngW
namespace Go.Proofs.Ytmlfhjpajbmajaa
set_option maxRecDepth 100000

/-- winnower/winnowerlaw08.DictDoes -/
def b3 : XC := .seq (.reg [⟨some 6, .box 24 (.t 2), none, false⟩, ⟨some 8, .mov (.c (.bool false)), none, false⟩] [0, 1, 3, 6]) (.seq (.reg [⟨some 32, .call (.c (.func 9 [] [])) [], none, false⟩, ⟨some 9, .mov (.t 32), none, false⟩] [0, 1, 3, 6, 9]) (.seq (.reg [⟨some 33, .mov (.t 1), none, false⟩, ⟨some 34, .call (.c (.func 10 [] [])) [.t 33], none, false⟩, ⟨some 10, .mov (.t 34), none, false⟩] [0, 1, 3, 6, 9, 10]) (.seq (.reg [⟨some 35, .load true 4 (.t 6), none, false⟩, ⟨some 36, .mkslice true 24 4 [.t 35], none, false⟩, ⟨some 37, .call (.c (.func 10 [] [])) [.t 36], none, false⟩, ⟨some 11, .mov (.t 37), none, false⟩] [0, 1, 3, 6, 9, 10, 11]) (.seq (.seq (.reg [⟨some 38, .mov (.t 9), none, false⟩, ⟨some 39, .un .not (.t 38), none, false⟩, ⟨some 40, .mov (.t 39), none, false⟩, ⟨some 41, .mov (.t 10), some (40, false), false⟩, ⟨some 42, .un .not (.t 41), some (40, false), false⟩, ⟨some 43, .pick (.t 40) (.c (.bool true)) (.t 42), none, false⟩, ⟨some 44, .mov (.t 43), none, false⟩, ⟨some 45, .mov (.t 11), some (44, false), false⟩, ⟨some 46, .un .not (.t 45), some (44, false), false⟩, ⟨some 47, .pick (.t 44) (.c (.bool true)) (.t 46), none, false⟩] [0, 1, 3, 6, 9, 47]) (.cond (.t 47) (.seq (.reg [⟨some 48, .mov (.t 9), none, false⟩, ⟨some 8, .mov (.t 48), none, false⟩] [8]) .ret) .skip)) (.seq (.reg [⟨some 49, .mov (.t 0), none, false⟩, ⟨some 50, .call (.c (.func 11 [] [])) [.t 49], none, false⟩, ⟨some 12, .mov (.t 50), none, false⟩] [0, 1, 3, 6, 12]) (.seq (.reg [⟨some 13, .mov (.c .nils), none, false⟩] [0, 1, 3, 6, 12, 13]) (.seq (.seq (.reg [⟨some 14, .mov (.c (.int .i64 0)), none, false⟩] [0, 1, 3, 6, 12, 13, 14]) (.block 0 (.loop (.seq (.seq (.reg [⟨some 51, .mov (.t 14), none, false⟩, ⟨some 52, .mov (.t 1), none, false⟩, ⟨some 53, .len 4 (.t 52), none, false⟩, ⟨some 54, .bin .lss (.t 51) (.t 53), none, false⟩] [0, 1, 3, 6, 12, 13, 14, 54]) (.cond (.t 54) .skip (.exit 0))) (.seq (.block 1 (.seq (.reg [⟨some 58, .mov (.t 12), none, false⟩, ⟨some 59, .mov (.t 1), none, false⟩, ⟨some 60, .mov (.t 14), none, false⟩, ⟨some 61, .iaddr 4 (.t 59) (.t 60), none, false⟩, ⟨some 62, .load true 4 (.t 61), none, false⟩, ⟨some 63, .call (.c (.func 12 [] [])) [.t 58, .t 62], none, false⟩, ⟨some 57, .mov (.t 63), none, false⟩, ⟨some 64, .ext (.t 57) 0, none, false⟩, ⟨some 65, .ext (.t 57) 1, none, false⟩, ⟨some 15, .mov (.t 64), none, false⟩, ⟨some 16, .mov (.t 65), none, false⟩] [0, 1, 3, 6, 12, 13, 14, 15, 16]) (.seq (.reg [⟨some 67, .mov (.t 13), none, false⟩, ⟨some 68, .mov (.t 0), none, false⟩, ⟨some 69, .mov (.t 1), none, false⟩, ⟨some 70, .mov (.t 14), none, false⟩, ⟨some 71, .iaddr 4 (.t 69) (.t 70), none, false⟩, ⟨some 72, .load true 4 (.t 71), none, false⟩, ⟨some 73, .call (.c (.func 13 [] [])) [.t 67, .t 68, .t 72], none, false⟩, ⟨some 66, .mov (.t 73), none, false⟩, ⟨some 74, .ext (.t 66) 0, none, false⟩, ⟨some 75, .ext (.t 66) 1, none, false⟩, ⟨some 76, .ext (.t 66) 2, none, false⟩, ⟨some 17, .mov (.t 74), none, false⟩, ⟨some 18, .mov (.t 75), none, false⟩, ⟨some 19, .mov (.t 76), none, false⟩] [0, 1, 3, 6, 12, 14, 15, 16, 17, 18, 19]) (.seq (.reg [⟨some 77, .mov (.t 17), none, false⟩, ⟨some 13, .mov (.t 77), none, false⟩] [0, 1, 3, 6, 12, 13, 14, 15, 16, 18, 19]) (.seq (.reg [⟨some 78, .mov (.t 15), none, false⟩, ⟨some 79, .mov (.t 18), none, false⟩, ⟨some 80, .bin .neq (.t 78) (.t 79), none, false⟩, ⟨some 81, .mov (.t 80), none, false⟩, ⟨some 82, .mov (.t 16), some (81, false), false⟩, ⟨some 83, .mov (.t 19), some (81, false), false⟩, ⟨some 84, .bin .neq (.t 82) (.t 83), some (81, false), false⟩, ⟨some 85, .pick (.t 81) (.c (.bool true)) (.t 84), none, false⟩, ⟨some 86, .mov (.t 85), none, false⟩, ⟨some 87, .mov (.t 12), some (86, false), false⟩, ⟨some 88, .call (.c (.func 14 [] [])) [.t 87], some (86, false), false⟩, ⟨some 89, .mov (.t 13), some (86, false), false⟩, ⟨some 90, .len 4 (.t 89), some (86, false), false⟩, ⟨some 91, .bin .neq (.t 88) (.t 90), some (86, false), false⟩, ⟨some 92, .pick (.t 86) (.c (.bool true)) (.t 91), none, false⟩] [0, 1, 3, 6, 12, 13, 14, 92]) (.cond (.t 92) (.seq (.reg [⟨some 8, .mov (.c (.bool false)), none, false⟩] [8]) .ret) .skip)))))) (.reg [⟨some 55, .mov (.t 14), none, false⟩, ⟨some 56, .bin .add (.t 55) (.c (.int .i64 1)), none, false⟩, ⟨some 14, .mov (.t 56), none, false⟩] [0, 1, 3, 6, 12, 13, 14])))))) (.seq (.reg [⟨some 94, .mov (.t 12), none, false⟩, ⟨some 95, .load true 4 (.t 6), none, false⟩, ⟨some 96, .call (.c (.func 15 [] [])) [.t 94, .t 95], none, false⟩, ⟨some 93, .mov (.t 96), none, false⟩, ⟨some 97, .ext (.t 93) 0, none, false⟩, ⟨some 98, .ext (.t 93) 1, none, false⟩, ⟨some 20, .mov (.t 97), none, false⟩, ⟨some 21, .mov (.t 98), none, false⟩] [3, 6, 12, 13, 20, 21]) (.seq (.reg [⟨some 99, .mov (.t 13), none, false⟩, ⟨some 100, .load true 4 (.t 6), none, false⟩, ⟨some 101, .call (.c (.func 16 [] [])) [.t 99, .t 100], none, false⟩, ⟨some 22, .mov (.t 101), none, false⟩] [3, 12, 13, 20, 21, 22]) (.seq (.seq (.reg [⟨some 102, .mov (.t 21), none, false⟩, ⟨some 103, .mov (.t 22), none, false⟩, ⟨some 104, .bin .geq (.t 103) (.c (.int .i64 0)), none, false⟩, ⟨some 105, .eqk 0 true (.t 102) (.t 104), none, false⟩, ⟨some 106, .mov (.t 105), none, false⟩, ⟨some 107, .mov (.t 21), some (106, false), false⟩, ⟨some 108, .mov (.t 107), some (106, false), false⟩, ⟨some 109, .mov (.t 20), some (108, true), false⟩, ⟨some 110, .mov (.t 22), some (108, true), false⟩, ⟨some 111, .bin .neq (.t 109) (.t 110), some (108, true), false⟩, ⟨some 112, .pick (.t 108) (.t 111) (.c (.bool false)), some (106, false), false⟩, ⟨some 113, .pick (.t 106) (.c (.bool true)) (.t 112), none, false⟩, ⟨some 114, .mov (.t 113), none, false⟩, ⟨some 115, .mov (.t 21), some (114, false), false⟩, ⟨some 116, .un .not (.t 115), some (114, false), false⟩, ⟨some 117, .mov (.t 116), some (114, false), false⟩, ⟨some 118, .mov (.t 20), some (117, true), false⟩, ⟨some 119, .bin .neq (.t 118) (.c (.int .i64 0)), some (117, true), false⟩, ⟨some 120, .pick (.t 117) (.t 119) (.c (.bool false)), some (114, false), false⟩, ⟨some 121, .pick (.t 114) (.c (.bool true)) (.t 120), none, false⟩] [3, 12, 13, 121]) (.cond (.t 121) (.seq (.reg [⟨some 8, .mov (.c (.bool false)), none, false⟩] [8]) .ret) .skip)) (.seq (.reg [⟨some 123, .mov (.t 12), none, false⟩, ⟨some 124, .mov (.t 3), none, false⟩, ⟨some 125, .call (.c (.func 17 [] [])) [.t 123, .t 124], none, false⟩, ⟨some 122, .mov (.t 125), none, false⟩, ⟨some 126, .ext (.t 122) 0, none, false⟩, ⟨some 127, .ext (.t 122) 1, none, false⟩, ⟨some 23, .alloc 24 [.int .i64 0, .int .i64 0, .str ⟨#[]⟩, .bool false], none, false⟩, ⟨none, .store 4 (.t 23) (.t 126), none, false⟩, ⟨some 24, .mov (.t 127), none, false⟩] [3, 12, 13, 23, 24]) (.seq (.reg [⟨some 128, .mov (.t 3), none, false⟩, ⟨some 129, .bin .geq (.t 128) (.c (.int .i64 0)), none, false⟩, ⟨some 130, .mov (.t 129), none, false⟩, ⟨some 131, .mov (.t 3), some (130, true), false⟩, ⟨some 132, .mov (.t 13), some (130, true), false⟩, ⟨some 133, .len 4 (.t 132), some (130, true), false⟩, ⟨some 134, .bin .lss (.t 131) (.t 133), some (130, true), false⟩, ⟨some 135, .pick (.t 130) (.t 134) (.c (.bool false)), none, false⟩, ⟨some 25, .mov (.t 135), none, false⟩] [3, 12, 13, 23, 24, 25]) (.seq (.seq (.reg [⟨some 136, .mov (.t 24), none, false⟩, ⟨some 137, .mov (.t 25), none, false⟩, ⟨some 138, .eqk 0 true (.t 136) (.t 137), none, false⟩, ⟨some 139, .mov (.t 138), none, false⟩, ⟨some 140, .mov (.t 25), some (139, false), false⟩, ⟨some 141, .mov (.t 140), some (139, false), false⟩, ⟨some 142, .load true 4 (.t 23), some (141, true), false⟩, ⟨some 143, .mov (.t 13), some (141, true), false⟩, ⟨some 144, .mov (.t 3), some (141, true), false⟩, ⟨some 145, .iaddr 4 (.t 143) (.t 144), some (141, true), false⟩, ⟨some 146, .load true 4 (.t 145), some (141, true), false⟩, ⟨some 147, .eqa [1, 1, 2, 0] true (.t 142) (.t 146), some (141, true), false⟩, ⟨some 148, .pick (.t 141) (.t 147) (.c (.bool false)), some (139, false), false⟩, ⟨some 149, .pick (.t 139) (.c (.bool true)) (.t 148), none, false⟩, ⟨some 150, .mov (.t 149), none, false⟩, ⟨some 151, .mov (.t 25), some (150, false), false⟩, ⟨some 152, .un .not (.t 151), some (150, false), false⟩, ⟨some 153, .mov (.t 152), some (150, false), false⟩, ⟨some 154, .load true 4 (.t 23), some (153, true), false⟩, ⟨some 155, .build [.int .i64 0, .int .i64 0, .str ⟨#[]⟩, .bool false] [], some (153, true), false⟩, ⟨some 156, .eqa [1, 1, 2, 0] true (.t 154) (.t 155), some (153, true), false⟩, ⟨some 157, .pick (.t 153) (.t 156) (.c (.bool false)), some (150, false), false⟩, ⟨some 158, .pick (.t 150) (.c (.bool true)) (.t 157), none, false⟩] [12, 13, 158]) (.cond (.t 158) (.seq (.reg [⟨some 8, .mov (.c (.bool false)), none, false⟩] [8]) .ret) .skip)) (.seq (.reg [⟨some 160, .mov (.t 12), none, false⟩, ⟨some 161, .call (.c (.func 18 [] [])) [.t 160], none, false⟩, ⟨some 159, .mov (.t 161), none, false⟩, ⟨some 162, .ext (.t 159) 0, none, false⟩, ⟨some 163, .ext (.t 159) 1, none, false⟩, ⟨some 26, .mov (.t 162), none, false⟩, ⟨some 27, .mov (.t 163), none, false⟩] [13, 26, 27]) (.seq (.reg [⟨some 165, .mov (.t 13), none, false⟩, ⟨some 166, .call (.c (.func 19 [] [])) [.t 165], none, false⟩, ⟨some 164, .mov (.t 166), none, false⟩, ⟨some 167, .ext (.t 164) 0, none, false⟩, ⟨some 168, .ext (.t 164) 1, none, false⟩, ⟨some 28, .mov (.t 167), none, false⟩, ⟨some 29, .mov (.t 168), none, false⟩] [26, 27, 28, 29]) (.seq (.reg [⟨some 169, .mov (.t 26), none, false⟩, ⟨some 170, .mov (.t 28), none, false⟩, ⟨some 171, .call (.c (.func 20 [] [])) [.t 169, .t 170], none, false⟩, ⟨some 30, .mov (.t 171), none, false⟩] [27, 29, 30]) (.seq (.reg [⟨some 172, .mov (.t 27), none, false⟩, ⟨some 173, .mov (.t 29), none, false⟩, ⟨some 174, .call (.c (.func 21 [] [])) [.t 172, .t 173], none, false⟩, ⟨some 31, .mov (.t 174), none, false⟩] [30, 31]) (.seq (.reg [⟨some 175, .mov (.t 30), none, false⟩, ⟨some 176, .mov (.t 175), none, false⟩, ⟨some 177, .mov (.t 31), some (176, true), false⟩, ⟨some 178, .pick (.t 176) (.t 177) (.c (.bool false)), none, false⟩, ⟨some 8, .mov (.t 178), none, false⟩] [8]) .ret))))))))))))))))))
def x3 : XF := ⟨4, b3, [.t 8]⟩
def h3 : Hints := fun id => match id with
  | 0 => [0, 1, 3, 6]
  | 1 => [0, 1, 3, 6, 9]
  | 2 => [0, 1, 3, 6, 9, 10]
  | 3 => [0, 1, 3, 6, 9, 10, 11]
  | 4 => [0, 1, 3, 6, 9, 47]
  | 5 => [8]
  | 6 => [0, 1, 3, 6, 12]
  | 7 => [0, 1, 3, 6, 12, 13]
  | 8 => [0, 1, 3, 6, 12, 13, 14]
  | 9 => [0, 1, 3, 6, 12, 13, 14, 54]
  | 10 => [0, 1, 3, 6, 12, 13, 14]
  | 11 => [0, 1, 3, 6, 12, 13, 14, 15, 16]
  | 12 => [0, 1, 3, 6, 12, 14, 15, 16, 17, 18, 19]
  | 13 => [0, 1, 3, 6, 12, 13, 14, 15, 16, 18, 19]
  | 14 => [0, 1, 3, 6, 12, 13, 14, 92]
  | 15 => [8]
  | 16 => [3, 6, 12, 13, 20, 21]
  | 17 => [3, 12, 13, 20, 21, 22]
  | 18 => [3, 12, 13, 121]
  | 19 => [8]
  | 20 => [3, 12, 13, 23, 24]
  | 21 => [3, 12, 13, 23, 24, 25]
  | 22 => [12, 13, 158]
  | 23 => [8]
  | 24 => [13, 26, 27]
  | 25 => [26, 27, 28, 29]
  | 26 => [27, 29, 30]
  | 27 => [30, 31]
  | 28 => [8]
  | _ => []
theorem cv3 : cvF Try.prog h3 Try.f3 = some x3 := by kernel_rfl

/-- winnower/winnowerlaw08.DictNone -/
def b4 : XC := .seq (.reg [⟨some 2, .box 24 (.t 0), none, false⟩, ⟨some 4, .mov (.c (.bool false)), none, false⟩] [1, 2]) (.seq (.reg [⟨some 17, .call (.c (.func 9 [] [])) [], none, false⟩, ⟨some 5, .mov (.t 17), none, false⟩] [1, 2, 5]) (.seq (.seq (.reg [⟨some 18, .mov (.t 5), none, false⟩, ⟨some 19, .un .not (.t 18), none, false⟩, ⟨some 20, .mov (.t 19), none, false⟩, ⟨some 21, .faddr 2 (.t 2), some (20, false), false⟩, ⟨some 22, .load false 1 (.t 21), some (20, false), false⟩, ⟨some 23, .lens (.t 22), some (20, false), false⟩, ⟨some 24, .bin .gtr (.t 23) (.c (.int .i64 300)), some (20, false), false⟩, ⟨some 25, .pick (.t 20) (.c (.bool true)) (.t 24), none, false⟩] [1, 2, 5, 25]) (.cond (.t 25) (.seq (.reg [⟨some 26, .mov (.t 5), none, false⟩, ⟨some 4, .mov (.t 26), none, false⟩] [4]) .ret) .skip)) (.seq (.reg [⟨some 6, .mov (.c .nilp), none, false⟩] [1, 2, 6]) (.seq (.reg [⟨some 28, .mov (.t 6), none, false⟩, ⟨some 29, .load true 4 (.t 2), none, false⟩, ⟨some 30, .call (.c (.func 12 [] [])) [.t 28, .t 29], none, false⟩, ⟨some 27, .mov (.t 30), none, false⟩, ⟨some 31, .ext (.t 27) 0, none, false⟩, ⟨some 32, .ext (.t 27) 1, none, false⟩, ⟨some 7, .mov (.t 31), none, false⟩, ⟨some 8, .mov (.t 32), none, false⟩] [1, 2, 6, 8]) (.seq (.reg [⟨some 34, .mov (.t 6), none, false⟩, ⟨some 35, .load true 4 (.t 2), none, false⟩, ⟨some 36, .call (.c (.func 15 [] [])) [.t 34, .t 35], none, false⟩, ⟨some 33, .mov (.t 36), none, false⟩, ⟨some 37, .ext (.t 33) 0, none, false⟩, ⟨some 38, .ext (.t 33) 1, none, false⟩, ⟨some 9, .mov (.t 37), none, false⟩, ⟨some 10, .mov (.t 38), none, false⟩] [1, 2, 6, 8, 10]) (.seq (.reg [⟨some 40, .mov (.t 6), none, false⟩, ⟨some 41, .mov (.t 1), none, false⟩, ⟨some 42, .call (.c (.func 17 [] [])) [.t 40, .t 41], none, false⟩, ⟨some 39, .mov (.t 42), none, false⟩, ⟨some 43, .ext (.t 39) 0, none, false⟩, ⟨some 44, .ext (.t 39) 1, none, false⟩, ⟨some 11, .alloc 24 [.int .i64 0, .int .i64 0, .str ⟨#[]⟩, .bool false], none, false⟩, ⟨none, .store 4 (.t 11) (.t 43), none, false⟩, ⟨some 12, .mov (.t 44), none, false⟩] [2, 6, 8, 10, 12]) (.seq (.reg [⟨some 46, .mov (.t 6), none, false⟩, ⟨some 47, .call (.c (.func 18 [] [])) [.t 46], none, false⟩, ⟨some 45, .mov (.t 47), none, false⟩, ⟨some 48, .ext (.t 45) 0, none, false⟩, ⟨some 49, .ext (.t 45) 1, none, false⟩, ⟨some 13, .mov (.t 48), none, false⟩, ⟨some 14, .mov (.t 49), none, false⟩] [2, 6, 8, 10, 12, 13, 14]) (.seq (.reg [⟨some 50, .load true 4 (.t 2), none, false⟩, ⟨some 51, .call (.c (.func 22 [] [])) [.t 50], none, false⟩, ⟨some 15, .mov (.t 51), none, false⟩] [6, 8, 10, 12, 13, 14, 15]) (.seq (.reg [⟨some 16, .mov (.c (.int .i64 1)), none, false⟩] [6, 8, 10, 12, 13, 14, 15, 16]) (.seq (.seq (.reg [⟨some 52, .mov (.t 15), none, false⟩] [6, 8, 10, 12, 13, 14, 16, 52]) (.cond (.t 52) (.reg [⟨some 16, .mov (.c (.int .i64 4)), none, false⟩] [6, 8, 10, 12, 13, 14, 16]) .skip)) (.seq (.reg [⟨some 53, .mov (.t 8), none, false⟩, ⟨some 54, .mov (.t 16), none, false⟩, ⟨some 55, .bin .eql (.t 53) (.t 54), none, false⟩, ⟨some 56, .mov (.t 55), none, false⟩, ⟨some 57, .mov (.t 10), some (56, true), false⟩, ⟨some 58, .un .not (.t 57), some (56, true), false⟩, ⟨some 59, .pick (.t 56) (.t 58) (.c (.bool false)), none, false⟩, ⟨some 60, .mov (.t 59), none, false⟩, ⟨some 61, .mov (.t 12), some (60, true), false⟩, ⟨some 62, .un .not (.t 61), some (60, true), false⟩, ⟨some 63, .pick (.t 60) (.t 62) (.c (.bool false)), none, false⟩, ⟨some 64, .mov (.t 63), none, false⟩, ⟨some 65, .mov (.t 6), some (64, true), false⟩, ⟨some 66, .call (.c (.func 14 [] [])) [.t 65], some (64, true), false⟩, ⟨some 67, .bin .eql (.t 66) (.c (.int .i64 0)), some (64, true), false⟩, ⟨some 68, .pick (.t 64) (.t 67) (.c (.bool false)), none, false⟩, ⟨some 69, .mov (.t 68), none, false⟩, ⟨some 70, .mov (.t 13), some (69, true), false⟩, ⟨some 71, .len 4 (.t 70), some (69, true), false⟩, ⟨some 72, .bin .eql (.t 71) (.c (.int .i64 0)), some (69, true), false⟩, ⟨some 73, .pick (.t 69) (.t 72) (.c (.bool false)), none, false⟩, ⟨some 74, .mov (.t 73), none, false⟩, ⟨some 75, .mov (.t 14), some (74, true), false⟩, ⟨some 76, .len 1 (.t 75), some (74, true), false⟩, ⟨some 77, .bin .eql (.t 76) (.c (.int .i64 0)), some (74, true), false⟩, ⟨some 78, .pick (.t 74) (.t 77) (.c (.bool false)), none, false⟩, ⟨some 4, .mov (.t 78), none, false⟩] [4]) .ret)))))))))))
def x4 : XF := ⟨2, b4, [.t 4]⟩
def h4 : Hints := fun id => match id with
  | 0 => [1, 2]
  | 1 => [1, 2, 5]
  | 2 => [1, 2, 5, 25]
  | 3 => [4]
  | 4 => [1, 2, 6]
  | 5 => [1, 2, 6, 8]
  | 6 => [1, 2, 6, 8, 10]
  | 7 => [2, 6, 8, 10, 12]
  | 8 => [2, 6, 8, 10, 12, 13, 14]
  | 9 => [6, 8, 10, 12, 13, 14, 15]
  | 10 => [6, 8, 10, 12, 13, 14, 15, 16]
  | 11 => [6, 8, 10, 12, 13, 14, 16, 52]
  | 12 => [6, 8, 10, 12, 13, 14, 16]
  | 13 => [4]
  | _ => []
theorem cv4 : cvF Try.prog h4 Try.f4 = some x4 := by kernel_rfl

/-- winnower/winnowerlaw08.DictOrder -/
def b5 : XC := .seq (.reg [⟨some 2, .mov (.c (.bool false)), none, false⟩] [0]) (.seq (.reg [⟨some 19, .call (.c (.func 9 [] [])) [], none, false⟩, ⟨some 3, .mov (.t 19), none, false⟩] [0, 3]) (.seq (.reg [⟨some 20, .mov (.t 0), none, false⟩, ⟨some 21, .call (.c (.func 10 [] [])) [.t 20], none, false⟩, ⟨some 4, .mov (.t 21), none, false⟩] [0, 3, 4]) (.seq (.seq (.reg [⟨some 22, .mov (.t 3), none, false⟩, ⟨some 23, .un .not (.t 22), none, false⟩, ⟨some 24, .mov (.t 23), none, false⟩, ⟨some 25, .mov (.t 4), some (24, false), false⟩, ⟨some 26, .un .not (.t 25), some (24, false), false⟩, ⟨some 27, .pick (.t 24) (.c (.bool true)) (.t 26), none, false⟩] [0, 3, 27]) (.cond (.t 27) (.seq (.reg [⟨some 28, .mov (.t 3), none, false⟩, ⟨some 2, .mov (.t 28), none, false⟩] [2]) .ret) .skip)) (.seq (.reg [⟨some 29, .call (.c (.func 11 [] [])) [.c (.int .i64 4096)], none, false⟩, ⟨some 5, .mov (.t 29), none, false⟩] [0, 5]) (.seq (.reg [⟨some 30, .call (.c (.func 11 [] [])) [.c (.int .i64 4096)], none, false⟩, ⟨some 6, .mov (.t 30), none, false⟩] [0, 5, 6]) (.seq (.seq (.reg [⟨some 7, .mov (.c (.int .i64 0)), none, false⟩] [0, 5, 6, 7]) (.block 0 (.loop (.seq (.seq (.reg [⟨some 31, .mov (.t 7), none, false⟩, ⟨some 32, .mov (.t 0), none, false⟩, ⟨some 33, .len 4 (.t 32), none, false⟩, ⟨some 34, .bin .lss (.t 31) (.t 33), none, false⟩] [0, 5, 6, 7, 34]) (.cond (.t 34) .skip (.exit 0))) (.seq (.block 1 (.seq (.reg [⟨some 38, .mov (.t 5), none, false⟩, ⟨some 39, .mov (.t 0), none, false⟩, ⟨some 40, .mov (.t 7), none, false⟩, ⟨some 41, .iaddr 4 (.t 39) (.t 40), none, false⟩, ⟨some 42, .load true 4 (.t 41), none, false⟩, ⟨some 43, .call (.c (.func 12 [] [])) [.t 38, .t 42], none, false⟩, ⟨some 37, .mov (.t 43), none, false⟩, ⟨some 44, .ext (.t 37) 0, none, false⟩, ⟨some 45, .ext (.t 37) 1, none, false⟩, ⟨some 8, .mov (.t 44), none, false⟩, ⟨some 9, .mov (.t 45), none, false⟩] [0, 5, 6, 7, 8, 9]) (.seq (.reg [⟨some 46, .mov (.t 6), none, false⟩, ⟨some 47, .mov (.t 0), none, false⟩, ⟨some 48, .mov (.t 0), none, false⟩, ⟨some 49, .len 4 (.t 48), none, false⟩, ⟨some 50, .bin .sub (.t 49) (.c (.int .i64 1)), none, false⟩, ⟨some 51, .mov (.t 7), none, false⟩, ⟨some 52, .bin .sub (.t 50) (.t 51), none, false⟩, ⟨some 53, .iaddr 4 (.t 47) (.t 52), none, false⟩, ⟨some 54, .load true 4 (.t 53), none, false⟩, ⟨some 55, .call (.c (.func 12 [] [])) [.t 46, .t 54], none, false⟩] [0, 5, 6, 7, 8, 9]) (.seq (.reg [⟨some 56, .mov (.t 9), none, false⟩, ⟨some 57, .bin .eql (.t 56) (.c (.int .i64 0)), none, false⟩, ⟨some 58, .mov (.t 57), none, false⟩, ⟨some 59, .mov (.t 8), some (58, true), false⟩, ⟨some 60, .bin .lss (.t 59) (.c (.int .i64 0)), some (58, true), false⟩, ⟨some 61, .mov (.t 60), some (58, true), false⟩, ⟨some 62, .mov (.t 8), some (61, false), false⟩, ⟨some 63, .mov (.t 5), some (61, false), false⟩, ⟨some 64, .call (.c (.func 14 [] [])) [.t 63], some (61, false), false⟩, ⟨some 65, .bin .geq (.t 62) (.t 64), some (61, false), false⟩, ⟨some 66, .pick (.t 61) (.c (.bool true)) (.t 65), some (58, true), false⟩, ⟨some 67, .pick (.t 58) (.t 66) (.c (.bool false)), none, false⟩] [0, 5, 6, 7, 67]) (.cond (.t 67) (.seq (.reg [⟨some 2, .mov (.c (.bool false)), none, false⟩] [2]) .ret) .skip))))) (.reg [⟨some 35, .mov (.t 7), none, false⟩, ⟨some 36, .bin .add (.t 35) (.c (.int .i64 1)), none, false⟩, ⟨some 7, .mov (.t 36), none, false⟩] [0, 5, 6, 7])))))) (.seq (.reg [⟨some 69, .mov (.t 5), none, false⟩, ⟨some 70, .call (.c (.func 18 [] [])) [.t 69], none, false⟩, ⟨some 68, .mov (.t 70), none, false⟩, ⟨some 71, .ext (.t 68) 0, none, false⟩, ⟨some 72, .ext (.t 68) 1, none, false⟩, ⟨some 10, .mov (.t 71), none, false⟩, ⟨some 11, .mov (.t 72), none, false⟩] [5, 6, 10]) (.seq (.reg [⟨some 74, .mov (.t 6), none, false⟩, ⟨some 75, .call (.c (.func 18 [] [])) [.t 74], none, false⟩, ⟨some 73, .mov (.t 75), none, false⟩, ⟨some 76, .ext (.t 73) 0, none, false⟩, ⟨some 77, .ext (.t 73) 1, none, false⟩, ⟨some 12, .mov (.t 76), none, false⟩, ⟨some 13, .mov (.t 77), none, false⟩] [5, 6, 10, 12]) (.seq (.seq (.reg [⟨some 14, .mov (.c (.int .i64 0)), none, false⟩] [5, 6, 10, 12, 14]) (.block 2 (.loop (.seq (.seq (.reg [⟨some 78, .mov (.t 14), none, false⟩, ⟨some 79, .mov (.t 5), none, false⟩, ⟨some 80, .call (.c (.func 14 [] [])) [.t 79], none, false⟩, ⟨some 81, .bin .lss (.t 78) (.t 80), none, false⟩] [5, 6, 10, 12, 14, 81]) (.cond (.t 81) .skip (.exit 2))) (.seq (.block 3 (.seq (.reg [⟨some 85, .mov (.t 5), none, false⟩, ⟨some 86, .mov (.t 14), none, false⟩, ⟨some 87, .call (.c (.func 17 [] [])) [.t 85, .t 86], none, false⟩, ⟨some 84, .mov (.t 87), none, false⟩, ⟨some 88, .ext (.t 84) 0, none, false⟩, ⟨some 89, .ext (.t 84) 1, none, false⟩, ⟨some 15, .alloc 24 [.int .i64 0, .int .i64 0, .str ⟨#[]⟩, .bool false], none, false⟩, ⟨none, .store 4 (.t 15) (.t 88), none, false⟩, ⟨some 16, .mov (.t 89), none, false⟩] [5, 6, 10, 12, 14, 15, 16]) (.seq (.reg [⟨some 91, .mov (.t 5), none, false⟩, ⟨some 92, .load true 4 (.t 15), none, false⟩, ⟨some 93, .call (.c (.func 15 [] [])) [.t 91, .t 92], none, false⟩, ⟨some 90, .mov (.t 93), none, false⟩, ⟨some 94, .ext (.t 90) 0, none, false⟩, ⟨some 95, .ext (.t 90) 1, none, false⟩, ⟨some 17, .mov (.t 94), none, false⟩, ⟨some 18, .mov (.t 95), none, false⟩] [5, 6, 10, 12, 14, 16, 17, 18]) (.seq (.reg [⟨some 96, .mov (.t 16), none, false⟩, ⟨some 97, .un .not (.t 96), none, false⟩, ⟨some 98, .mov (.t 97), none, false⟩, ⟨some 99, .mov (.t 18), some (98, false), false⟩, ⟨some 100, .un .not (.t 99), some (98, false), false⟩, ⟨some 101, .pick (.t 98) (.c (.bool true)) (.t 100), none, false⟩, ⟨some 102, .mov (.t 101), none, false⟩, ⟨some 103, .mov (.t 17), some (102, false), false⟩, ⟨some 104, .mov (.t 14), some (102, false), false⟩, ⟨some 105, .bin .neq (.t 103) (.t 104), some (102, false), false⟩, ⟨some 106, .pick (.t 102) (.c (.bool true)) (.t 105), none, false⟩] [5, 6, 10, 12, 14, 106]) (.cond (.t 106) (.seq (.reg [⟨some 2, .mov (.c (.bool false)), none, false⟩] [2]) .ret) .skip))))) (.reg [⟨some 82, .mov (.t 14), none, false⟩, ⟨some 83, .bin .add (.t 82) (.c (.int .i64 1)), none, false⟩, ⟨some 14, .mov (.t 83), none, false⟩] [5, 6, 10, 12, 14])))))) (.seq (.reg [⟨some 107, .mov (.t 5), none, false⟩, ⟨some 108, .call (.c (.func 14 [] [])) [.t 107], none, false⟩, ⟨some 109, .mov (.t 6), none, false⟩, ⟨some 110, .call (.c (.func 14 [] [])) [.t 109], none, false⟩, ⟨some 111, .bin .eql (.t 108) (.t 110), none, false⟩, ⟨some 112, .mov (.t 111), none, false⟩, ⟨some 113, .mov (.t 10), some (112, true), false⟩, ⟨some 114, .mov (.t 12), some (112, true), false⟩, ⟨some 115, .call (.c (.func 20 [] [])) [.t 113, .t 114], some (112, true), false⟩, ⟨some 116, .pick (.t 112) (.t 115) (.c (.bool false)), none, false⟩, ⟨some 2, .mov (.t 116), none, false⟩] [2]) .ret))))))))))
def x5 : XF := ⟨1, b5, [.t 2]⟩
def h5 : Hints := fun id => match id with
  | 0 => [0]
  | 1 => [0, 3]
  | 2 => [0, 3, 4]
  | 3 => [0, 3, 27]
  | 4 => [2]
  | 5 => [0, 5]
  | 6 => [0, 5, 6]
  | 7 => [0, 5, 6, 7]
  | 8 => [0, 5, 6, 7, 34]
  | 9 => [0, 5, 6, 7]
  | 10 => [0, 5, 6, 7, 8, 9]
  | 11 => [0, 5, 6, 7, 8, 9]
  | 12 => [0, 5, 6, 7, 67]
  | 13 => [2]
  | 14 => [5, 6, 10]
  | 15 => [5, 6, 10, 12]
  | 16 => [5, 6, 10, 12, 14]
  | 17 => [5, 6, 10, 12, 14, 81]
  | 18 => [5, 6, 10, 12, 14]
  | 19 => [5, 6, 10, 12, 14, 15, 16]
  | 20 => [5, 6, 10, 12, 14, 16, 17, 18]
  | 21 => [5, 6, 10, 12, 14, 106]
  | 22 => [2]
  | 23 => [2]
  | _ => []
theorem cv5 : cvF Try.prog h5 Try.f5 = some x5 := by kernel_rfl

/-- winnower/winnowerlaw08.DictSearches -/
def b6 : XC := .seq (.reg [⟨some 3, .box 24 (.t 1), none, false⟩, ⟨some 4, .mov (.c (.bool false)), none, false⟩] [0, 3]) (.seq (.reg [⟨some 12, .call (.c (.func 9 [] [])) [], none, false⟩, ⟨some 5, .mov (.t 12), none, false⟩] [0, 3, 5]) (.seq (.reg [⟨some 13, .mov (.t 0), none, false⟩, ⟨some 14, .call (.c (.func 10 [] [])) [.t 13], none, false⟩, ⟨some 6, .mov (.t 14), none, false⟩] [0, 3, 5, 6]) (.seq (.reg [⟨some 15, .load true 4 (.t 3), none, false⟩, ⟨some 16, .mkslice true 24 4 [.t 15], none, false⟩, ⟨some 17, .call (.c (.func 10 [] [])) [.t 16], none, false⟩, ⟨some 7, .mov (.t 17), none, false⟩] [0, 3, 5, 6, 7]) (.seq (.seq (.reg [⟨some 18, .mov (.t 5), none, false⟩, ⟨some 19, .un .not (.t 18), none, false⟩, ⟨some 20, .mov (.t 19), none, false⟩, ⟨some 21, .mov (.t 6), some (20, false), false⟩, ⟨some 22, .un .not (.t 21), some (20, false), false⟩, ⟨some 23, .pick (.t 20) (.c (.bool true)) (.t 22), none, false⟩, ⟨some 24, .mov (.t 23), none, false⟩, ⟨some 25, .mov (.t 7), some (24, false), false⟩, ⟨some 26, .un .not (.t 25), some (24, false), false⟩, ⟨some 27, .pick (.t 24) (.c (.bool true)) (.t 26), none, false⟩] [0, 3, 5, 27]) (.cond (.t 27) (.seq (.reg [⟨some 28, .mov (.t 5), none, false⟩, ⟨some 4, .mov (.t 28), none, false⟩] [4]) .ret) .skip)) (.seq (.reg [⟨some 30, .mov (.t 0), none, false⟩, ⟨some 31, .load true 4 (.t 3), none, false⟩, ⟨some 32, .call (.c (.func 23 [] [])) [.t 30, .t 31], none, false⟩, ⟨some 29, .mov (.t 32), none, false⟩, ⟨some 33, .ext (.t 29) 0, none, false⟩, ⟨some 34, .ext (.t 29) 1, none, false⟩, ⟨some 8, .mov (.t 33), none, false⟩, ⟨some 9, .mov (.t 34), none, false⟩] [0, 3, 8, 9]) (.seq (.reg [⟨some 36, .mov (.t 0), none, false⟩, ⟨some 37, .load true 4 (.t 3), none, false⟩, ⟨some 38, .call (.c (.func 24 [] [])) [.t 36, .t 37], none, false⟩, ⟨some 35, .mov (.t 38), none, false⟩, ⟨some 39, .ext (.t 35) 0, none, false⟩, ⟨some 40, .ext (.t 35) 1, none, false⟩, ⟨some 10, .mov (.t 39), none, false⟩, ⟨some 11, .mov (.t 40), none, false⟩] [0, 8, 9, 10, 11]) (.seq (.reg [⟨some 41, .mov (.t 8), none, false⟩, ⟨some 42, .mov (.t 10), none, false⟩, ⟨some 43, .bin .eql (.t 41) (.t 42), none, false⟩, ⟨some 44, .mov (.t 43), none, false⟩, ⟨some 45, .mov (.t 9), some (44, true), false⟩, ⟨some 46, .mov (.t 11), some (44, true), false⟩, ⟨some 47, .eqk 0 false (.t 45) (.t 46), some (44, true), false⟩, ⟨some 48, .pick (.t 44) (.t 47) (.c (.bool false)), none, false⟩, ⟨some 49, .mov (.t 48), none, false⟩, ⟨some 50, .mov (.t 0), some (49, true), false⟩, ⟨some 51, .call (.c (.func 25 [] [])) [.t 50], some (49, true), false⟩, ⟨some 52, .mov (.t 0), some (49, true), false⟩, ⟨some 53, .call (.c (.func 26 [] [])) [.t 52], some (49, true), false⟩, ⟨some 54, .eqk 0 false (.t 51) (.t 53), some (49, true), false⟩, ⟨some 55, .pick (.t 49) (.t 54) (.c (.bool false)), none, false⟩, ⟨some 4, .mov (.t 55), none, false⟩] [4]) .ret)))))))
def x6 : XF := ⟨2, b6, [.t 4]⟩
def h6 : Hints := fun id => match id with
  | 0 => [0, 3]
  | 1 => [0, 3, 5]
  | 2 => [0, 3, 5, 6]
  | 3 => [0, 3, 5, 6, 7]
  | 4 => [0, 3, 5, 27]
  | 5 => [4]
  | 6 => [0, 3, 8, 9]
  | 7 => [0, 8, 9, 10, 11]
  | 8 => [4]
  | _ => []
theorem cv6 : cvF Try.prog h6 Try.f6 = some x6 := by kernel_rfl

/-- winnower/winnowerlaw08.DictPlaces -/
def b7 : XC := .seq (.reg [⟨some 3, .box 24 (.t 1), none, false⟩, ⟨some 4, .mov (.c (.bool false)), none, false⟩] [0, 3]) (.seq (.reg [⟨some 12, .call (.c (.func 9 [] [])) [], none, false⟩, ⟨some 5, .mov (.t 12), none, false⟩] [0, 3, 5]) (.seq (.reg [⟨some 13, .mov (.t 0), none, false⟩, ⟨some 14, .call (.c (.func 10 [] [])) [.t 13], none, false⟩, ⟨some 6, .mov (.t 14), none, false⟩] [0, 3, 5, 6]) (.seq (.reg [⟨some 15, .load true 4 (.t 3), none, false⟩, ⟨some 16, .mkslice true 24 4 [.t 15], none, false⟩, ⟨some 17, .call (.c (.func 10 [] [])) [.t 16], none, false⟩, ⟨some 7, .mov (.t 17), none, false⟩] [0, 3, 5, 6, 7]) (.seq (.reg [⟨some 18, .load true 4 (.t 3), none, false⟩, ⟨some 19, .call (.c (.func 22 [] [])) [.t 18], none, false⟩, ⟨some 8, .mov (.t 19), none, false⟩] [0, 3, 5, 6, 7, 8]) (.seq (.seq (.reg [⟨some 20, .mov (.t 5), none, false⟩, ⟨some 21, .un .not (.t 20), none, false⟩, ⟨some 22, .mov (.t 21), none, false⟩, ⟨some 23, .mov (.t 6), some (22, false), false⟩, ⟨some 24, .un .not (.t 23), some (22, false), false⟩, ⟨some 25, .pick (.t 22) (.c (.bool true)) (.t 24), none, false⟩, ⟨some 26, .mov (.t 25), none, false⟩, ⟨some 27, .mov (.t 7), some (26, false), false⟩, ⟨some 28, .un .not (.t 27), some (26, false), false⟩, ⟨some 29, .pick (.t 26) (.c (.bool true)) (.t 28), none, false⟩, ⟨some 30, .mov (.t 29), none, false⟩, ⟨some 31, .mov (.t 8), some (30, false), false⟩, ⟨some 32, .un .not (.t 31), some (30, false), false⟩, ⟨some 33, .pick (.t 30) (.c (.bool true)) (.t 32), none, false⟩, ⟨some 34, .mov (.t 33), none, false⟩, ⟨some 35, .mov (.t 0), some (34, false), false⟩, ⟨some 36, .call (.c (.func 25 [] [])) [.t 35], some (34, false), false⟩, ⟨some 37, .un .not (.t 36), some (34, false), false⟩, ⟨some 38, .pick (.t 34) (.c (.bool true)) (.t 37), none, false⟩] [0, 3, 5, 38]) (.cond (.t 38) (.seq (.reg [⟨some 39, .mov (.t 5), none, false⟩, ⟨some 4, .mov (.t 39), none, false⟩] [4]) .ret) .skip)) (.seq (.reg [⟨some 41, .mov (.t 0), none, false⟩, ⟨some 42, .load true 4 (.t 3), none, false⟩, ⟨some 43, .call (.c (.func 23 [] [])) [.t 41, .t 42], none, false⟩, ⟨some 40, .mov (.t 43), none, false⟩, ⟨some 44, .ext (.t 40) 0, none, false⟩, ⟨some 45, .ext (.t 40) 1, none, false⟩, ⟨some 9, .mov (.t 44), none, false⟩, ⟨some 10, .mov (.t 45), none, false⟩] [0, 3, 9, 10]) (.seq (.seq (.reg [⟨some 46, .mov (.t 9), none, false⟩, ⟨some 47, .bin .lss (.t 46) (.c (.int .i64 0)), none, false⟩, ⟨some 48, .mov (.t 47), none, false⟩, ⟨some 49, .mov (.t 9), some (48, false), false⟩, ⟨some 50, .mov (.t 0), some (48, false), false⟩, ⟨some 51, .len 4 (.t 50), some (48, false), false⟩, ⟨some 52, .bin .gtr (.t 49) (.t 51), some (48, false), false⟩, ⟨some 53, .pick (.t 48) (.c (.bool true)) (.t 52), none, false⟩] [0, 3, 9, 10, 53]) (.cond (.t 53) (.seq (.reg [⟨some 4, .mov (.c (.bool false)), none, false⟩] [4]) .ret) .skip)) (.seq (.seq (.reg [⟨some 11, .mov (.c (.int .i64 0)), none, false⟩] [0, 3, 9, 10, 11]) (.block 0 (.loop (.seq (.seq (.reg [⟨some 54, .mov (.t 11), none, false⟩, ⟨some 55, .mov (.t 0), none, false⟩, ⟨some 56, .len 4 (.t 55), none, false⟩, ⟨some 57, .bin .lss (.t 54) (.t 56), none, false⟩] [0, 3, 9, 10, 11, 57]) (.cond (.t 57) .skip (.exit 0))) (.seq (.block 1 (.seq (.reg [⟨some 60, .mov (.t 0), none, false⟩, ⟨some 61, .mov (.t 11), none, false⟩, ⟨some 62, .iaddr 4 (.t 60) (.t 61), none, false⟩, ⟨some 63, .load true 4 (.t 62), none, false⟩, ⟨some 64, .load true 4 (.t 3), none, false⟩, ⟨some 65, .call (.c (.func 27 [] [])) [.t 63, .t 64], none, false⟩, ⟨some 66, .bin .lss (.t 65) (.c (.int .i64 0)), none, false⟩, ⟨some 67, .mov (.t 11), none, false⟩, ⟨some 68, .mov (.t 9), none, false⟩, ⟨some 69, .bin .lss (.t 67) (.t 68), none, false⟩, ⟨some 70, .eqk 0 true (.t 66) (.t 69), none, false⟩] [0, 3, 9, 10, 11, 70]) (.cond (.t 70) (.seq (.reg [⟨some 4, .mov (.c (.bool false)), none, false⟩] [4]) .ret) .skip))) (.reg [⟨some 58, .mov (.t 11), none, false⟩, ⟨some 59, .bin .add (.t 58) (.c (.int .i64 1)), none, false⟩, ⟨some 11, .mov (.t 59), none, false⟩] [0, 3, 9, 10, 11])))))) (.seq (.reg [⟨some 71, .mov (.t 10), none, false⟩, ⟨some 72, .mov (.t 9), none, false⟩, ⟨some 73, .mov (.t 0), none, false⟩, ⟨some 74, .len 4 (.t 73), none, false⟩, ⟨some 75, .bin .lss (.t 72) (.t 74), none, false⟩, ⟨some 76, .mov (.t 75), none, false⟩, ⟨some 77, .mov (.t 0), some (76, true), false⟩, ⟨some 78, .mov (.t 9), some (76, true), false⟩, ⟨some 79, .iaddr 4 (.t 77) (.t 78), some (76, true), false⟩, ⟨some 80, .load true 4 (.t 79), some (76, true), false⟩, ⟨some 81, .load true 4 (.t 3), some (76, true), false⟩, ⟨some 82, .eqa [1, 1, 2, 0] false (.t 80) (.t 81), some (76, true), false⟩, ⟨some 83, .pick (.t 76) (.t 82) (.c (.bool false)), none, false⟩, ⟨some 84, .eqk 0 false (.t 71) (.t 83), none, false⟩, ⟨some 4, .mov (.t 84), none, false⟩] [4]) .ret)))))))))
def x7 : XF := ⟨2, b7, [.t 4]⟩
def h7 : Hints := fun id => match id with
  | 0 => [0, 3]
  | 1 => [0, 3, 5]
  | 2 => [0, 3, 5, 6]
  | 3 => [0, 3, 5, 6, 7]
  | 4 => [0, 3, 5, 6, 7, 8]
  | 5 => [0, 3, 5, 38]
  | 6 => [4]
  | 7 => [0, 3, 9, 10]
  | 8 => [0, 3, 9, 10, 53]
  | 9 => [4]
  | 10 => [0, 3, 9, 10, 11]
  | 11 => [0, 3, 9, 10, 11, 57]
  | 12 => [0, 3, 9, 10, 11]
  | 13 => [0, 3, 9, 10, 11, 70]
  | 14 => [4]
  | 15 => [4]
  | _ => []
theorem cv7 : cvF Try.prog h7 Try.f7 = some x7 := by kernel_rfl

/-- winnower/winnowerlaw08.DictKeeps -/
def b8 : XC := .seq (.reg [⟨some 4, .mov (.c (.bool false)), none, false⟩] [0, 1]) (.seq (.reg [⟨some 21, .call (.c (.func 9 [] [])) [], none, false⟩, ⟨some 5, .mov (.t 21), none, false⟩] [0, 1, 5]) (.seq (.reg [⟨some 22, .mov (.t 1), none, false⟩, ⟨some 23, .call (.c (.func 10 [] [])) [.t 22], none, false⟩, ⟨some 6, .mov (.t 23), none, false⟩] [0, 1, 5, 6]) (.seq (.seq (.reg [⟨some 24, .mov (.t 5), none, false⟩, ⟨some 25, .un .not (.t 24), none, false⟩, ⟨some 26, .mov (.t 25), none, false⟩, ⟨some 27, .mov (.t 6), some (26, false), false⟩, ⟨some 28, .un .not (.t 27), some (26, false), false⟩, ⟨some 29, .pick (.t 26) (.c (.bool true)) (.t 28), none, false⟩] [0, 1, 5, 29]) (.cond (.t 29) (.seq (.reg [⟨some 30, .mov (.t 5), none, false⟩, ⟨some 4, .mov (.t 30), none, false⟩] [4]) .ret) .skip)) (.seq (.reg [⟨some 31, .mov (.t 0), none, false⟩, ⟨some 32, .call (.c (.func 11 [] [])) [.t 31], none, false⟩, ⟨some 7, .mov (.t 32), none, false⟩] [1, 7]) (.seq (.reg [⟨some 8, .mov (.c .nils), none, false⟩] [1, 7, 8]) (.seq (.seq (.reg [⟨some 9, .mov (.c (.int .i64 0)), none, false⟩] [1, 7, 8, 9]) (.block 0 (.loop (.seq (.seq (.reg [⟨some 33, .mov (.t 9), none, false⟩, ⟨some 34, .mov (.t 1), none, false⟩, ⟨some 35, .len 4 (.t 34), none, false⟩, ⟨some 36, .bin .lss (.t 33) (.t 35), none, false⟩] [1, 7, 8, 9, 36]) (.cond (.t 36) .skip (.exit 0))) (.seq (.block 1 (.seq (.reg [⟨some 40, .mov (.t 7), none, false⟩, ⟨some 41, .mov (.t 1), none, false⟩, ⟨some 42, .mov (.t 9), none, false⟩, ⟨some 43, .iaddr 4 (.t 41) (.t 42), none, false⟩, ⟨some 44, .load true 4 (.t 43), none, false⟩, ⟨some 45, .call (.c (.func 12 [] [])) [.t 40, .t 44], none, false⟩, ⟨some 39, .mov (.t 45), none, false⟩, ⟨some 46, .ext (.t 39) 0, none, false⟩, ⟨some 47, .ext (.t 39) 1, none, false⟩, ⟨some 10, .mov (.t 46), none, false⟩, ⟨some 11, .mov (.t 47), none, false⟩] [1, 7, 8, 9, 10, 11]) (.seq (.seq (.reg [⟨some 48, .mov (.t 11), none, false⟩, ⟨some 49, .bin .neq (.t 48) (.c (.int .i64 0)), none, false⟩] [1, 7, 8, 9, 10, 49]) (.cond (.t 49) (.reg [⟨some 10, .mov (.c (.int .i64 (-1))), none, false⟩] [1, 7, 8, 9, 10]) .skip)) (.reg [⟨some 50, .mov (.t 8), none, false⟩, ⟨some 51, .mov (.t 10), none, false⟩, ⟨some 52, .mkslice true 3 1 [.t 51], none, false⟩, ⟨some 53, .app 3 1 8 (.t 50) (.t 52), none, false⟩, ⟨some 8, .mov (.t 53), none, false⟩] [1, 7, 8, 9])))) (.reg [⟨some 37, .mov (.t 9), none, false⟩, ⟨some 38, .bin .add (.t 37) (.c (.int .i64 1)), none, false⟩, ⟨some 9, .mov (.t 38), none, false⟩] [1, 7, 8, 9])))))) (.seq (.reg [⟨some 55, .mov (.t 7), none, false⟩, ⟨some 56, .call (.c (.func 18 [] [])) [.t 55], none, false⟩, ⟨some 54, .mov (.t 56), none, false⟩, ⟨some 57, .ext (.t 54) 0, none, false⟩, ⟨some 58, .ext (.t 54) 1, none, false⟩, ⟨some 12, .mov (.t 57), none, false⟩, ⟨some 13, .mov (.t 58), none, false⟩] [1, 7, 8, 12, 13]) (.seq (.seq (.reg [⟨some 59, .mov (.t 12), none, false⟩, ⟨some 60, .len 4 (.t 59), none, false⟩, ⟨some 61, .mov (.t 7), none, false⟩, ⟨some 62, .call (.c (.func 14 [] [])) [.t 61], none, false⟩, ⟨some 63, .bin .neq (.t 60) (.t 62), none, false⟩, ⟨some 64, .mov (.t 63), none, false⟩, ⟨some 65, .mov (.t 13), some (64, false), false⟩, ⟨some 66, .len 1 (.t 65), some (64, false), false⟩, ⟨some 67, .mov (.t 7), some (64, false), false⟩, ⟨some 68, .call (.c (.func 14 [] [])) [.t 67], some (64, false), false⟩, ⟨some 69, .bin .neq (.t 66) (.t 68), some (64, false), false⟩, ⟨some 70, .pick (.t 64) (.c (.bool true)) (.t 69), none, false⟩, ⟨some 71, .mov (.t 70), none, false⟩, ⟨some 72, .mov (.t 12), some (71, false), false⟩, ⟨some 73, .call (.c (.func 25 [] [])) [.t 72], some (71, false), false⟩, ⟨some 74, .un .not (.t 73), some (71, false), false⟩, ⟨some 75, .pick (.t 71) (.c (.bool true)) (.t 74), none, false⟩] [1, 7, 8, 12, 13, 75]) (.cond (.t 75) (.seq (.reg [⟨some 4, .mov (.c (.bool false)), none, false⟩] [4]) .ret) .skip)) (.seq (.seq (.reg [⟨some 14, .mov (.c (.int .i64 0)), none, false⟩] [1, 7, 8, 12, 13, 14]) (.block 2 (.loop (.seq (.seq (.reg [⟨some 76, .mov (.t 14), none, false⟩, ⟨some 77, .mov (.t 1), none, false⟩, ⟨some 78, .len 4 (.t 77), none, false⟩, ⟨some 79, .bin .lss (.t 76) (.t 78), none, false⟩] [1, 7, 8, 12, 13, 14, 79]) (.cond (.t 79) .skip (.exit 2))) (.seq (.block 3 (.seq (.seq (.reg [⟨some 82, .mov (.t 8), none, false⟩, ⟨some 83, .mov (.t 14), none, false⟩, ⟨some 84, .iaddr 1 (.t 82) (.t 83), none, false⟩, ⟨some 85, .load false 1 (.t 84), none, false⟩, ⟨some 86, .bin .lss (.t 85) (.c (.int .i64 0)), none, false⟩] [1, 7, 8, 12, 13, 14, 86]) (.cond (.t 86) (.exit 3) .skip)) (.seq (.reg [⟨some 88, .mov (.t 7), none, false⟩, ⟨some 89, .mov (.t 1), none, false⟩, ⟨some 90, .mov (.t 14), none, false⟩, ⟨some 91, .iaddr 4 (.t 89) (.t 90), none, false⟩, ⟨some 92, .load true 4 (.t 91), none, false⟩, ⟨some 93, .call (.c (.func 15 [] [])) [.t 88, .t 92], none, false⟩, ⟨some 87, .mov (.t 93), none, false⟩, ⟨some 94, .ext (.t 87) 0, none, false⟩, ⟨some 95, .ext (.t 87) 1, none, false⟩, ⟨some 15, .mov (.t 94), none, false⟩, ⟨some 16, .mov (.t 95), none, false⟩] [1, 7, 8, 12, 13, 14, 15, 16]) (.seq (.reg [⟨some 97, .mov (.t 7), none, false⟩, ⟨some 98, .mov (.t 8), none, false⟩, ⟨some 99, .mov (.t 14), none, false⟩, ⟨some 100, .iaddr 1 (.t 98) (.t 99), none, false⟩, ⟨some 101, .load false 1 (.t 100), none, false⟩, ⟨some 102, .call (.c (.func 17 [] [])) [.t 97, .t 101], none, false⟩, ⟨some 96, .mov (.t 102), none, false⟩, ⟨some 103, .ext (.t 96) 0, none, false⟩, ⟨some 104, .ext (.t 96) 1, none, false⟩, ⟨some 17, .alloc 24 [.int .i64 0, .int .i64 0, .str ⟨#[]⟩, .bool false], none, false⟩, ⟨none, .store 4 (.t 17) (.t 103), none, false⟩, ⟨some 18, .mov (.t 104), none, false⟩] [1, 7, 8, 12, 13, 14, 15, 16, 17, 18]) (.seq (.seq (.reg [⟨some 105, .mov (.t 15), none, false⟩, ⟨some 106, .mov (.t 8), none, false⟩, ⟨some 107, .mov (.t 14), none, false⟩, ⟨some 108, .iaddr 1 (.t 106) (.t 107), none, false⟩, ⟨some 109, .load false 1 (.t 108), none, false⟩, ⟨some 110, .bin .neq (.t 105) (.t 109), none, false⟩, ⟨some 111, .mov (.t 110), none, false⟩, ⟨some 112, .mov (.t 16), some (111, false), false⟩, ⟨some 113, .un .not (.t 112), some (111, false), false⟩, ⟨some 114, .pick (.t 111) (.c (.bool true)) (.t 113), none, false⟩, ⟨some 115, .mov (.t 114), none, false⟩, ⟨some 116, .load true 4 (.t 17), some (115, false), false⟩, ⟨some 117, .mov (.t 1), some (115, false), false⟩, ⟨some 118, .mov (.t 14), some (115, false), false⟩, ⟨some 119, .iaddr 4 (.t 117) (.t 118), some (115, false), false⟩, ⟨some 120, .load true 4 (.t 119), some (115, false), false⟩, ⟨some 121, .eqa [1, 1, 2, 0] true (.t 116) (.t 120), some (115, false), false⟩, ⟨some 122, .pick (.t 115) (.c (.bool true)) (.t 121), none, false⟩, ⟨some 123, .mov (.t 122), none, false⟩, ⟨some 124, .mov (.t 18), some (123, false), false⟩, ⟨some 125, .un .not (.t 124), some (123, false), false⟩, ⟨some 126, .pick (.t 123) (.c (.bool true)) (.t 125), none, false⟩] [1, 7, 8, 12, 13, 14, 15, 126]) (.cond (.t 126) (.seq (.reg [⟨some 4, .mov (.c (.bool false)), none, false⟩] [4]) .ret) .skip)) (.seq (.reg [⟨some 128, .mov (.t 12), none, false⟩, ⟨some 129, .mov (.t 1), none, false⟩, ⟨some 130, .mov (.t 14), none, false⟩, ⟨some 131, .iaddr 4 (.t 129) (.t 130), none, false⟩, ⟨some 132, .load true 4 (.t 131), none, false⟩, ⟨some 133, .call (.c (.func 23 [] [])) [.t 128, .t 132], none, false⟩, ⟨some 127, .mov (.t 133), none, false⟩, ⟨some 134, .ext (.t 127) 0, none, false⟩, ⟨some 135, .ext (.t 127) 1, none, false⟩, ⟨some 19, .mov (.t 134), none, false⟩, ⟨some 20, .mov (.t 135), none, false⟩] [1, 7, 8, 12, 13, 14, 15, 19, 20]) (.seq (.reg [⟨some 136, .mov (.t 20), none, false⟩, ⟨some 137, .un .not (.t 136), none, false⟩, ⟨some 138, .mov (.t 137), none, false⟩, ⟨some 139, .mov (.t 15), some (138, false), false⟩, ⟨some 140, .bin .lss (.t 139) (.c (.int .i64 0)), some (138, false), false⟩, ⟨some 141, .pick (.t 138) (.c (.bool true)) (.t 140), none, false⟩, ⟨some 142, .mov (.t 141), none, false⟩, ⟨some 143, .mov (.t 15), some (142, false), false⟩, ⟨some 144, .mov (.t 13), some (142, false), false⟩, ⟨some 145, .len 1 (.t 144), some (142, false), false⟩, ⟨some 146, .bin .geq (.t 143) (.t 145), some (142, false), false⟩, ⟨some 147, .pick (.t 142) (.c (.bool true)) (.t 146), none, false⟩, ⟨some 148, .mov (.t 147), none, false⟩, ⟨some 149, .mov (.t 19), some (148, false), false⟩, ⟨some 150, .bin .lss (.t 149) (.c (.int .i64 0)), some (148, false), false⟩, ⟨some 151, .pick (.t 148) (.c (.bool true)) (.t 150), none, false⟩, ⟨some 152, .mov (.t 151), none, false⟩, ⟨some 153, .mov (.t 19), some (152, false), false⟩, ⟨some 154, .mov (.t 12), some (152, false), false⟩, ⟨some 155, .len 4 (.t 154), some (152, false), false⟩, ⟨some 156, .bin .geq (.t 153) (.t 155), some (152, false), false⟩, ⟨some 157, .pick (.t 152) (.c (.bool true)) (.t 156), none, false⟩, ⟨some 158, .mov (.t 157), none, false⟩, ⟨some 159, .mov (.t 13), some (158, false), false⟩, ⟨some 160, .mov (.t 15), some (158, false), false⟩, ⟨some 161, .iaddr 1 (.t 159) (.t 160), some (158, false), false⟩, ⟨some 162, .load false 1 (.t 161), some (158, false), false⟩, ⟨some 163, .mov (.t 19), some (158, false), false⟩, ⟨some 164, .bin .neq (.t 162) (.t 163), some (158, false), false⟩, ⟨some 165, .pick (.t 158) (.c (.bool true)) (.t 164), none, false⟩, ⟨some 166, .mov (.t 165), none, false⟩, ⟨some 167, .mov (.t 12), some (166, false), false⟩, ⟨some 168, .mov (.t 19), some (166, false), false⟩, ⟨some 169, .iaddr 4 (.t 167) (.t 168), some (166, false), false⟩, ⟨some 170, .load true 4 (.t 169), some (166, false), false⟩, ⟨some 171, .mov (.t 1), some (166, false), false⟩, ⟨some 172, .mov (.t 14), some (166, false), false⟩, ⟨some 173, .iaddr 4 (.t 171) (.t 172), some (166, false), false⟩, ⟨some 174, .load true 4 (.t 173), some (166, false), false⟩, ⟨some 175, .eqa [1, 1, 2, 0] true (.t 170) (.t 174), some (166, false), false⟩, ⟨some 176, .pick (.t 166) (.c (.bool true)) (.t 175), none, false⟩] [1, 7, 8, 12, 13, 14, 176]) (.cond (.t 176) (.seq (.reg [⟨some 4, .mov (.c (.bool false)), none, false⟩] [4]) .ret) .skip)))))))) (.reg [⟨some 80, .mov (.t 14), none, false⟩, ⟨some 81, .bin .add (.t 80) (.c (.int .i64 1)), none, false⟩, ⟨some 14, .mov (.t 81), none, false⟩] [1, 7, 8, 12, 13, 14])))))) (.seq (.reg [⟨some 4, .mov (.c (.bool true)), none, false⟩] [4]) .ret))))))))))
def x8 : XF := ⟨2, b8, [.t 4]⟩
def h8 : Hints := fun id => match id with
  | 0 => [0, 1]
  | 1 => [0, 1, 5]
  | 2 => [0, 1, 5, 6]
  | 3 => [0, 1, 5, 29]
  | 4 => [4]
  | 5 => [1, 7]
  | 6 => [1, 7, 8]
  | 7 => [1, 7, 8, 9]
  | 8 => [1, 7, 8, 9, 36]
  | 9 => [1, 7, 8, 9]
  | 10 => [1, 7, 8, 9, 10, 11]
  | 11 => [1, 7, 8, 9, 10, 49]
  | 12 => [1, 7, 8, 9, 10]
  | 13 => [1, 7, 8, 9]
  | 14 => [1, 7, 8, 12, 13]
  | 15 => [1, 7, 8, 12, 13, 75]
  | 16 => [4]
  | 17 => [1, 7, 8, 12, 13, 14]
  | 18 => [1, 7, 8, 12, 13, 14, 79]
  | 19 => [1, 7, 8, 12, 13, 14]
  | 20 => [1, 7, 8, 12, 13, 14, 86]
  | 21 => [1, 7, 8, 12, 13, 14, 15, 16]
  | 22 => [1, 7, 8, 12, 13, 14, 15, 16, 17, 18]
  | 23 => [1, 7, 8, 12, 13, 14, 15, 126]
  | 24 => [4]
  | 25 => [1, 7, 8, 12, 13, 14, 15, 19, 20]
  | 26 => [1, 7, 8, 12, 13, 14, 176]
  | 27 => [4]
  | 28 => [4]
  | _ => []
theorem cv8 : cvF Try.prog h8 Try.f8 = some x8 := by kernel_rfl

/-- winnower/winnowerlaw08.awake -/
def b9 : XC := .seq (.reg [⟨some 0, .mov (.c (.bool false)), none, false⟩] []) (.seq (.reg [⟨some 11, .call (.c (.func 11 [] [])) [.c (.int .i64 9)], none, false⟩, ⟨some 1, .mov (.t 11), none, false⟩] [1]) (.seq (.reg [⟨some 13, .mov (.t 1), none, false⟩, ⟨some 14, .build [.int .i64 0, .int .i64 0, .str ⟨#[]⟩, .bool false] [(0, (1, .c (.int .i64 1))), (1, (1, .c (.int .i64 7)))], none, false⟩, ⟨some 15, .call (.c (.func 12 [] [])) [.t 13, .t 14], none, false⟩, ⟨some 12, .mov (.t 15), none, false⟩, ⟨some 16, .ext (.t 12) 0, none, false⟩, ⟨some 17, .ext (.t 12) 1, none, false⟩, ⟨some 2, .mov (.t 16), none, false⟩, ⟨some 3, .mov (.t 17), none, false⟩] [1, 2, 3]) (.seq (.reg [⟨some 19, .mov (.t 1), none, false⟩, ⟨some 20, .build [.int .i64 0, .int .i64 0, .str ⟨#[]⟩, .bool false] [(0, (1, .c (.int .i64 1))), (1, (1, .c (.int .i64 3)))], none, false⟩, ⟨some 21, .call (.c (.func 12 [] [])) [.t 19, .t 20], none, false⟩, ⟨some 18, .mov (.t 21), none, false⟩, ⟨some 22, .ext (.t 18) 0, none, false⟩, ⟨some 23, .ext (.t 18) 1, none, false⟩, ⟨some 4, .mov (.t 22), none, false⟩, ⟨some 5, .mov (.t 23), none, false⟩] [1, 2, 3, 4, 5]) (.seq (.reg [⟨some 25, .mov (.t 1), none, false⟩, ⟨some 26, .build [.int .i64 0, .int .i64 0, .str ⟨#[]⟩, .bool false] [(0, (1, .c (.int .i64 1))), (1, (1, .c (.int .i64 7)))], none, false⟩, ⟨some 27, .call (.c (.func 12 [] [])) [.t 25, .t 26], none, false⟩, ⟨some 24, .mov (.t 27), none, false⟩, ⟨some 28, .ext (.t 24) 0, none, false⟩, ⟨some 29, .ext (.t 24) 1, none, false⟩, ⟨some 6, .mov (.t 28), none, false⟩, ⟨some 7, .mov (.t 29), none, false⟩] [1, 2, 3, 4, 5, 6, 7]) (.seq (.reg [⟨some 31, .mov (.t 1), none, false⟩, ⟨some 32, .call (.c (.func 18 [] [])) [.t 31], none, false⟩, ⟨some 30, .mov (.t 32), none, false⟩, ⟨some 33, .ext (.t 30) 0, none, false⟩, ⟨some 34, .ext (.t 30) 1, none, false⟩, ⟨some 8, .mov (.t 33), none, false⟩, ⟨some 9, .mov (.t 34), none, false⟩] [2, 3, 4, 5, 6, 7, 8, 9]) (.seq (.reg [⟨some 35, .mov (.t 9), none, false⟩, ⟨some 36, .mkslice true 3 1 [.c (.int .i64 1), .c (.int .i64 0)], none, false⟩, ⟨some 37, .call (.c (.func 21 [] [])) [.t 35, .t 36], none, false⟩, ⟨some 10, .mov (.t 37), none, false⟩] [2, 3, 4, 5, 6, 7, 8, 10]) (.seq (.reg [⟨some 38, .mov (.t 2), none, false⟩, ⟨some 39, .bin .eql (.t 38) (.c (.int .i64 0)), none, false⟩, ⟨some 40, .mov (.t 39), none, false⟩, ⟨some 41, .mov (.t 4), some (40, true), false⟩, ⟨some 42, .bin .eql (.t 41) (.c (.int .i64 1)), some (40, true), false⟩, ⟨some 43, .pick (.t 40) (.t 42) (.c (.bool false)), none, false⟩, ⟨some 44, .mov (.t 43), none, false⟩, ⟨some 45, .mov (.t 6), some (44, true), false⟩, ⟨some 46, .bin .eql (.t 45) (.c (.int .i64 0)), some (44, true), false⟩, ⟨some 47, .pick (.t 44) (.t 46) (.c (.bool false)), none, false⟩, ⟨some 48, .mov (.t 47), none, false⟩, ⟨some 49, .mov (.t 3), some (48, true), false⟩, ⟨some 50, .bin .eql (.t 49) (.c (.int .i64 0)), some (48, true), false⟩, ⟨some 51, .pick (.t 48) (.t 50) (.c (.bool false)), none, false⟩, ⟨some 52, .mov (.t 51), none, false⟩, ⟨some 53, .mov (.t 5), some (52, true), false⟩, ⟨some 54, .bin .eql (.t 53) (.c (.int .i64 0)), some (52, true), false⟩, ⟨some 55, .pick (.t 52) (.t 54) (.c (.bool false)), none, false⟩, ⟨some 56, .mov (.t 55), none, false⟩, ⟨some 57, .mov (.t 7), some (56, true), false⟩, ⟨some 58, .bin .eql (.t 57) (.c (.int .i64 0)), some (56, true), false⟩, ⟨some 59, .pick (.t 56) (.t 58) (.c (.bool false)), none, false⟩, ⟨some 60, .mov (.t 59), none, false⟩, ⟨some 61, .mov (.t 8), some (60, true), false⟩, ⟨some 62, .len 4 (.t 61), some (60, true), false⟩, ⟨some 63, .bin .eql (.t 62) (.c (.int .i64 2)), some (60, true), false⟩, ⟨some 64, .pick (.t 60) (.t 63) (.c (.bool false)), none, false⟩, ⟨some 65, .mov (.t 64), none, false⟩, ⟨some 66, .mov (.t 8), some (65, true), false⟩, ⟨some 67, .iaddr 4 (.t 66) (.c (.int .i64 0)), some (65, true), false⟩, ⟨some 68, .faddr 1 (.t 67), some (65, true), false⟩, ⟨some 69, .load false 1 (.t 68), some (65, true), false⟩, ⟨some 70, .bin .eql (.t 69) (.c (.int .i64 3)), some (65, true), false⟩, ⟨some 71, .pick (.t 65) (.t 70) (.c (.bool false)), none, false⟩, ⟨some 72, .mov (.t 71), none, false⟩, ⟨some 73, .mov (.t 10), some (72, true), false⟩, ⟨some 74, .pick (.t 72) (.t 73) (.c (.bool false)), none, false⟩, ⟨some 0, .mov (.t 74), none, false⟩] [0]) .ret)))))))
def x9 : XF := ⟨0, b9, [.t 0]⟩
def h9 : Hints := fun id => match id with
  | 1 => [1]
  | 2 => [1, 2, 3]
  | 3 => [1, 2, 3, 4, 5]
  | 4 => [1, 2, 3, 4, 5, 6, 7]
  | 5 => [2, 3, 4, 5, 6, 7, 8, 9]
  | 6 => [2, 3, 4, 5, 6, 7, 8, 10]
  | 7 => [0]
  | _ => []
theorem cv9 : cvF Try.prog h9 Try.f9 = some x9 := by kernel_rfl

/-- winnower/winnowerlaw08.few -/
def b10 : XC := .seq (.reg [⟨some 2, .mov (.c (.bool false)), none, false⟩] [0]) (.seq (.seq (.reg [⟨some 5, .mov (.t 0), none, false⟩, ⟨some 6, .len 4 (.t 5), none, false⟩, ⟨some 7, .bin .gtr (.t 6) (.c (.int .i64 100)), none, false⟩] [0, 7]) (.cond (.t 7) (.seq (.reg [⟨some 2, .mov (.c (.bool false)), none, false⟩] [2]) .ret) .skip)) (.seq (.seq (.reg [⟨some 3, .mov (.c (.int .i64 0)), none, false⟩] [0, 3]) (.block 0 (.loop (.seq (.seq (.reg [⟨some 8, .mov (.t 3), none, false⟩, ⟨some 9, .mov (.t 0), none, false⟩, ⟨some 10, .len 4 (.t 9), none, false⟩, ⟨some 11, .bin .lss (.t 8) (.t 10), none, false⟩] [0, 3, 11]) (.cond (.t 11) .skip (.exit 0))) (.seq (.block 1 (.seq (.reg [⟨some 14, .mov (.t 0), none, false⟩, ⟨some 15, .mov (.t 3), none, false⟩, ⟨some 16, .mov (.t 3), none, false⟩, ⟨some 17, .bin .add (.t 16) (.c (.int .i64 1)), none, false⟩, ⟨some 18, .slc 4 (.t 14) (some (.t 15)) (some (.t 17)) none, none, false⟩, ⟨some 19, .call (.c (.func 28 [] [])) [.t 18], none, false⟩, ⟨some 4, .mov (.t 19), none, false⟩] [0, 3, 4]) (.seq (.reg [⟨some 20, .mov (.t 4), none, false⟩, ⟨some 21, .un .not (.t 20), none, false⟩] [0, 3, 21]) (.cond (.t 21) (.seq (.reg [⟨some 2, .mov (.c (.bool false)), none, false⟩] [2]) .ret) .skip)))) (.reg [⟨some 12, .mov (.t 3), none, false⟩, ⟨some 13, .bin .add (.t 12) (.c (.int .i64 1)), none, false⟩, ⟨some 3, .mov (.t 13), none, false⟩] [0, 3])))))) (.seq (.reg [⟨some 2, .mov (.c (.bool true)), none, false⟩] [2]) .ret)))
def x10 : XF := ⟨1, b10, [.t 2]⟩
def h10 : Hints := fun id => match id with
  | 0 => [0]
  | 1 => [0, 7]
  | 2 => [2]
  | 3 => [0, 3]
  | 4 => [0, 3, 11]
  | 5 => [0, 3]
  | 6 => [0, 3, 4]
  | 7 => [0, 3, 21]
  | 8 => [2]
  | 9 => [2]
  | _ => []
theorem cv10 : cvF Try.prog h10 Try.f10 = some x10 := by kernel_rfl

/-- winnower/dict.New -/
def b11 : XC := .seq (.reg [⟨some 2, .mov (.c .nilp), none, false⟩] [0]) (.seq (.reg [⟨some 3, .mov (.t 0), none, false⟩, ⟨some 4, .mmx true [.t 3, .c (.int .i64 0)], none, false⟩, ⟨some 5, .mmx false [.t 4, .c (.int .i64 4096)], none, false⟩, ⟨some 6, .mkmap none, none, false⟩, ⟨some 7, .build [.int .i64 0, .nils, .nilm] [(0, (1, .t 5)), (2, (1, .t 6))], none, false⟩, ⟨some 8, .box 55 (.t 7), none, false⟩, ⟨some 2, .mov (.t 8), none, false⟩] [2]) .ret)
def x11 : XF := ⟨1, b11, [.t 2]⟩
def h11 : Hints := fun id => match id with
  | 0 => [0]
  | 1 => [2]
  | _ => []
theorem cv11 : cvF Try.prog h11 Try.f11 = some x11 := by kernel_rfl

/-- (*winnower/dict.Dict).Add -/
def b12 : XC := .seq (.reg [⟨some 3, .box 24 (.t 1), none, false⟩, ⟨some 4, .mov (.c (.int .i64 0)), none, false⟩, ⟨some 5, .mov (.c (.int .i64 0)), none, false⟩] [0, 3]) (.seq (.seq (.reg [⟨some 8, .load true 4 (.t 3), none, false⟩, ⟨some 9, .call (.c (.func 29 [] [])) [.t 8], none, false⟩, ⟨some 10, .un .not (.t 9), none, false⟩] [0, 3, 10]) (.cond (.t 10) (.seq (.reg [⟨some 4, .mov (.c (.int .i64 0)), none, false⟩, ⟨some 5, .mov (.c (.int .i64 1)), none, false⟩] [4, 5]) .ret) .skip)) (.seq (.seq (.reg [⟨some 12, .mov (.t 0), none, false⟩, ⟨some 13, .load true 4 (.t 3), none, false⟩, ⟨some 14, .call (.c (.func 15 [] [])) [.t 12, .t 13], none, false⟩, ⟨some 11, .mov (.t 14), none, false⟩, ⟨some 15, .ext (.t 11) 0, none, false⟩, ⟨some 16, .ext (.t 11) 1, none, false⟩, ⟨some 6, .mov (.t 15), none, false⟩, ⟨some 7, .mov (.t 16), none, false⟩] [0, 3, 6, 7]) (.seq (.reg [⟨some 17, .mov (.t 7), none, false⟩] [0, 3, 6, 17]) (.cond (.t 17) (.seq (.reg [⟨some 18, .mov (.t 6), none, false⟩, ⟨some 4, .mov (.t 18), none, false⟩, ⟨some 5, .mov (.c (.int .i64 0)), none, false⟩] [4, 5]) .ret) .skip))) (.seq (.seq (.reg [⟨some 19, .mov (.t 0), none, false⟩, ⟨some 20, .eqk 1 false (.t 19) (.c .nilp), none, false⟩, ⟨some 21, .mov (.t 20), none, false⟩, ⟨some 22, .mov (.t 0), some (21, false), false⟩, ⟨some 23, .nilck (.t 22), some (21, false), false⟩, ⟨some 24, .faddr 1 (.t 23), some (21, false), false⟩, ⟨some 25, .load false 1 (.t 24), some (21, false), false⟩, ⟨some 26, .len 4 (.t 25), some (21, false), false⟩, ⟨some 27, .mov (.t 0), some (21, false), false⟩, ⟨some 28, .nilck (.t 27), some (21, false), false⟩, ⟨some 29, .faddr 0 (.t 28), some (21, false), false⟩, ⟨some 30, .load false 1 (.t 29), some (21, false), false⟩, ⟨some 31, .bin .geq (.t 26) (.t 30), some (21, false), false⟩, ⟨some 32, .pick (.t 21) (.c (.bool true)) (.t 31), none, false⟩] [0, 3, 32]) (.cond (.t 32) (.seq (.reg [⟨some 4, .mov (.c (.int .i64 0)), none, false⟩, ⟨some 5, .mov (.c (.int .i64 4)), none, false⟩] [4, 5]) .ret) .skip)) (.seq (.reg [⟨some 33, .mov (.t 0), none, false⟩, ⟨some 34, .nilck (.t 33), none, false⟩, ⟨some 35, .faddr 2 (.t 34), none, false⟩, ⟨some 36, .load false 1 (.t 35), none, false⟩, ⟨some 37, .load true 4 (.t 3), none, false⟩, ⟨some 38, .mov (.t 0), none, false⟩, ⟨some 39, .nilck (.t 38), none, false⟩, ⟨some 40, .faddr 1 (.t 39), none, false⟩, ⟨some 41, .load false 1 (.t 40), none, false⟩, ⟨some 42, .len 4 (.t 41), none, false⟩, ⟨none, .mset true [1, 1, 2, 0] (.t 36) (.t 37) (.t 42), none, false⟩] [0, 3]) (.seq (.reg [⟨some 43, .mov (.t 0), none, false⟩, ⟨some 44, .mov (.t 0), none, false⟩, ⟨some 45, .nilck (.t 44), none, false⟩, ⟨some 46, .faddr 1 (.t 45), none, false⟩, ⟨some 47, .load false 1 (.t 46), none, false⟩, ⟨some 48, .load true 4 (.t 3), none, false⟩, ⟨some 49, .mkslice true 24 4 [.t 48], none, true⟩, ⟨some 50, .app 24 4 40 (.t 47) (.t 49), none, false⟩, ⟨some 51, .nilck (.t 43), none, false⟩, ⟨some 52, .faddr 1 (.t 51), none, false⟩, ⟨none, .store 1 (.t 52) (.t 50), none, false⟩] [0]) (.seq (.reg [⟨some 53, .mov (.t 0), none, false⟩, ⟨some 54, .nilck (.t 53), none, false⟩, ⟨some 55, .faddr 1 (.t 54), none, false⟩, ⟨some 56, .load false 1 (.t 55), none, false⟩, ⟨some 57, .len 4 (.t 56), none, false⟩, ⟨some 58, .bin .sub (.t 57) (.c (.int .i64 1)), none, false⟩, ⟨some 4, .mov (.t 58), none, false⟩, ⟨some 5, .mov (.c (.int .i64 0)), none, false⟩] [4, 5]) .ret))))))
def x12 : XF := ⟨2, b12, [.t 4, .t 5]⟩
def h12 : Hints := fun id => match id with
  | 0 => [0, 3]
  | 1 => [0, 3, 10]
  | 2 => [4, 5]
  | 3 => [0, 3, 6, 7]
  | 4 => [0, 3, 6, 17]
  | 5 => [4, 5]
  | 6 => [0, 3, 32]
  | 7 => [4, 5]
  | 8 => [0, 3]
  | 9 => [0]
  | 10 => [4, 5]
  | _ => []
theorem cv12 : cvF Try.prog h12 Try.f12 = some x12 := by kernel_rfl

/-- winnower/winnowerref08.Add -/
def b13 : XC := .seq (.reg [⟨some 5, .box 24 (.t 2), none, false⟩, ⟨some 6, .mov (.c .nils), none, false⟩, ⟨some 7, .mov (.c (.int .i64 0)), none, false⟩, ⟨some 8, .mov (.c (.int .i64 0)), none, false⟩] [0, 1, 5]) (.seq (.reg [⟨some 12, .load true 4 (.t 5), none, false⟩, ⟨some 13, .call (.c (.func 22 [] [])) [.t 12], none, false⟩, ⟨some 9, .mov (.t 13), none, false⟩] [0, 1, 5, 9]) (.seq (.seq (.reg [⟨some 14, .mov (.t 9), none, false⟩, ⟨some 15, .un .not (.t 14), none, false⟩] [0, 1, 5, 15]) (.cond (.t 15) (.seq (.reg [⟨some 16, .mov (.t 0), none, false⟩, ⟨some 6, .mov (.t 16), none, false⟩, ⟨some 7, .mov (.c (.int .i64 0)), none, false⟩, ⟨some 8, .mov (.c (.int .i64 1)), none, false⟩] [6, 7, 8]) .ret) .skip)) (.seq (.reg [⟨some 17, .mov (.t 0), none, false⟩, ⟨some 18, .load true 4 (.t 5), none, false⟩, ⟨some 19, .call (.c (.func 16 [] [])) [.t 17, .t 18], none, false⟩, ⟨some 10, .mov (.t 19), none, false⟩] [0, 1, 5, 10]) (.seq (.seq (.reg [⟨some 20, .mov (.t 10), none, false⟩, ⟨some 21, .bin .geq (.t 20) (.c (.int .i64 0)), none, false⟩] [0, 1, 5, 10, 21]) (.cond (.t 21) (.seq (.reg [⟨some 22, .mov (.t 0), none, false⟩, ⟨some 23, .mov (.t 10), none, false⟩, ⟨some 6, .mov (.t 22), none, false⟩, ⟨some 7, .mov (.t 23), none, false⟩, ⟨some 8, .mov (.c (.int .i64 0)), none, false⟩] [6, 7, 8]) .ret) .skip)) (.seq (.seq (.reg [⟨some 24, .mov (.t 0), none, false⟩, ⟨some 25, .len 4 (.t 24), none, false⟩, ⟨some 26, .mov (.t 1), none, false⟩, ⟨some 27, .bin .geq (.t 25) (.t 26), none, false⟩, ⟨some 28, .mov (.t 27), none, false⟩, ⟨some 29, .mov (.t 0), some (28, false), false⟩, ⟨some 30, .len 4 (.t 29), some (28, false), false⟩, ⟨some 31, .bin .geq (.t 30) (.c (.int .i64 4096)), some (28, false), false⟩, ⟨some 32, .pick (.t 28) (.c (.bool true)) (.t 31), none, false⟩] [0, 5, 32]) (.cond (.t 32) (.seq (.reg [⟨some 33, .mov (.t 0), none, false⟩, ⟨some 6, .mov (.t 33), none, false⟩, ⟨some 7, .mov (.c (.int .i64 0)), none, false⟩, ⟨some 8, .mov (.c (.int .i64 4)), none, false⟩] [6, 7, 8]) .ret) .skip)) (.seq (.reg [⟨some 34, .mov (.t 0), none, false⟩, ⟨some 35, .app 24 4 40 (.c .nils) (.t 34), none, false⟩, ⟨some 11, .mov (.t 35), none, false⟩] [0, 5, 11]) (.seq (.reg [⟨some 36, .mov (.t 11), none, false⟩, ⟨some 37, .load true 4 (.t 5), none, false⟩, ⟨some 38, .mkslice true 24 4 [.t 37], none, false⟩, ⟨some 39, .app 24 4 40 (.t 36) (.t 38), none, false⟩, ⟨some 40, .mov (.t 0), none, false⟩, ⟨some 41, .len 4 (.t 40), none, false⟩, ⟨some 6, .mov (.t 39), none, false⟩, ⟨some 7, .mov (.t 41), none, false⟩, ⟨some 8, .mov (.c (.int .i64 0)), none, false⟩] [6, 7, 8]) .ret)))))))
def x13 : XF := ⟨3, b13, [.t 6, .t 7, .t 8]⟩
def h13 : Hints := fun id => match id with
  | 0 => [0, 1, 5]
  | 1 => [0, 1, 5, 9]
  | 2 => [0, 1, 5, 15]
  | 3 => [6, 7, 8]
  | 4 => [0, 1, 5, 10]
  | 5 => [0, 1, 5, 10, 21]
  | 6 => [6, 7, 8]
  | 7 => [0, 5, 32]
  | 8 => [6, 7, 8]
  | 9 => [0, 5, 11]
  | 10 => [6, 7, 8]
  | _ => []
theorem cv13 : cvF Try.prog h13 Try.f13 = some x13 := by kernel_rfl

/-- (*winnower/dict.Dict).Len -/
def b14 : XC := .seq (.reg [⟨some 2, .mov (.c (.int .i64 0)), none, false⟩] [0]) (.seq (.seq (.reg [⟨some 3, .mov (.t 0), none, false⟩, ⟨some 4, .eqk 1 false (.t 3) (.c .nilp), none, false⟩] [0, 4]) (.cond (.t 4) (.seq (.reg [⟨some 2, .mov (.c (.int .i64 0)), none, false⟩] [2]) .ret) .skip)) (.seq (.reg [⟨some 5, .mov (.t 0), none, false⟩, ⟨some 6, .nilck (.t 5), none, false⟩, ⟨some 7, .faddr 1 (.t 6), none, false⟩, ⟨some 8, .load false 1 (.t 7), none, false⟩, ⟨some 9, .len 4 (.t 8), none, false⟩, ⟨some 2, .mov (.t 9), none, false⟩] [2]) .ret))
def x14 : XF := ⟨1, b14, [.t 2]⟩
def h14 : Hints := fun id => match id with
  | 0 => [0]
  | 1 => [0, 4]
  | 2 => [2]
  | 3 => [2]
  | _ => []
theorem cv14 : cvF Try.prog h14 Try.f14 = some x14 := by kernel_rfl

/-- (*winnower/dict.Dict).Find -/
def b15 : XC := .seq (.reg [⟨some 3, .box 24 (.t 1), none, false⟩, ⟨some 4, .mov (.c (.int .i64 0)), none, false⟩, ⟨some 5, .mov (.c (.bool false)), none, false⟩] [0, 3]) (.seq (.seq (.reg [⟨some 8, .mov (.t 0), none, false⟩, ⟨some 9, .eqk 1 false (.t 8) (.c .nilp), none, false⟩] [0, 3, 9]) (.cond (.t 9) (.seq (.reg [⟨some 4, .mov (.c (.int .i64 0)), none, false⟩, ⟨some 5, .mov (.c (.bool false)), none, false⟩] [4, 5]) .ret) .skip)) (.seq (.reg [⟨some 11, .mov (.t 0), none, false⟩, ⟨some 12, .nilck (.t 11), none, false⟩, ⟨some 13, .faddr 2 (.t 12), none, false⟩, ⟨some 14, .load false 1 (.t 13), none, false⟩, ⟨some 15, .load true 4 (.t 3), none, false⟩, ⟨some 16, .mget true [1, 1, 2, 0] (.int .i64 0) true (.t 14) (.t 15), none, false⟩, ⟨some 10, .mov (.t 16), none, false⟩, ⟨some 17, .ext (.t 10) 0, none, false⟩, ⟨some 18, .ext (.t 10) 1, none, false⟩, ⟨some 6, .mov (.t 17), none, false⟩, ⟨some 7, .mov (.t 18), none, false⟩] [6, 7]) (.seq (.reg [⟨some 19, .mov (.t 6), none, false⟩, ⟨some 20, .mov (.t 7), none, false⟩, ⟨some 4, .mov (.t 19), none, false⟩, ⟨some 5, .mov (.t 20), none, false⟩] [4, 5]) .ret)))
def x15 : XF := ⟨2, b15, [.t 4, .t 5]⟩
def h15 : Hints := fun id => match id with
  | 0 => [0, 3]
  | 1 => [0, 3, 9]
  | 2 => [4, 5]
  | 3 => [6, 7]
  | 4 => [4, 5]
  | _ => []
theorem cv15 : cvF Try.prog h15 Try.f15 = some x15 := by kernel_rfl

/-- winnower/winnowerref08.Find -/
def b16 : XC := .seq (.reg [⟨some 3, .box 24 (.t 1), none, false⟩, ⟨some 4, .mov (.c (.int .i64 0)), none, false⟩] [0, 3]) (.seq (.seq (.reg [⟨some 5, .mov (.c (.int .i64 0)), none, false⟩] [0, 3, 5]) (.block 0 (.loop (.seq (.seq (.reg [⟨some 6, .mov (.t 5), none, false⟩, ⟨some 7, .mov (.t 0), none, false⟩, ⟨some 8, .len 4 (.t 7), none, false⟩, ⟨some 9, .bin .lss (.t 6) (.t 8), none, false⟩] [0, 3, 5, 9]) (.cond (.t 9) .skip (.exit 0))) (.seq (.block 1 (.seq (.reg [⟨some 12, .mov (.t 0), none, false⟩, ⟨some 13, .mov (.t 5), none, false⟩, ⟨some 14, .iaddr 4 (.t 12) (.t 13), none, false⟩, ⟨some 15, .load true 4 (.t 14), none, false⟩, ⟨some 16, .load true 4 (.t 3), none, false⟩, ⟨some 17, .eqa [1, 1, 2, 0] false (.t 15) (.t 16), none, false⟩] [0, 3, 5, 17]) (.cond (.t 17) (.seq (.reg [⟨some 18, .mov (.t 5), none, false⟩, ⟨some 4, .mov (.t 18), none, false⟩] [4]) .ret) .skip))) (.reg [⟨some 10, .mov (.t 5), none, false⟩, ⟨some 11, .bin .add (.t 10) (.c (.int .i64 1)), none, false⟩, ⟨some 5, .mov (.t 11), none, false⟩] [0, 3, 5])))))) (.seq (.reg [⟨some 4, .mov (.c (.int .i64 (-1))), none, false⟩] [4]) .ret))
def x16 : XF := ⟨2, b16, [.t 4]⟩
def h16 : Hints := fun id => match id with
  | 0 => [0, 3]
  | 1 => [0, 3, 5]
  | 2 => [0, 3, 5, 9]
  | 3 => [0, 3, 5]
  | 4 => [0, 3, 5, 17]
  | 5 => [4]
  | 6 => [4]
  | _ => []
theorem cv16 : cvF Try.prog h16 Try.f16 = some x16 := by kernel_rfl

/-- (*winnower/dict.Dict).At -/
def b17 : XC := .seq (.reg [⟨some 4, .alloc 24 [.int .i64 0, .int .i64 0, .str ⟨#[]⟩, .bool false], none, false⟩, ⟨some 5, .mov (.c (.bool false)), none, false⟩] [0, 1, 4]) (.seq (.seq (.reg [⟨some 6, .mov (.t 1), none, false⟩, ⟨some 7, .bin .lss (.t 6) (.c (.int .i64 0)), none, false⟩, ⟨some 8, .mov (.t 7), none, false⟩, ⟨some 9, .mov (.t 1), some (8, false), false⟩, ⟨some 10, .mov (.t 0), some (8, false), false⟩, ⟨some 11, .call (.c (.func 14 [] [])) [.t 10], some (8, false), false⟩, ⟨some 12, .bin .geq (.t 9) (.t 11), some (8, false), false⟩, ⟨some 13, .pick (.t 8) (.c (.bool true)) (.t 12), none, false⟩] [0, 1, 4, 13]) (.cond (.t 13) (.seq (.reg [⟨some 14, .build [.int .i64 0, .int .i64 0, .str ⟨#[]⟩, .bool false] [], none, false⟩, ⟨none, .store 4 (.t 4) (.t 14), none, false⟩, ⟨some 5, .mov (.c (.bool false)), none, false⟩] [4, 5]) .ret) .skip)) (.seq (.reg [⟨some 15, .mov (.t 0), none, false⟩, ⟨some 16, .nilck (.t 15), none, false⟩, ⟨some 17, .faddr 1 (.t 16), none, false⟩, ⟨some 18, .load false 1 (.t 17), none, false⟩, ⟨some 19, .mov (.t 1), none, false⟩, ⟨some 20, .iaddr 4 (.t 18) (.t 19), none, false⟩, ⟨some 21, .load true 4 (.t 20), none, false⟩, ⟨none, .store 4 (.t 4) (.t 21), none, false⟩, ⟨some 5, .mov (.c (.bool true)), none, false⟩] [4, 5]) .ret))
def x17 : XF := ⟨2, b17, [.cell 4 true 4, .t 5]⟩
def h17 : Hints := fun id => match id with
  | 0 => [0, 1, 4]
  | 1 => [0, 1, 4, 13]
  | 2 => [4, 5]
  | 3 => [4, 5]
  | _ => []
theorem cv17 : cvF Try.prog h17 Try.f17 = some x17 := by kernel_rfl

/-- (*winnower/dict.Dict).Sorted -/
def b18 : XC := .seq (.reg [⟨some 2, .mov (.c .nils), none, false⟩, ⟨some 3, .mov (.c .nils), none, false⟩] [0]) (.seq (.seq (.reg [⟨some 10, .mov (.t 0), none, false⟩, ⟨some 11, .call (.c (.func 14 [] [])) [.t 10], none, false⟩, ⟨some 12, .bin .eql (.t 11) (.c (.int .i64 0)), none, false⟩] [0, 12]) (.cond (.t 12) (.seq (.reg [⟨some 2, .mov (.c .nils), none, false⟩, ⟨some 3, .mov (.c .nils), none, false⟩] [2, 3]) .ret) .skip)) (.seq (.reg [⟨some 13, .mov (.t 0), none, false⟩, ⟨some 14, .nilck (.t 13), none, false⟩, ⟨some 15, .faddr 1 (.t 14), none, false⟩, ⟨some 16, .load false 1 (.t 15), none, false⟩, ⟨some 17, .call (.c (.func 30 [] [])) [.t 16], none, false⟩, ⟨some 4, .mov (.t 17), none, false⟩] [0, 4]) (.seq (.reg [⟨some 18, .mov (.t 4), none, false⟩, ⟨some 19, .call (.c (.func 31 [] [])) [.t 18, .c (.func 32 [] [])], none, false⟩] [0, 4]) (.seq (.reg [⟨some 5, .mov (.c .nils), none, false⟩] [0, 4, 5]) (.seq (.seq (.reg [⟨some 20, .mov (.t 0), none, false⟩, ⟨some 21, .nilck (.t 20), none, false⟩, ⟨some 22, .faddr 1 (.t 21), none, false⟩, ⟨some 23, .load false 1 (.t 22), none, false⟩, ⟨some 24, .len 4 (.t 23), none, false⟩, ⟨some 25, .mov (.c (.int .i64 0)), none, false⟩] [4, 5, 23, 24, 25]) (.block 0 (.loop (.seq (.reg [⟨some 26, .bin .lss (.t 25) (.t 24), none, false⟩] [4, 5, 23, 24, 25, 26]) (.seq (.cond (.t 26) .skip (.exit 0)) (.seq (.block 1 (.seq (.reg [⟨some 27, .iaddr 4 (.t 23) (.t 25), none, false⟩, ⟨some 28, .load true 4 (.t 27), none, false⟩, ⟨some 7, .alloc 24 [.int .i64 0, .int .i64 0, .str ⟨#[]⟩, .bool false], none, false⟩, ⟨none, .store 4 (.t 7) (.t 28), none, false⟩] [4, 5, 7, 23, 24, 25]) (.seq (.reg [⟨some 30, .mov (.t 4), none, false⟩, ⟨some 31, .load true 4 (.t 7), none, false⟩, ⟨some 32, .call (.c (.func 33 [] [])) [.t 30, .t 31], none, false⟩, ⟨some 29, .mov (.t 32), none, false⟩, ⟨some 33, .ext (.t 29) 0, none, false⟩, ⟨some 34, .ext (.t 29) 1, none, false⟩, ⟨some 8, .mov (.t 33), none, false⟩, ⟨some 9, .mov (.t 34), none, false⟩] [4, 5, 8, 23, 24, 25]) (.reg [⟨some 35, .mov (.t 5), none, false⟩, ⟨some 36, .mov (.t 8), none, false⟩, ⟨some 37, .mkslice true 3 1 [.t 36], none, false⟩, ⟨some 38, .app 3 1 8 (.t 35) (.t 37), none, false⟩, ⟨some 5, .mov (.t 38), none, false⟩] [4, 5, 23, 24, 25])))) (.reg [⟨some 39, .bin .add (.t 25) (.c (.int .i64 1)), none, false⟩, ⟨some 25, .mov (.t 39), none, false⟩] [4, 5, 23, 24, 25]))))))) (.seq (.reg [⟨some 40, .mov (.t 4), none, false⟩, ⟨some 41, .mov (.t 5), none, false⟩, ⟨some 2, .mov (.t 40), none, false⟩, ⟨some 3, .mov (.t 41), none, false⟩] [2, 3]) .ret))))))
def x18 : XF := ⟨1, b18, [.t 2, .t 3]⟩
def h18 : Hints := fun id => match id with
  | 0 => [0]
  | 1 => [0, 12]
  | 2 => [2, 3]
  | 3 => [0, 4]
  | 4 => [0, 4]
  | 5 => [0, 4, 5]
  | 6 => [4, 5, 23, 24, 25]
  | 7 => [4, 5, 23, 24, 25, 26]
  | 8 => [4, 5, 7, 23, 24, 25]
  | 9 => [4, 5, 8, 23, 24, 25]
  | 10 => [4, 5, 23, 24, 25]
  | 11 => [4, 5, 23, 24, 25]
  | 12 => [2, 3]
  | _ => []
theorem cv18 : cvF Try.prog h18 Try.f18 = some x18 := by kernel_rfl

/-- winnower/winnowerref08.Sorted -/
def b19 : XC := .seq (.reg [⟨some 2, .mov (.c .nils), none, false⟩, ⟨some 3, .mov (.c .nils), none, false⟩] [0]) (.seq (.reg [⟨some 7, .mov (.t 0), none, false⟩, ⟨some 8, .len 4 (.t 7), none, false⟩, ⟨some 9, .make 24 4 40 (.agg [.int .i64 0, .int .i64 0, .str ⟨#[]⟩, .bool false]) (.t 8) (.t 8), none, false⟩, ⟨some 4, .mov (.t 9), none, false⟩] [0, 4]) (.seq (.reg [⟨some 10, .mov (.t 0), none, false⟩, ⟨some 11, .len 4 (.t 10), none, false⟩, ⟨some 12, .make 3 1 8 (.int .i64 0) (.t 11) (.t 11), none, false⟩, ⟨some 5, .mov (.t 12), none, false⟩] [0, 4, 5]) (.seq (.seq (.reg [⟨some 6, .mov (.c (.int .i64 0)), none, false⟩] [0, 4, 5, 6]) (.block 0 (.loop (.seq (.seq (.reg [⟨some 13, .mov (.t 6), none, false⟩, ⟨some 14, .mov (.t 0), none, false⟩, ⟨some 15, .len 4 (.t 14), none, false⟩, ⟨some 16, .bin .lss (.t 13) (.t 15), none, false⟩] [0, 4, 5, 6, 16]) (.cond (.t 16) .skip (.exit 0))) (.seq (.block 1 (.seq (.reg [⟨some 19, .mov (.t 5), none, false⟩, ⟨some 20, .mov (.t 6), none, false⟩, ⟨some 21, .mov (.t 0), none, false⟩, ⟨some 22, .mov (.t 0), none, false⟩, ⟨some 23, .mov (.t 6), none, false⟩, ⟨some 24, .iaddr 4 (.t 22) (.t 23), none, false⟩, ⟨some 25, .load true 4 (.t 24), none, false⟩, ⟨some 26, .call (.c (.func 34 [] [])) [.t 21, .t 25], none, false⟩, ⟨some 27, .iaddr 1 (.t 19) (.t 20), none, false⟩, ⟨none, .store 1 (.t 27) (.t 26), none, false⟩] [0, 4, 5, 6]) (.reg [⟨some 28, .mov (.t 4), none, false⟩, ⟨some 29, .mov (.t 5), none, false⟩, ⟨some 30, .mov (.t 6), none, false⟩, ⟨some 31, .iaddr 1 (.t 29) (.t 30), none, false⟩, ⟨some 32, .load false 1 (.t 31), none, false⟩, ⟨some 33, .mov (.t 0), none, false⟩, ⟨some 34, .mov (.t 6), none, false⟩, ⟨some 35, .iaddr 4 (.t 33) (.t 34), none, false⟩, ⟨some 36, .load true 4 (.t 35), none, false⟩, ⟨some 37, .iaddr 4 (.t 28) (.t 32), none, false⟩, ⟨none, .store 4 (.t 37) (.t 36), none, false⟩] [0, 4, 5, 6]))) (.reg [⟨some 17, .mov (.t 6), none, false⟩, ⟨some 18, .bin .add (.t 17) (.c (.int .i64 1)), none, false⟩, ⟨some 6, .mov (.t 18), none, false⟩] [0, 4, 5, 6])))))) (.seq (.reg [⟨some 38, .mov (.t 4), none, false⟩, ⟨some 39, .mov (.t 5), none, false⟩, ⟨some 2, .mov (.t 38), none, false⟩, ⟨some 3, .mov (.t 39), none, false⟩] [2, 3]) .ret))))
def x19 : XF := ⟨1, b19, [.t 2, .t 3]⟩
def h19 : Hints := fun id => match id with
  | 0 => [0]
  | 1 => [0, 4]
  | 2 => [0, 4, 5]
  | 3 => [0, 4, 5, 6]
  | 4 => [0, 4, 5, 6, 16]
  | 5 => [0, 4, 5, 6]
  | 6 => [0, 4, 5, 6]
  | 7 => [0, 4, 5, 6]
  | 8 => [2, 3]
  | _ => []
theorem cv19 : cvF Try.prog h19 Try.f19 = some x19 := by kernel_rfl

/-- winnower/winnowerref06.Same -/
def b20 : XC := .seq (.reg [⟨some 4, .mov (.c (.bool false)), none, false⟩] [0, 1]) (.seq (.seq (.reg [⟨some 6, .mov (.t 0), none, false⟩, ⟨some 7, .len 4 (.t 6), none, false⟩, ⟨some 8, .mov (.t 1), none, false⟩, ⟨some 9, .len 4 (.t 8), none, false⟩, ⟨some 10, .bin .neq (.t 7) (.t 9), none, false⟩] [0, 1, 10]) (.cond (.t 10) (.seq (.reg [⟨some 4, .mov (.c (.bool false)), none, false⟩] [4]) .ret) .skip)) (.seq (.seq (.reg [⟨some 5, .mov (.c (.int .i64 0)), none, false⟩] [0, 1, 5]) (.block 0 (.loop (.seq (.seq (.reg [⟨some 11, .mov (.t 5), none, false⟩, ⟨some 12, .mov (.t 0), none, false⟩, ⟨some 13, .len 4 (.t 12), none, false⟩, ⟨some 14, .bin .lss (.t 11) (.t 13), none, false⟩] [0, 1, 5, 14]) (.cond (.t 14) .skip (.exit 0))) (.seq (.block 1 (.seq (.reg [⟨some 17, .mov (.t 0), none, false⟩, ⟨some 18, .mov (.t 5), none, false⟩, ⟨some 19, .iaddr 4 (.t 17) (.t 18), none, false⟩, ⟨some 20, .load true 4 (.t 19), none, false⟩, ⟨some 21, .mov (.t 1), none, false⟩, ⟨some 22, .mov (.t 5), none, false⟩, ⟨some 23, .iaddr 4 (.t 21) (.t 22), none, false⟩, ⟨some 24, .load true 4 (.t 23), none, false⟩, ⟨some 25, .eqa [1, 1, 2, 0] true (.t 20) (.t 24), none, false⟩] [0, 1, 5, 25]) (.cond (.t 25) (.seq (.reg [⟨some 4, .mov (.c (.bool false)), none, false⟩] [4]) .ret) .skip))) (.reg [⟨some 15, .mov (.t 5), none, false⟩, ⟨some 16, .bin .add (.t 15) (.c (.int .i64 1)), none, false⟩, ⟨some 5, .mov (.t 16), none, false⟩] [0, 1, 5])))))) (.seq (.reg [⟨some 4, .mov (.c (.bool true)), none, false⟩] [4]) .ret)))
def x20 : XF := ⟨2, b20, [.t 4]⟩
def h20 : Hints := fun id => match id with
  | 0 => [0, 1]
  | 1 => [0, 1, 10]
  | 2 => [4]
  | 3 => [0, 1, 5]
  | 4 => [0, 1, 5, 14]
  | 5 => [0, 1, 5]
  | 6 => [0, 1, 5, 25]
  | 7 => [4]
  | 8 => [4]
  | _ => []
theorem cv20 : cvF Try.prog h20 Try.f20 = some x20 := by kernel_rfl

/-- winnower/winnowerref01.Ints -/
def b21 : XC := .seq (.reg [⟨some 4, .mov (.c (.bool false)), none, false⟩] [0, 1]) (.seq (.seq (.reg [⟨some 6, .mov (.t 0), none, false⟩, ⟨some 7, .len 1 (.t 6), none, false⟩, ⟨some 8, .mov (.t 1), none, false⟩, ⟨some 9, .len 1 (.t 8), none, false⟩, ⟨some 10, .bin .neq (.t 7) (.t 9), none, false⟩] [0, 1, 10]) (.cond (.t 10) (.seq (.reg [⟨some 4, .mov (.c (.bool false)), none, false⟩] [4]) .ret) .skip)) (.seq (.seq (.reg [⟨some 5, .mov (.c (.int .i64 0)), none, false⟩] [0, 1, 5]) (.block 0 (.loop (.seq (.seq (.reg [⟨some 11, .mov (.t 5), none, false⟩, ⟨some 12, .mov (.t 0), none, false⟩, ⟨some 13, .len 1 (.t 12), none, false⟩, ⟨some 14, .bin .lss (.t 11) (.t 13), none, false⟩] [0, 1, 5, 14]) (.cond (.t 14) .skip (.exit 0))) (.seq (.block 1 (.seq (.reg [⟨some 17, .mov (.t 0), none, false⟩, ⟨some 18, .mov (.t 5), none, false⟩, ⟨some 19, .iaddr 1 (.t 17) (.t 18), none, false⟩, ⟨some 20, .load false 1 (.t 19), none, false⟩, ⟨some 21, .mov (.t 1), none, false⟩, ⟨some 22, .mov (.t 5), none, false⟩, ⟨some 23, .iaddr 1 (.t 21) (.t 22), none, false⟩, ⟨some 24, .load false 1 (.t 23), none, false⟩, ⟨some 25, .bin .neq (.t 20) (.t 24), none, false⟩] [0, 1, 5, 25]) (.cond (.t 25) (.seq (.reg [⟨some 4, .mov (.c (.bool false)), none, false⟩] [4]) .ret) .skip))) (.reg [⟨some 15, .mov (.t 5), none, false⟩, ⟨some 16, .bin .add (.t 15) (.c (.int .i64 1)), none, false⟩, ⟨some 5, .mov (.t 16), none, false⟩] [0, 1, 5])))))) (.seq (.reg [⟨some 4, .mov (.c (.bool true)), none, false⟩] [4]) .ret)))
def x21 : XF := ⟨2, b21, [.t 4]⟩
def h21 : Hints := fun id => match id with
  | 0 => [0, 1]
  | 1 => [0, 1, 10]
  | 2 => [4]
  | 3 => [0, 1, 5]
  | 4 => [0, 1, 5, 14]
  | 5 => [0, 1, 5]
  | 6 => [0, 1, 5, 25]
  | 7 => [4]
  | 8 => [4]
  | _ => []
theorem cv21 : cvF Try.prog h21 Try.f21 = some x21 := by kernel_rfl

/-- winnower/winnowerref06.May -/
def b22 : XC := .seq (.reg [⟨some 1, .box 24 (.t 0), none, false⟩, ⟨some 2, .mov (.c (.bool false)), none, false⟩] [1]) (.seq (.reg [⟨some 6, .faddr 1 (.t 1), none, false⟩, ⟨some 7, .load false 1 (.t 6), none, false⟩, ⟨some 8, .bin .eql (.t 7) (.c (.int .i64 0)), none, false⟩, ⟨some 3, .mov (.t 8), none, false⟩] [1, 3]) (.seq (.reg [⟨some 9, .faddr 2 (.t 1), none, false⟩, ⟨some 10, .load false 1 (.t 9), none, false⟩, ⟨some 11, .bin .eql (.t 10) (.c (.str ⟨#[]⟩)), none, false⟩, ⟨some 4, .mov (.t 11), none, false⟩] [1, 3, 4]) (.seq (.reg [⟨some 12, .faddr 3 (.t 1), none, false⟩, ⟨some 13, .load false 1 (.t 12), none, false⟩, ⟨some 14, .un .not (.t 13), none, false⟩, ⟨some 5, .mov (.t 14), none, false⟩] [1, 3, 4, 5]) (.seq (.seq (.reg [⟨some 15, .faddr 0 (.t 1), none, false⟩, ⟨some 16, .load false 1 (.t 15), none, false⟩] [1, 3, 4, 5, 16]) (.block 0 (.seq (.reg [⟨some 18, .bin .eql (.t 16) (.c (.int .i64 0)), none, false⟩, ⟨some 17, .mov (.t 18), none, false⟩] [1, 3, 4, 5, 16, 17]) (.cond (.t 17) (.seq (.reg [⟨some 19, .mov (.t 3), none, false⟩, ⟨some 20, .mov (.t 19), none, false⟩, ⟨some 21, .mov (.t 4), some (20, true), false⟩, ⟨some 22, .pick (.t 20) (.t 21) (.c (.bool false)), none, false⟩, ⟨some 23, .mov (.t 22), none, false⟩, ⟨some 24, .mov (.t 5), some (23, true), false⟩, ⟨some 25, .pick (.t 23) (.t 24) (.c (.bool false)), none, false⟩, ⟨some 2, .mov (.t 25), none, false⟩] [2]) .ret) (.seq (.reg [⟨some 27, .bin .eql (.t 16) (.c (.int .i64 1)), none, false⟩, ⟨some 26, .mov (.t 27), none, false⟩] [1, 3, 4, 5, 16, 26]) (.cond (.t 26) (.seq (.reg [⟨some 28, .mov (.t 4), none, false⟩, ⟨some 29, .mov (.t 28), none, false⟩, ⟨some 30, .mov (.t 5), some (29, true), false⟩, ⟨some 31, .pick (.t 29) (.t 30) (.c (.bool false)), none, false⟩, ⟨some 2, .mov (.t 31), none, false⟩] [2]) .ret) (.seq (.reg [⟨some 33, .bin .eql (.t 16) (.c (.int .i64 2)), none, false⟩, ⟨some 32, .mov (.t 33), none, false⟩] [1, 3, 4, 5, 16, 32]) (.cond (.t 32) (.seq (.reg [⟨some 34, .mov (.t 3), none, false⟩, ⟨some 35, .mov (.t 34), none, false⟩, ⟨some 36, .mov (.t 5), some (35, true), false⟩, ⟨some 37, .pick (.t 35) (.t 36) (.c (.bool false)), none, false⟩, ⟨some 38, .mov (.t 37), none, false⟩, ⟨some 39, .faddr 2 (.t 1), some (38, true), false⟩, ⟨some 40, .load false 1 (.t 39), some (38, true), false⟩, ⟨some 41, .lens (.t 40), some (38, true), false⟩, ⟨some 42, .bin .leq (.t 41) (.c (.int .i64 64)), some (38, true), false⟩, ⟨some 43, .pick (.t 38) (.t 42) (.c (.bool false)), none, false⟩, ⟨some 2, .mov (.t 43), none, false⟩] [2]) .ret) (.seq (.reg [⟨some 45, .bin .eql (.t 16) (.c (.int .i64 3)), none, false⟩, ⟨some 44, .mov (.t 45), none, false⟩] [3, 4, 44]) (.cond (.t 44) (.seq (.reg [⟨some 46, .mov (.t 3), none, false⟩, ⟨some 47, .mov (.t 46), none, false⟩, ⟨some 48, .mov (.t 4), some (47, true), false⟩, ⟨some 49, .pick (.t 47) (.t 48) (.c (.bool false)), none, false⟩, ⟨some 2, .mov (.t 49), none, false⟩] [2]) .ret) .skip)))))))))) (.seq (.reg [⟨some 2, .mov (.c (.bool false)), none, false⟩] [2]) .ret)))))
def x22 : XF := ⟨1, b22, [.t 2]⟩
def h22 : Hints := fun id => match id with
  | 0 => [1]
  | 1 => [1, 3]
  | 2 => [1, 3, 4]
  | 3 => [1, 3, 4, 5]
  | 4 => [1, 3, 4, 5, 16]
  | 5 => [1, 3, 4, 5, 16, 17]
  | 6 => [2]
  | 7 => [1, 3, 4, 5, 16, 26]
  | 8 => [2]
  | 9 => [1, 3, 4, 5, 16, 32]
  | 10 => [2]
  | 11 => [3, 4, 44]
  | 12 => [2]
  | 13 => [2]
  | _ => []
theorem cv22 : cvF Try.prog h22 Try.f22 = some x22 := by kernel_rfl

/-- winnower/dict.Search -/
def b23 : XC := .seq (.reg [⟨some 3, .box 24 (.t 1), none, false⟩, ⟨some 4, .mov (.c (.int .i64 0)), none, false⟩, ⟨some 5, .mov (.c (.bool false)), none, false⟩] [0, 3]) (.seq (.seq (.reg [⟨some 6, .mov (.t 0), none, false⟩, ⟨some 7, .call (.c (.func 25 [] [])) [.t 6], none, false⟩, ⟨some 8, .un .not (.t 7), none, false⟩, ⟨some 9, .mov (.t 8), none, false⟩, ⟨some 10, .load true 4 (.t 3), some (9, false), false⟩, ⟨some 11, .call (.c (.func 29 [] [])) [.t 10], some (9, false), false⟩, ⟨some 12, .un .not (.t 11), some (9, false), false⟩, ⟨some 13, .pick (.t 9) (.c (.bool true)) (.t 12), none, false⟩] [0, 3, 13]) (.cond (.t 13) (.seq (.reg [⟨some 4, .mov (.c (.int .i64 0)), none, false⟩, ⟨some 5, .mov (.c (.bool false)), none, false⟩] [4, 5]) .ret) .skip)) (.seq (.reg [⟨some 14, .mov (.t 0), none, false⟩, ⟨some 15, .load true 4 (.t 3), none, false⟩, ⟨some 16, .call (.c (.func 33 [] [])) [.t 14, .t 15], none, false⟩, ⟨some 17, .ext (.t 16) 0, none, false⟩, ⟨some 18, .ext (.t 16) 1, none, false⟩, ⟨some 4, .mov (.t 17), none, false⟩, ⟨some 5, .mov (.t 18), none, false⟩] [4, 5]) .ret))
def x23 : XF := ⟨2, b23, [.t 4, .t 5]⟩
def h23 : Hints := fun id => match id with
  | 0 => [0, 3]
  | 1 => [0, 3, 13]
  | 2 => [4, 5]
  | 3 => [4, 5]
  | _ => []
theorem cv23 : cvF Try.prog h23 Try.f23 = some x23 := by kernel_rfl

/-- winnower/winnowerref08.Search -/
def b24 : XC := .seq (.reg [⟨some 3, .box 24 (.t 1), none, false⟩, ⟨some 4, .mov (.c (.int .i64 0)), none, false⟩, ⟨some 5, .mov (.c (.bool false)), none, false⟩] [0, 3]) (.seq (.reg [⟨some 8, .load true 4 (.t 3), none, false⟩, ⟨some 9, .call (.c (.func 22 [] [])) [.t 8], none, false⟩, ⟨some 6, .mov (.t 9), none, false⟩] [0, 3, 6]) (.seq (.reg [⟨some 10, .mov (.t 0), none, false⟩, ⟨some 11, .call (.c (.func 26 [] [])) [.t 10], none, false⟩, ⟨some 7, .mov (.t 11), none, false⟩] [0, 3, 6, 7]) (.seq (.seq (.reg [⟨some 12, .mov (.t 6), none, false⟩, ⟨some 13, .un .not (.t 12), none, false⟩, ⟨some 14, .mov (.t 13), none, false⟩, ⟨some 15, .mov (.t 7), some (14, false), false⟩, ⟨some 16, .un .not (.t 15), some (14, false), false⟩, ⟨some 17, .pick (.t 14) (.c (.bool true)) (.t 16), none, false⟩] [0, 3, 17]) (.cond (.t 17) (.seq (.reg [⟨some 4, .mov (.c (.int .i64 0)), none, false⟩, ⟨some 5, .mov (.c (.bool false)), none, false⟩] [4, 5]) .ret) .skip)) (.seq (.reg [⟨some 18, .mov (.t 0), none, false⟩, ⟨some 19, .load true 4 (.t 3), none, false⟩, ⟨some 20, .call (.c (.func 34 [] [])) [.t 18, .t 19], none, true⟩, ⟨some 21, .mov (.t 0), none, false⟩, ⟨some 22, .load true 4 (.t 3), none, false⟩, ⟨some 23, .call (.c (.func 16 [] [])) [.t 21, .t 22], none, false⟩, ⟨some 24, .bin .geq (.t 23) (.c (.int .i64 0)), none, false⟩, ⟨some 4, .mov (.t 20), none, false⟩, ⟨some 5, .mov (.t 24), none, false⟩] [4, 5]) .ret))))
def x24 : XF := ⟨2, b24, [.t 4, .t 5]⟩
def h24 : Hints := fun id => match id with
  | 0 => [0, 3]
  | 1 => [0, 3, 6]
  | 2 => [0, 3, 6, 7]
  | 3 => [0, 3, 17]
  | 4 => [4, 5]
  | 5 => [4, 5]
  | _ => []
theorem cv24 : cvF Try.prog h24 Try.f24 = some x24 := by kernel_rfl

/-- winnower/dict.Rises -/
def b25 : XC := .seq (.reg [⟨some 2, .mov (.c (.bool false)), none, false⟩] [0]) (.seq (.seq (.reg [⟨some 5, .mov (.t 0), none, false⟩, ⟨some 6, .len 4 (.t 5), none, false⟩, ⟨some 7, .mov (.c (.int .i64 0)), none, false⟩] [0, 5, 6, 7]) (.block 0 (.loop (.seq (.reg [⟨some 8, .bin .lss (.t 7) (.t 6), none, false⟩] [0, 5, 6, 7, 8]) (.seq (.cond (.t 8) .skip (.exit 0)) (.seq (.block 1 (.seq (.reg [⟨some 9, .mov (.t 7), none, false⟩, ⟨some 10, .iaddr 4 (.t 5) (.t 7), none, false⟩, ⟨some 11, .load true 4 (.t 10), none, false⟩, ⟨some 4, .alloc 24 [.int .i64 0, .int .i64 0, .str ⟨#[]⟩, .bool false], none, false⟩, ⟨some 3, .mov (.t 9), none, false⟩, ⟨none, .store 4 (.t 4) (.t 11), none, false⟩] [0, 3, 4, 5, 6, 7]) (.seq (.reg [⟨some 12, .load true 4 (.t 4), none, false⟩, ⟨some 13, .call (.c (.func 29 [] [])) [.t 12], none, false⟩, ⟨some 14, .un .not (.t 13), none, false⟩, ⟨some 15, .mov (.t 14), none, false⟩, ⟨some 16, .mov (.t 3), some (15, false), false⟩, ⟨some 17, .bin .gtr (.t 16) (.c (.int .i64 0)), some (15, false), false⟩, ⟨some 18, .mov (.t 17), some (15, false), false⟩, ⟨some 19, .mov (.t 0), some (18, true), false⟩, ⟨some 20, .mov (.t 3), some (18, true), false⟩, ⟨some 21, .bin .sub (.t 20) (.c (.int .i64 1)), some (18, true), false⟩, ⟨some 22, .iaddr 4 (.t 19) (.t 21), some (18, true), false⟩, ⟨some 23, .load true 4 (.t 22), some (18, true), false⟩, ⟨some 24, .load true 4 (.t 4), some (18, true), false⟩, ⟨some 25, .call (.c (.func 32 [] [])) [.t 23, .t 24], some (18, true), false⟩, ⟨some 26, .bin .geq (.t 25) (.c (.int .i64 0)), some (18, true), false⟩, ⟨some 27, .pick (.t 18) (.t 26) (.c (.bool false)), some (15, false), false⟩, ⟨some 28, .pick (.t 15) (.c (.bool true)) (.t 27), none, false⟩] [0, 5, 6, 7, 28]) (.cond (.t 28) (.seq (.reg [⟨some 2, .mov (.c (.bool false)), none, false⟩] [2]) .ret) .skip)))) (.reg [⟨some 29, .bin .add (.t 7) (.c (.int .i64 1)), none, false⟩, ⟨some 7, .mov (.t 29), none, false⟩] [0, 5, 6, 7]))))))) (.seq (.reg [⟨some 2, .mov (.c (.bool true)), none, false⟩] [2]) .ret))
def x25 : XF := ⟨1, b25, [.t 2]⟩
def h25 : Hints := fun id => match id with
  | 0 => [0]
  | 1 => [0, 5, 6, 7]
  | 2 => [0, 5, 6, 7, 8]
  | 3 => [0, 3, 4, 5, 6, 7]
  | 4 => [0, 5, 6, 7, 28]
  | 5 => [2]
  | 6 => [0, 5, 6, 7]
  | 7 => [2]
  | _ => []
theorem cv25 : cvF Try.prog h25 Try.f25 = some x25 := by kernel_rfl

/-- winnower/winnowerref08.Rises -/
def b26 : XC := .seq (.reg [⟨some 2, .mov (.c (.bool false)), none, false⟩] [0]) (.seq (.seq (.reg [⟨some 3, .mov (.c (.int .i64 0)), none, false⟩] [0, 3]) (.block 0 (.loop (.seq (.seq (.reg [⟨some 5, .mov (.t 3), none, false⟩, ⟨some 6, .mov (.t 0), none, false⟩, ⟨some 7, .len 4 (.t 6), none, false⟩, ⟨some 8, .bin .lss (.t 5) (.t 7), none, false⟩] [0, 3, 8]) (.cond (.t 8) .skip (.exit 0))) (.seq (.block 1 (.seq (.reg [⟨some 11, .mov (.t 0), none, false⟩, ⟨some 12, .mov (.t 3), none, false⟩, ⟨some 13, .iaddr 4 (.t 11) (.t 12), none, false⟩, ⟨some 14, .load true 4 (.t 13), none, false⟩, ⟨some 15, .call (.c (.func 22 [] [])) [.t 14], none, false⟩, ⟨some 4, .mov (.t 15), none, false⟩] [0, 3, 4]) (.seq (.reg [⟨some 16, .mov (.t 4), none, false⟩, ⟨some 17, .un .not (.t 16), none, false⟩, ⟨some 18, .mov (.t 17), none, false⟩, ⟨some 19, .mov (.t 3), some (18, false), false⟩, ⟨some 20, .bin .gtr (.t 19) (.c (.int .i64 0)), some (18, false), false⟩, ⟨some 21, .mov (.t 20), some (18, false), false⟩, ⟨some 22, .mov (.t 0), some (21, true), false⟩, ⟨some 23, .mov (.t 3), some (21, true), false⟩, ⟨some 24, .bin .sub (.t 23) (.c (.int .i64 1)), some (21, true), false⟩, ⟨some 25, .iaddr 4 (.t 22) (.t 24), some (21, true), false⟩, ⟨some 26, .load true 4 (.t 25), some (21, true), false⟩, ⟨some 27, .mov (.t 0), some (21, true), false⟩, ⟨some 28, .mov (.t 3), some (21, true), false⟩, ⟨some 29, .iaddr 4 (.t 27) (.t 28), some (21, true), false⟩, ⟨some 30, .load true 4 (.t 29), some (21, true), false⟩, ⟨some 31, .call (.c (.func 27 [] [])) [.t 26, .t 30], some (21, true), false⟩, ⟨some 32, .bin .geq (.t 31) (.c (.int .i64 0)), some (21, true), false⟩, ⟨some 33, .pick (.t 21) (.t 32) (.c (.bool false)), some (18, false), false⟩, ⟨some 34, .pick (.t 18) (.c (.bool true)) (.t 33), none, false⟩] [0, 3, 34]) (.cond (.t 34) (.seq (.reg [⟨some 2, .mov (.c (.bool false)), none, false⟩] [2]) .ret) .skip)))) (.reg [⟨some 9, .mov (.t 3), none, false⟩, ⟨some 10, .bin .add (.t 9) (.c (.int .i64 1)), none, false⟩, ⟨some 3, .mov (.t 10), none, false⟩] [0, 3])))))) (.seq (.reg [⟨some 2, .mov (.c (.bool true)), none, false⟩] [2]) .ret))
def x26 : XF := ⟨1, b26, [.t 2]⟩
def h26 : Hints := fun id => match id with
  | 0 => [0]
  | 1 => [0, 3]
  | 2 => [0, 3, 8]
  | 3 => [0, 3]
  | 4 => [0, 3, 4]
  | 5 => [0, 3, 34]
  | 6 => [2]
  | 7 => [2]
  | _ => []
theorem cv26 : cvF Try.prog h26 Try.f26 = some x26 := by kernel_rfl

/-- winnower/winnowerref06.Order -/
def b27 : XC := .seq (.reg [⟨some 2, .box 24 (.t 0), none, false⟩, ⟨some 3, .box 24 (.t 1), none, false⟩, ⟨some 4, .mov (.c (.int .i64 0)), none, false⟩] [2, 3]) (.seq (.seq (.reg [⟨some 5, .faddr 0 (.t 2), none, false⟩, ⟨some 6, .load false 1 (.t 5), none, false⟩, ⟨some 7, .faddr 0 (.t 3), none, false⟩, ⟨some 8, .load false 1 (.t 7), none, false⟩, ⟨some 9, .bin .lss (.t 6) (.t 8), none, false⟩] [2, 3, 9]) (.cond (.t 9) (.seq (.reg [⟨some 4, .mov (.c (.int .i64 (-1))), none, false⟩] [4]) .ret) .skip)) (.seq (.seq (.reg [⟨some 10, .faddr 0 (.t 2), none, false⟩, ⟨some 11, .load false 1 (.t 10), none, false⟩, ⟨some 12, .faddr 0 (.t 3), none, false⟩, ⟨some 13, .load false 1 (.t 12), none, false⟩, ⟨some 14, .bin .gtr (.t 11) (.t 13), none, false⟩] [2, 3, 14]) (.cond (.t 14) (.seq (.reg [⟨some 4, .mov (.c (.int .i64 1)), none, false⟩] [4]) .ret) .skip)) (.seq (.seq (.reg [⟨some 15, .faddr 0 (.t 2), none, false⟩, ⟨some 16, .load false 1 (.t 15), none, false⟩] [2, 3, 16]) (.block 0 (.seq (.reg [⟨some 18, .bin .eql (.t 16) (.c (.int .i64 1)), none, false⟩, ⟨some 17, .mov (.t 18), none, false⟩] [2, 3, 16, 17]) (.cond (.t 17) (.seq (.seq (.reg [⟨some 19, .faddr 1 (.t 2), none, false⟩, ⟨some 20, .load false 1 (.t 19), none, false⟩, ⟨some 21, .faddr 1 (.t 3), none, false⟩, ⟨some 22, .load false 1 (.t 21), none, false⟩, ⟨some 23, .bin .lss (.t 20) (.t 22), none, false⟩] [2, 3, 23]) (.cond (.t 23) (.seq (.reg [⟨some 4, .mov (.c (.int .i64 (-1))), none, false⟩] [4]) .ret) .skip)) (.seq (.reg [⟨some 24, .faddr 1 (.t 2), none, false⟩, ⟨some 25, .load false 1 (.t 24), none, false⟩, ⟨some 26, .faddr 1 (.t 3), none, false⟩, ⟨some 27, .load false 1 (.t 26), none, false⟩, ⟨some 28, .bin .gtr (.t 25) (.t 27), none, false⟩] [28]) (.cond (.t 28) (.seq (.reg [⟨some 4, .mov (.c (.int .i64 1)), none, false⟩] [4]) .ret) .skip))) (.seq (.reg [⟨some 30, .bin .eql (.t 16) (.c (.int .i64 2)), none, false⟩, ⟨some 29, .mov (.t 30), none, false⟩] [2, 3, 16, 29]) (.cond (.t 29) (.seq (.reg [⟨some 31, .faddr 2 (.t 2), none, false⟩, ⟨some 32, .load false 1 (.t 31), none, false⟩, ⟨some 33, .faddr 2 (.t 3), none, false⟩, ⟨some 34, .load false 1 (.t 33), none, false⟩, ⟨some 35, .call (.c (.func 35 [] [])) [.t 32, .t 34], none, false⟩, ⟨some 4, .mov (.t 35), none, false⟩] [4]) .ret) (.seq (.reg [⟨some 37, .bin .eql (.t 16) (.c (.int .i64 3)), none, false⟩, ⟨some 36, .mov (.t 37), none, false⟩] [2, 3, 36]) (.cond (.t 36) (.seq (.seq (.reg [⟨some 38, .faddr 3 (.t 2), none, false⟩, ⟨some 39, .load false 1 (.t 38), none, false⟩, ⟨some 40, .un .not (.t 39), none, false⟩, ⟨some 41, .mov (.t 40), none, false⟩, ⟨some 42, .faddr 3 (.t 3), some (41, true), false⟩, ⟨some 43, .load false 1 (.t 42), some (41, true), false⟩, ⟨some 44, .pick (.t 41) (.t 43) (.c (.bool false)), none, false⟩] [2, 3, 44]) (.cond (.t 44) (.seq (.reg [⟨some 4, .mov (.c (.int .i64 (-1))), none, false⟩] [4]) .ret) .skip)) (.seq (.reg [⟨some 45, .faddr 3 (.t 2), none, false⟩, ⟨some 46, .load false 1 (.t 45), none, false⟩, ⟨some 47, .mov (.t 46), none, false⟩, ⟨some 48, .faddr 3 (.t 3), some (47, true), false⟩, ⟨some 49, .load false 1 (.t 48), some (47, true), false⟩, ⟨some 50, .un .not (.t 49), some (47, true), false⟩, ⟨some 51, .pick (.t 47) (.t 50) (.c (.bool false)), none, false⟩] [51]) (.cond (.t 51) (.seq (.reg [⟨some 4, .mov (.c (.int .i64 1)), none, false⟩] [4]) .ret) .skip))) .skip)))))))) (.seq (.reg [⟨some 4, .mov (.c (.int .i64 0)), none, false⟩] [4]) .ret))))
def x27 : XF := ⟨2, b27, [.t 4]⟩
def h27 : Hints := fun id => match id with
  | 0 => [2, 3]
  | 1 => [2, 3, 9]
  | 2 => [4]
  | 3 => [2, 3, 14]
  | 4 => [4]
  | 5 => [2, 3, 16]
  | 6 => [2, 3, 16, 17]
  | 7 => [2, 3, 23]
  | 8 => [4]
  | 9 => [28]
  | 10 => [4]
  | 11 => [2, 3, 16, 29]
  | 12 => [4]
  | 13 => [2, 3, 36]
  | 14 => [2, 3, 44]
  | 15 => [4]
  | 16 => [51]
  | 17 => [4]
  | 18 => [4]
  | _ => []
theorem cv27 : cvF Try.prog h27 Try.f27 = some x27 := by kernel_rfl

/-- winnower/winnowerref07.Light -/
def b28 : XC := .seq (.reg [⟨some 2, .mov (.c (.bool false)), none, false⟩] [0]) (.seq (.seq (.reg [⟨some 4, .mov (.t 0), none, false⟩, ⟨some 5, .len 4 (.t 4), none, false⟩, ⟨some 6, .bin .gtr (.t 5) (.c (.int .i64 12)), none, false⟩] [0, 6]) (.cond (.t 6) (.seq (.reg [⟨some 2, .mov (.c (.bool false)), none, false⟩] [2]) .ret) .skip)) (.seq (.seq (.reg [⟨some 3, .mov (.c (.int .i64 0)), none, false⟩] [0, 3]) (.block 0 (.loop (.seq (.seq (.reg [⟨some 7, .mov (.t 3), none, false⟩, ⟨some 8, .mov (.t 0), none, false⟩, ⟨some 9, .len 4 (.t 8), none, false⟩, ⟨some 10, .bin .lss (.t 7) (.t 9), none, false⟩] [0, 3, 10]) (.cond (.t 10) .skip (.exit 0))) (.seq (.block 1 (.seq (.reg [⟨some 13, .mov (.t 0), none, false⟩, ⟨some 14, .mov (.t 3), none, false⟩, ⟨some 15, .iaddr 4 (.t 13) (.t 14), none, false⟩, ⟨some 16, .faddr 2 (.t 15), none, false⟩, ⟨some 17, .load false 1 (.t 16), none, false⟩, ⟨some 18, .lens (.t 17), none, false⟩, ⟨some 19, .bin .gtr (.t 18) (.c (.int .i64 300)), none, false⟩] [0, 3, 19]) (.cond (.t 19) (.seq (.reg [⟨some 2, .mov (.c (.bool false)), none, false⟩] [2]) .ret) .skip))) (.reg [⟨some 11, .mov (.t 3), none, false⟩, ⟨some 12, .bin .add (.t 11) (.c (.int .i64 1)), none, false⟩, ⟨some 3, .mov (.t 12), none, false⟩] [0, 3])))))) (.seq (.reg [⟨some 2, .mov (.c (.bool true)), none, false⟩] [2]) .ret)))
def x28 : XF := ⟨1, b28, [.t 2]⟩
def h28 : Hints := fun id => match id with
  | 0 => [0]
  | 1 => [0, 6]
  | 2 => [2]
  | 3 => [0, 3]
  | 4 => [0, 3, 10]
  | 5 => [0, 3]
  | 6 => [0, 3, 19]
  | 7 => [2]
  | 8 => [2]
  | _ => []
theorem cv28 : cvF Try.prog h28 Try.f28 = some x28 := by kernel_rfl

/-- winnower/value.May -/
def b29 : XC := .seq (.reg [⟨some 1, .box 24 (.t 0), none, false⟩, ⟨some 2, .mov (.c (.bool false)), none, false⟩] [1]) (.seq (.reg [⟨some 4, .faddr 0 (.t 1), none, false⟩, ⟨some 5, .load false 1 (.t 4), none, false⟩, ⟨some 6, .build [.int .i64 0, .int .i64 0, .str ⟨#[]⟩, .bool false] [(0, (1, .t 5))], none, false⟩, ⟨some 3, .alloc 24 [.int .i64 0, .int .i64 0, .str ⟨#[]⟩, .bool false], none, false⟩, ⟨none, .store 4 (.t 3) (.t 6), none, false⟩] [1, 3]) (.seq (.seq (.reg [⟨some 7, .faddr 0 (.t 1), none, false⟩, ⟨some 8, .load false 1 (.t 7), none, false⟩] [1, 3, 8]) (.block 0 (.seq (.block 5 (.seq (.block 4 (.seq (.block 3 (.seq (.block 2 (.seq (.block 1 (.seq (.seq (.seq (.reg [⟨some 10, .bin .eql (.t 8) (.c (.int .i64 1)), none, false⟩, ⟨some 9, .mov (.t 10), none, false⟩] [1, 3, 8, 9]) (.cond (.t 9) (.exit 1) .skip)) (.seq (.seq (.reg [⟨some 12, .bin .eql (.t 8) (.c (.int .i64 2)), none, false⟩, ⟨some 11, .mov (.t 12), none, false⟩] [1, 3, 8, 11]) (.cond (.t 11) (.exit 2) .skip)) (.seq (.seq (.reg [⟨some 14, .bin .eql (.t 8) (.c (.int .i64 3)), none, false⟩, ⟨some 13, .mov (.t 14), none, false⟩] [1, 3, 8, 13]) (.cond (.t 13) (.exit 3) .skip)) (.seq (.reg [⟨some 16, .bin .eql (.t 8) (.c (.int .i64 0)), none, false⟩, ⟨some 15, .mov (.t 16), none, false⟩] [1, 3, 15]) (.cond (.t 15) (.exit 4) .skip))))) (.exit 5))) (.seq (.reg [⟨some 17, .faddr 1 (.t 1), none, false⟩, ⟨some 18, .load false 1 (.t 17), none, false⟩, ⟨some 19, .faddr 1 (.t 3), none, false⟩, ⟨none, .store 1 (.t 19) (.t 18), none, false⟩] [1, 3]) (.exit 0)))) (.seq (.seq (.reg [⟨some 20, .faddr 2 (.t 1), none, false⟩, ⟨some 21, .load false 1 (.t 20), none, false⟩, ⟨some 22, .faddr 2 (.t 3), none, false⟩, ⟨none, .store 1 (.t 22) (.t 21), none, false⟩] [1, 3]) (.seq (.reg [⟨some 23, .faddr 2 (.t 1), none, false⟩, ⟨some 24, .load false 1 (.t 23), none, false⟩, ⟨some 25, .lens (.t 24), none, false⟩, ⟨some 26, .bin .gtr (.t 25) (.c (.int .i64 64)), none, false⟩] [1, 3, 26]) (.cond (.t 26) (.seq (.reg [⟨some 2, .mov (.c (.bool false)), none, false⟩] [2]) .ret) .skip))) (.exit 0)))) (.reg [⟨some 27, .faddr 3 (.t 1), none, false⟩, ⟨some 28, .load false 1 (.t 27), none, false⟩, ⟨some 29, .faddr 3 (.t 3), none, false⟩, ⟨none, .store 1 (.t 29) (.t 28), none, false⟩] [1, 3]))) (.seq (.exit 0) (.exit 0)))) (.seq (.seq (.reg [⟨some 2, .mov (.c (.bool false)), none, false⟩] [2]) .ret) (.exit 0))))) (.seq (.reg [⟨some 30, .load true 4 (.t 1), none, false⟩, ⟨some 31, .load true 4 (.t 3), none, false⟩, ⟨some 32, .eqa [1, 1, 2, 0] false (.t 30) (.t 31), none, false⟩, ⟨some 2, .mov (.t 32), none, false⟩] [2]) .ret)))
def x29 : XF := ⟨1, b29, [.t 2]⟩
def h29 : Hints := fun id => match id with
  | 0 => [1]
  | 1 => [1, 3]
  | 2 => [1, 3, 8]
  | 3 => [1, 3, 8, 9]
  | 4 => [1, 3, 8, 11]
  | 5 => [1, 3, 8, 13]
  | 6 => [1, 3, 15]
  | 7 => [1, 3]
  | 8 => [1, 3]
  | 9 => [1, 3, 26]
  | 10 => [2]
  | 11 => [1, 3]
  | 12 => [2]
  | 13 => [2]
  | _ => []
theorem cv29 : cvF Try.prog h29 Try.f29 = some x29 := by kernel_rfl

/-- slices.Clone[[]winnower/api.Value,winnower/api.Value] -/
def b30 : XC := .seq (.reg [⟨some 2, .mov (.c .nils), none, false⟩] [0]) (.seq (.seq (.reg [⟨some 3, .mov (.t 0), none, false⟩, ⟨some 4, .eqk 2 false (.t 3) (.c .nils), none, false⟩] [0, 4]) (.cond (.t 4) (.seq (.reg [⟨some 2, .mov (.c .nils), none, false⟩] [2]) .ret) .skip)) (.seq (.reg [⟨some 5, .mkslice true 24 4 [], none, false⟩, ⟨some 6, .mov (.t 0), none, false⟩, ⟨some 7, .app 24 4 40 (.t 5) (.t 6), none, false⟩, ⟨some 2, .mov (.t 7), none, false⟩] [2]) .ret))
def x30 : XF := ⟨1, b30, [.t 2]⟩
def h30 : Hints := fun id => match id with
  | 0 => [0]
  | 1 => [0, 4]
  | 2 => [2]
  | 3 => [2]
  | _ => []
theorem cv30 : cvF Try.prog h30 Try.f30 = some x30 := by kernel_rfl

/-- slices.SortFunc[[]winnower/api.Value,winnower/api.Value] -/
def b31 : XC := .seq (.reg [⟨some 5, .mov (.t 0), none, false⟩, ⟨some 6, .len 4 (.t 5), none, false⟩, ⟨some 4, .mov (.t 6), none, false⟩] [0, 1, 4]) (.reg [⟨some 7, .mov (.t 0), none, false⟩, ⟨some 8, .mov (.t 4), none, false⟩, ⟨some 9, .mov (.t 4), none, false⟩, ⟨some 10, .toint .u64 (.t 9), none, false⟩, ⟨some 11, .call (.c (.func 37 [] [])) [.t 10], none, false⟩, ⟨some 12, .mov (.t 1), none, false⟩, ⟨some 13, .call (.c (.func 36 [] [])) [.t 7, .c (.int .i64 0), .t 8, .t 11, .t 12], none, false⟩] [])
def x31 : XF := ⟨2, b31, []⟩
def h31 : Hints := fun id => match id with
  | 0 => [0, 1, 4]
  | _ => []
theorem cv31 : cvF Try.prog h31 Try.f31 = some x31 := by kernel_rfl

/-- winnower/value.Order -/
def b32 : XC := .seq (.reg [⟨some 2, .box 24 (.t 0), none, false⟩, ⟨some 3, .box 24 (.t 1), none, false⟩, ⟨some 4, .mov (.c (.int .i64 0)), none, false⟩] [2, 3]) (.seq (.block 0 (.seq (.reg [⟨some 6, .faddr 0 (.t 2), none, false⟩, ⟨some 7, .load false 1 (.t 6), none, false⟩, ⟨some 8, .faddr 0 (.t 3), none, false⟩, ⟨some 9, .load false 1 (.t 8), none, false⟩, ⟨some 10, .bin .neq (.t 7) (.t 9), none, false⟩, ⟨some 5, .mov (.t 10), none, false⟩] [2, 3, 5]) (.cond (.t 5) (.seq (.reg [⟨some 11, .faddr 0 (.t 2), none, false⟩, ⟨some 12, .load false 1 (.t 11), none, false⟩, ⟨some 13, .faddr 0 (.t 3), none, false⟩, ⟨some 14, .load false 1 (.t 13), none, false⟩, ⟨some 15, .call (.c (.func 38 [] [])) [.t 12, .t 14], none, false⟩, ⟨some 4, .mov (.t 15), none, false⟩] [4]) .ret) (.seq (.reg [⟨some 17, .faddr 0 (.t 2), none, false⟩, ⟨some 18, .load false 1 (.t 17), none, false⟩, ⟨some 19, .bin .eql (.t 18) (.c (.int .i64 1)), none, false⟩, ⟨some 16, .mov (.t 19), none, false⟩] [2, 3, 16]) (.cond (.t 16) (.seq (.reg [⟨some 20, .faddr 1 (.t 2), none, false⟩, ⟨some 21, .load false 1 (.t 20), none, false⟩, ⟨some 22, .faddr 1 (.t 3), none, false⟩, ⟨some 23, .load false 1 (.t 22), none, false⟩, ⟨some 24, .call (.c (.func 38 [] [])) [.t 21, .t 23], none, false⟩, ⟨some 4, .mov (.t 24), none, false⟩] [4]) .ret) (.seq (.reg [⟨some 26, .faddr 0 (.t 2), none, false⟩, ⟨some 27, .load false 1 (.t 26), none, false⟩, ⟨some 28, .bin .eql (.t 27) (.c (.int .i64 2)), none, false⟩, ⟨some 25, .mov (.t 28), none, false⟩] [2, 3, 25]) (.cond (.t 25) (.seq (.reg [⟨some 29, .faddr 2 (.t 2), none, false⟩, ⟨some 30, .load false 1 (.t 29), none, false⟩, ⟨some 31, .faddr 2 (.t 3), none, false⟩, ⟨some 32, .load false 1 (.t 31), none, false⟩, ⟨some 33, .call (.c (.func 39 [] [])) [.t 30, .t 32], none, false⟩, ⟨some 4, .mov (.t 33), none, false⟩] [4]) .ret) (.seq (.reg [⟨some 35, .faddr 0 (.t 2), none, false⟩, ⟨some 36, .load false 1 (.t 35), none, false⟩, ⟨some 37, .bin .eql (.t 36) (.c (.int .i64 3)), none, false⟩, ⟨some 34, .mov (.t 37), none, false⟩] [2, 3, 34]) (.cond (.t 34) (.seq (.reg [⟨some 38, .faddr 3 (.t 2), none, false⟩, ⟨some 39, .load false 1 (.t 38), none, false⟩, ⟨some 40, .call (.c (.func 40 [] [])) [.t 39], none, true⟩, ⟨some 41, .faddr 3 (.t 3), none, false⟩, ⟨some 42, .load false 1 (.t 41), none, false⟩, ⟨some 43, .call (.c (.func 40 [] [])) [.t 42], none, false⟩, ⟨some 44, .call (.c (.func 38 [] [])) [.t 40, .t 43], none, false⟩, ⟨some 4, .mov (.t 44), none, false⟩] [4]) .ret) .skip))))))))) (.seq (.reg [⟨some 4, .mov (.c (.int .i64 0)), none, false⟩] [4]) .ret))
def x32 : XF := ⟨2, b32, [.t 4]⟩
def h32 : Hints := fun id => match id with
  | 0 => [2, 3]
  | 1 => [2, 3, 5]
  | 2 => [4]
  | 3 => [2, 3, 16]
  | 4 => [4]
  | 5 => [2, 3, 25]
  | 6 => [4]
  | 7 => [2, 3, 34]
  | 8 => [4]
  | 9 => [4]
  | _ => []
theorem cv32 : cvF Try.prog h32 Try.f32 = some x32 := by kernel_rfl

/-- winnower/dict.search -/
def b33 : XC := .seq (.reg [⟨some 3, .box 24 (.t 1), none, false⟩, ⟨some 4, .mov (.c (.int .i64 0)), none, false⟩, ⟨some 5, .mov (.c (.bool false)), none, false⟩] [0, 3]) (.seq (.reg [⟨some 7, .mov (.t 0), none, false⟩, ⟨some 8, .mkfn 42 [] [.t 3], none, false⟩, ⟨some 9, .call (.c (.func 41 [] [])) [.t 7, .t 8], none, false⟩, ⟨some 6, .mov (.t 9), none, false⟩] [0, 3, 6]) (.seq (.reg [⟨some 10, .mov (.t 6), none, false⟩, ⟨some 11, .mov (.t 6), none, false⟩, ⟨some 12, .mov (.t 0), none, false⟩, ⟨some 13, .len 4 (.t 12), none, false⟩, ⟨some 14, .bin .lss (.t 11) (.t 13), none, false⟩, ⟨some 15, .mov (.t 14), none, false⟩, ⟨some 16, .mov (.t 0), some (15, true), false⟩, ⟨some 17, .mov (.t 6), some (15, true), false⟩, ⟨some 18, .iaddr 4 (.t 16) (.t 17), some (15, true), false⟩, ⟨some 19, .load true 4 (.t 18), some (15, true), false⟩, ⟨some 20, .load true 4 (.t 3), some (15, true), false⟩, ⟨some 21, .eqa [1, 1, 2, 0] false (.t 19) (.t 20), some (15, true), false⟩, ⟨some 22, .pick (.t 15) (.t 21) (.c (.bool false)), none, false⟩, ⟨some 4, .mov (.t 10), none, false⟩, ⟨some 5, .mov (.t 22), none, false⟩] [4, 5]) .ret))
def x33 : XF := ⟨2, b33, [.t 4, .t 5]⟩
def h33 : Hints := fun id => match id with
  | 0 => [0, 3]
  | 1 => [0, 3, 6]
  | 2 => [4, 5]
  | _ => []
theorem cv33 : cvF Try.prog h33 Try.f33 = some x33 := by kernel_rfl

/-- winnower/winnowerref08.Place -/
def b34 : XC := .seq (.reg [⟨some 3, .box 24 (.t 1), none, false⟩, ⟨some 4, .mov (.c (.int .i64 0)), none, false⟩] [0, 3]) (.seq (.reg [⟨some 5, .mov (.c (.int .i64 0)), none, false⟩] [0, 3, 5]) (.seq (.seq (.reg [⟨some 6, .mov (.c (.int .i64 0)), none, false⟩] [0, 3, 5, 6]) (.block 0 (.loop (.seq (.seq (.reg [⟨some 7, .mov (.t 6), none, false⟩, ⟨some 8, .mov (.t 0), none, false⟩, ⟨some 9, .len 4 (.t 8), none, false⟩, ⟨some 10, .bin .lss (.t 7) (.t 9), none, false⟩] [0, 3, 5, 6, 10]) (.cond (.t 10) .skip (.exit 0))) (.seq (.block 1 (.seq (.reg [⟨some 13, .mov (.t 0), none, false⟩, ⟨some 14, .mov (.t 6), none, false⟩, ⟨some 15, .iaddr 4 (.t 13) (.t 14), none, false⟩, ⟨some 16, .load true 4 (.t 15), none, false⟩, ⟨some 17, .load true 4 (.t 3), none, false⟩, ⟨some 18, .call (.c (.func 27 [] [])) [.t 16, .t 17], none, false⟩, ⟨some 19, .bin .lss (.t 18) (.c (.int .i64 0)), none, false⟩] [0, 3, 5, 6, 19]) (.cond (.t 19) (.reg [⟨some 20, .mov (.t 5), none, false⟩, ⟨some 21, .bin .add (.t 20) (.c (.int .i64 1)), none, false⟩, ⟨some 5, .mov (.t 21), none, false⟩] [0, 3, 5, 6]) .skip))) (.reg [⟨some 11, .mov (.t 6), none, false⟩, ⟨some 12, .bin .add (.t 11) (.c (.int .i64 1)), none, false⟩, ⟨some 6, .mov (.t 12), none, false⟩] [0, 3, 5, 6])))))) (.seq (.reg [⟨some 22, .mov (.t 5), none, false⟩, ⟨some 4, .mov (.t 22), none, false⟩] [4]) .ret)))
def x34 : XF := ⟨2, b34, [.t 4]⟩
def h34 : Hints := fun id => match id with
  | 0 => [0, 3]
  | 1 => [0, 3, 5]
  | 2 => [0, 3, 5, 6]
  | 3 => [0, 3, 5, 6, 10]
  | 4 => [0, 3, 5, 6]
  | 5 => [0, 3, 5, 6, 19]
  | 6 => [0, 3, 5, 6]
  | 7 => [4]
  | _ => []
theorem cv34 : cvF Try.prog h34 Try.f34 = some x34 := by kernel_rfl

/-- winnower/winnowerref06.text -/
def b35 : XC := .seq (.reg [⟨some 4, .mov (.c (.int .i64 0)), none, false⟩] [0, 1]) (.seq (.seq (.reg [⟨some 5, .mov (.c (.int .i64 0)), none, false⟩] [0, 1, 5]) (.block 0 (.loop (.seq (.seq (.reg [⟨some 6, .mov (.t 5), none, false⟩, ⟨some 7, .mov (.t 0), none, false⟩, ⟨some 8, .lens (.t 7), none, false⟩, ⟨some 9, .bin .lss (.t 6) (.t 8), none, false⟩, ⟨some 10, .mov (.t 9), none, false⟩, ⟨some 11, .mov (.t 5), some (10, true), false⟩, ⟨some 12, .mov (.t 1), some (10, true), false⟩, ⟨some 13, .lens (.t 12), some (10, true), false⟩, ⟨some 14, .bin .lss (.t 11) (.t 13), some (10, true), false⟩, ⟨some 15, .pick (.t 10) (.t 14) (.c (.bool false)), none, false⟩] [0, 1, 5, 15]) (.cond (.t 15) .skip (.exit 0))) (.seq (.block 1 (.seq (.seq (.reg [⟨some 18, .mov (.t 0), none, false⟩, ⟨some 19, .mov (.t 5), none, false⟩, ⟨some 20, .idxs (.t 18) (.t 19), none, false⟩, ⟨some 21, .mov (.t 1), none, false⟩, ⟨some 22, .mov (.t 5), none, false⟩, ⟨some 23, .idxs (.t 21) (.t 22), none, false⟩, ⟨some 24, .bin .lss (.t 20) (.t 23), none, false⟩] [0, 1, 5, 24]) (.cond (.t 24) (.seq (.reg [⟨some 4, .mov (.c (.int .i64 (-1))), none, false⟩] [4]) .ret) .skip)) (.seq (.reg [⟨some 25, .mov (.t 0), none, false⟩, ⟨some 26, .mov (.t 5), none, false⟩, ⟨some 27, .idxs (.t 25) (.t 26), none, false⟩, ⟨some 28, .mov (.t 1), none, false⟩, ⟨some 29, .mov (.t 5), none, false⟩, ⟨some 30, .idxs (.t 28) (.t 29), none, false⟩, ⟨some 31, .bin .gtr (.t 27) (.t 30), none, false⟩] [0, 1, 5, 31]) (.cond (.t 31) (.seq (.reg [⟨some 4, .mov (.c (.int .i64 1)), none, false⟩] [4]) .ret) .skip)))) (.reg [⟨some 16, .mov (.t 5), none, false⟩, ⟨some 17, .bin .add (.t 16) (.c (.int .i64 1)), none, false⟩, ⟨some 5, .mov (.t 17), none, false⟩] [0, 1, 5])))))) (.seq (.seq (.reg [⟨some 32, .mov (.t 0), none, false⟩, ⟨some 33, .lens (.t 32), none, false⟩, ⟨some 34, .mov (.t 1), none, false⟩, ⟨some 35, .lens (.t 34), none, false⟩, ⟨some 36, .bin .lss (.t 33) (.t 35), none, false⟩] [0, 1, 36]) (.cond (.t 36) (.seq (.reg [⟨some 4, .mov (.c (.int .i64 (-1))), none, false⟩] [4]) .ret) .skip)) (.seq (.seq (.reg [⟨some 37, .mov (.t 0), none, false⟩, ⟨some 38, .lens (.t 37), none, false⟩, ⟨some 39, .mov (.t 1), none, false⟩, ⟨some 40, .lens (.t 39), none, false⟩, ⟨some 41, .bin .gtr (.t 38) (.t 40), none, false⟩] [41]) (.cond (.t 41) (.seq (.reg [⟨some 4, .mov (.c (.int .i64 1)), none, false⟩] [4]) .ret) .skip)) (.seq (.reg [⟨some 4, .mov (.c (.int .i64 0)), none, false⟩] [4]) .ret))))
def x35 : XF := ⟨2, b35, [.t 4]⟩
def h35 : Hints := fun id => match id with
  | 0 => [0, 1]
  | 1 => [0, 1, 5]
  | 2 => [0, 1, 5, 15]
  | 3 => [0, 1, 5]
  | 4 => [0, 1, 5, 24]
  | 5 => [4]
  | 6 => [0, 1, 5, 31]
  | 7 => [4]
  | 8 => [0, 1, 36]
  | 9 => [4]
  | 10 => [41]
  | 11 => [4]
  | 12 => [4]
  | _ => []
theorem cv35 : cvF Try.prog h35 Try.f35 = some x35 := by kernel_rfl

/-- slices.pdqsortCmpFunc[winnower/api.Value] -/
def b36 : XC := .seq (.reg [⟨some 10, .mov (.c (.bool true)), none, false⟩] [0, 1, 2, 3, 4, 10]) (.seq (.reg [⟨some 11, .mov (.c (.bool true)), none, false⟩] [0, 1, 2, 3, 4, 10, 11]) (.block 0 (.loop (.block 1 (.seq (.reg [⟨some 21, .mov (.t 2), none, false⟩, ⟨some 22, .mov (.t 1), none, false⟩, ⟨some 23, .bin .sub (.t 21) (.t 22), none, false⟩, ⟨some 12, .mov (.t 23), none, false⟩] [0, 1, 2, 3, 4, 10, 11, 12]) (.seq (.seq (.reg [⟨some 24, .mov (.t 12), none, false⟩, ⟨some 25, .bin .leq (.t 24) (.c (.int .i64 12)), none, false⟩] [0, 1, 2, 3, 4, 10, 11, 12, 25]) (.cond (.t 25) (.seq (.reg [⟨some 26, .mov (.t 0), none, false⟩, ⟨some 27, .mov (.t 1), none, false⟩, ⟨some 28, .mov (.t 2), none, false⟩, ⟨some 29, .mov (.t 4), none, false⟩, ⟨some 30, .call (.c (.func 43 [] [])) [.t 26, .t 27, .t 28, .t 29], none, false⟩] []) .ret) .skip)) (.seq (.seq (.reg [⟨some 31, .mov (.t 3), none, false⟩, ⟨some 32, .bin .eql (.t 31) (.c (.int .i64 0)), none, false⟩] [0, 1, 2, 3, 4, 10, 11, 12, 32]) (.cond (.t 32) (.seq (.reg [⟨some 33, .mov (.t 0), none, false⟩, ⟨some 34, .mov (.t 1), none, false⟩, ⟨some 35, .mov (.t 2), none, false⟩, ⟨some 36, .mov (.t 4), none, false⟩, ⟨some 37, .call (.c (.func 44 [] [])) [.t 33, .t 34, .t 35, .t 36], none, false⟩] []) .ret) .skip)) (.seq (.seq (.reg [⟨some 38, .mov (.t 10), none, false⟩, ⟨some 39, .un .not (.t 38), none, false⟩] [0, 1, 2, 3, 4, 10, 11, 12, 39]) (.cond (.t 39) (.seq (.reg [⟨some 40, .mov (.t 0), none, false⟩, ⟨some 41, .mov (.t 1), none, false⟩, ⟨some 42, .mov (.t 2), none, false⟩, ⟨some 43, .mov (.t 4), none, false⟩, ⟨some 44, .call (.c (.func 45 [] [])) [.t 40, .t 41, .t 42, .t 43], none, false⟩] [0, 1, 2, 3, 4, 10, 11, 12]) (.reg [⟨some 45, .mov (.t 3), none, false⟩, ⟨some 46, .bin .sub (.t 45) (.c (.int .i64 1)), none, false⟩, ⟨some 3, .mov (.t 46), none, false⟩] [0, 1, 2, 3, 4, 10, 11, 12])) .skip)) (.seq (.reg [⟨some 48, .mov (.t 0), none, false⟩, ⟨some 49, .mov (.t 1), none, false⟩, ⟨some 50, .mov (.t 2), none, false⟩, ⟨some 51, .mov (.t 4), none, false⟩, ⟨some 52, .call (.c (.func 46 [] [])) [.t 48, .t 49, .t 50, .t 51], none, false⟩, ⟨some 47, .mov (.t 52), none, false⟩, ⟨some 53, .ext (.t 47) 0, none, false⟩, ⟨some 54, .ext (.t 47) 1, none, false⟩, ⟨some 13, .mov (.t 53), none, false⟩, ⟨some 14, .mov (.t 54), none, false⟩] [0, 1, 2, 3, 4, 10, 11, 12, 13, 14]) (.seq (.seq (.reg [⟨some 55, .mov (.t 14), none, false⟩, ⟨some 56, .bin .eql (.t 55) (.c (.int .i64 2)), none, false⟩] [0, 1, 2, 3, 4, 10, 11, 12, 13, 14, 56]) (.cond (.t 56) (.seq (.reg [⟨some 57, .mov (.t 0), none, false⟩, ⟨some 58, .mov (.t 1), none, false⟩, ⟨some 59, .mov (.t 2), none, false⟩, ⟨some 60, .mov (.t 4), none, false⟩, ⟨some 61, .call (.c (.func 47 [] [])) [.t 57, .t 58, .t 59, .t 60], none, false⟩] [0, 1, 2, 3, 4, 10, 11, 12, 13]) (.seq (.reg [⟨some 62, .mov (.t 2), none, false⟩, ⟨some 63, .bin .sub (.t 62) (.c (.int .i64 1)), none, false⟩, ⟨some 64, .mov (.t 13), none, false⟩, ⟨some 65, .mov (.t 1), none, false⟩, ⟨some 66, .bin .sub (.t 64) (.t 65), none, false⟩, ⟨some 67, .bin .sub (.t 63) (.t 66), none, false⟩, ⟨some 13, .mov (.t 67), none, false⟩] [0, 1, 2, 3, 4, 10, 11, 12, 13]) (.reg [⟨some 14, .mov (.c (.int .i64 1)), none, false⟩] [0, 1, 2, 3, 4, 10, 11, 12, 13, 14]))) .skip)) (.seq (.seq (.reg [⟨some 68, .mov (.t 10), none, false⟩, ⟨some 69, .mov (.t 68), none, false⟩, ⟨some 70, .mov (.t 11), some (69, true), false⟩, ⟨some 71, .pick (.t 69) (.t 70) (.c (.bool false)), none, false⟩, ⟨some 72, .mov (.t 71), none, false⟩, ⟨some 73, .mov (.t 14), some (72, true), false⟩, ⟨some 74, .bin .eql (.t 73) (.c (.int .i64 1)), some (72, true), false⟩, ⟨some 75, .pick (.t 72) (.t 74) (.c (.bool false)), none, false⟩] [0, 1, 2, 3, 4, 10, 11, 12, 13, 75]) (.cond (.t 75) (.seq (.reg [⟨some 76, .mov (.t 0), none, false⟩, ⟨some 77, .mov (.t 1), none, false⟩, ⟨some 78, .mov (.t 2), none, false⟩, ⟨some 79, .mov (.t 4), none, false⟩, ⟨some 80, .call (.c (.func 48 [] [])) [.t 76, .t 77, .t 78, .t 79], none, false⟩] [0, 1, 2, 3, 4, 10, 11, 12, 13, 80]) (.cond (.t 80) .ret .skip)) .skip)) (.seq (.seq (.reg [⟨some 81, .mov (.t 1), none, false⟩, ⟨some 82, .bin .gtr (.t 81) (.c (.int .i64 0)), none, false⟩, ⟨some 83, .mov (.t 82), none, false⟩, ⟨some 84, .mov (.t 4), some (83, true), false⟩, ⟨some 85, .mov (.t 0), some (83, true), false⟩, ⟨some 86, .mov (.t 1), some (83, true), false⟩, ⟨some 87, .bin .sub (.t 86) (.c (.int .i64 1)), some (83, true), false⟩, ⟨some 88, .iaddr 4 (.t 85) (.t 87), some (83, true), false⟩, ⟨some 89, .load true 4 (.t 88), some (83, true), false⟩, ⟨some 90, .mov (.t 0), some (83, true), false⟩, ⟨some 91, .mov (.t 13), some (83, true), false⟩, ⟨some 92, .iaddr 4 (.t 90) (.t 91), some (83, true), false⟩, ⟨some 93, .load true 4 (.t 92), some (83, true), false⟩, ⟨some 94, .call (.t 84) [.t 89, .t 93], some (83, true), false⟩, ⟨some 95, .bin .lss (.t 94) (.c (.int .i64 0)), some (83, true), false⟩, ⟨some 96, .un .not (.t 95), some (83, true), false⟩, ⟨some 97, .pick (.t 83) (.t 96) (.c (.bool false)), none, false⟩] [0, 1, 2, 3, 4, 10, 11, 12, 13, 97]) (.cond (.t 97) (.seq (.reg [⟨some 98, .mov (.t 0), none, false⟩, ⟨some 99, .mov (.t 1), none, false⟩, ⟨some 100, .mov (.t 2), none, false⟩, ⟨some 101, .mov (.t 13), none, false⟩, ⟨some 102, .mov (.t 4), none, false⟩, ⟨some 103, .call (.c (.func 49 [] [])) [.t 98, .t 99, .t 100, .t 101, .t 102], none, false⟩, ⟨some 15, .mov (.t 103), none, false⟩] [0, 2, 3, 4, 10, 11, 15]) (.seq (.reg [⟨some 104, .mov (.t 15), none, false⟩, ⟨some 1, .mov (.t 104), none, false⟩] [0, 1, 2, 3, 4, 10, 11]) (.exit 1))) .skip)) (.seq (.reg [⟨some 106, .mov (.t 0), none, false⟩, ⟨some 107, .mov (.t 1), none, false⟩, ⟨some 108, .mov (.t 2), none, false⟩, ⟨some 109, .mov (.t 13), none, false⟩, ⟨some 110, .mov (.t 4), none, false⟩, ⟨some 111, .call (.c (.func 50 [] [])) [.t 106, .t 107, .t 108, .t 109, .t 110], none, false⟩, ⟨some 105, .mov (.t 111), none, false⟩, ⟨some 112, .ext (.t 105) 0, none, false⟩, ⟨some 113, .ext (.t 105) 1, none, false⟩, ⟨some 16, .mov (.t 112), none, false⟩, ⟨some 17, .mov (.t 113), none, false⟩] [0, 1, 2, 3, 4, 12, 16, 17]) (.seq (.reg [⟨some 114, .mov (.t 17), none, false⟩, ⟨some 11, .mov (.t 114), none, false⟩] [0, 1, 2, 3, 4, 11, 12, 16]) (.seq (.reg [⟨some 115, .mov (.t 16), none, false⟩, ⟨some 116, .mov (.t 1), none, false⟩, ⟨some 117, .bin .sub (.t 115) (.t 116), none, false⟩, ⟨some 118, .mov (.t 2), none, false⟩, ⟨some 119, .mov (.t 16), none, false⟩, ⟨some 120, .bin .sub (.t 118) (.t 119), none, false⟩, ⟨some 18, .mov (.t 117), none, false⟩, ⟨some 19, .mov (.t 120), none, false⟩] [0, 1, 2, 3, 4, 11, 12, 16, 18, 19]) (.seq (.reg [⟨some 121, .mov (.t 12), none, false⟩, ⟨some 122, .bin .quo (.t 121) (.c (.int .i64 8)), none, false⟩, ⟨some 20, .mov (.t 122), none, false⟩] [0, 1, 2, 3, 4, 11, 16, 18, 19, 20]) (.seq (.reg [⟨some 123, .mov (.t 18), none, false⟩, ⟨some 124, .mov (.t 19), none, false⟩, ⟨some 125, .bin .lss (.t 123) (.t 124), none, false⟩] [0, 1, 2, 3, 4, 11, 16, 18, 19, 20, 125]) (.cond (.t 125) (.seq (.reg [⟨some 126, .mov (.t 18), none, false⟩, ⟨some 127, .mov (.t 20), none, false⟩, ⟨some 128, .bin .geq (.t 126) (.t 127), none, false⟩, ⟨some 10, .mov (.t 128), none, false⟩] [0, 1, 2, 3, 4, 10, 11, 16]) (.seq (.reg [⟨some 129, .mov (.t 0), none, false⟩, ⟨some 130, .mov (.t 1), none, false⟩, ⟨some 131, .mov (.t 16), none, false⟩, ⟨some 132, .mov (.t 3), none, false⟩, ⟨some 133, .mov (.t 4), none, false⟩, ⟨some 134, .call (.c (.func 36 [] [])) [.t 129, .t 130, .t 131, .t 132, .t 133], none, false⟩] [0, 2, 3, 4, 10, 11, 16]) (.reg [⟨some 135, .mov (.t 16), none, false⟩, ⟨some 136, .bin .add (.t 135) (.c (.int .i64 1)), none, false⟩, ⟨some 1, .mov (.t 136), none, false⟩] [0, 1, 2, 3, 4, 10, 11]))) (.seq (.reg [⟨some 137, .mov (.t 19), none, false⟩, ⟨some 138, .mov (.t 20), none, false⟩, ⟨some 139, .bin .geq (.t 137) (.t 138), none, false⟩, ⟨some 10, .mov (.t 139), none, false⟩] [0, 1, 2, 3, 4, 10, 11, 16]) (.seq (.reg [⟨some 140, .mov (.t 0), none, false⟩, ⟨some 141, .mov (.t 16), none, false⟩, ⟨some 142, .bin .add (.t 141) (.c (.int .i64 1)), none, false⟩, ⟨some 143, .mov (.t 2), none, false⟩, ⟨some 144, .mov (.t 3), none, false⟩, ⟨some 145, .mov (.t 4), none, false⟩, ⟨some 146, .call (.c (.func 36 [] [])) [.t 140, .t 142, .t 143, .t 144, .t 145], none, false⟩] [0, 1, 3, 4, 10, 11, 16]) (.reg [⟨some 147, .mov (.t 16), none, false⟩, ⟨some 2, .mov (.t 147), none, false⟩] [0, 1, 2, 3, 4, 10, 11])))))))))))))))))))))
def x36 : XF := ⟨5, b36, []⟩
def h36 : Hints := fun id => match id with
  | 0 => [0, 1, 2, 3, 4, 10]
  | 1 => [0, 1, 2, 3, 4, 10, 11]
  | 2 => [0, 1, 2, 3, 4, 10, 11, 12]
  | 3 => [0, 1, 2, 3, 4, 10, 11, 12, 25]
  | 5 => [0, 1, 2, 3, 4, 10, 11, 12, 32]
  | 7 => [0, 1, 2, 3, 4, 10, 11, 12, 39]
  | 8 => [0, 1, 2, 3, 4, 10, 11, 12]
  | 9 => [0, 1, 2, 3, 4, 10, 11, 12]
  | 10 => [0, 1, 2, 3, 4, 10, 11, 12, 13, 14]
  | 11 => [0, 1, 2, 3, 4, 10, 11, 12, 13, 14, 56]
  | 12 => [0, 1, 2, 3, 4, 10, 11, 12, 13]
  | 13 => [0, 1, 2, 3, 4, 10, 11, 12, 13]
  | 14 => [0, 1, 2, 3, 4, 10, 11, 12, 13, 14]
  | 15 => [0, 1, 2, 3, 4, 10, 11, 12, 13, 75]
  | 16 => [0, 1, 2, 3, 4, 10, 11, 12, 13, 80]
  | 17 => [0, 1, 2, 3, 4, 10, 11, 12, 13, 97]
  | 18 => [0, 2, 3, 4, 10, 11, 15]
  | 19 => [0, 1, 2, 3, 4, 10, 11]
  | 20 => [0, 1, 2, 3, 4, 12, 16, 17]
  | 21 => [0, 1, 2, 3, 4, 11, 12, 16]
  | 22 => [0, 1, 2, 3, 4, 11, 12, 16, 18, 19]
  | 23 => [0, 1, 2, 3, 4, 11, 16, 18, 19, 20]
  | 24 => [0, 1, 2, 3, 4, 11, 16, 18, 19, 20, 125]
  | 25 => [0, 1, 2, 3, 4, 10, 11, 16]
  | 26 => [0, 2, 3, 4, 10, 11, 16]
  | 27 => [0, 1, 2, 3, 4, 10, 11]
  | 28 => [0, 1, 2, 3, 4, 10, 11, 16]
  | 29 => [0, 1, 3, 4, 10, 11, 16]
  | 30 => [0, 1, 2, 3, 4, 10, 11]
  | _ => []
theorem cv36 : cvF Try.prog h36 Try.f36 = some x36 := by kernel_rfl

/-- math/bits.Len -/
def b37 : XC := .seq (.reg [⟨some 2, .mov (.c (.int .i64 0)), none, false⟩] [0]) (.seq (.cond (.c (.bool false)) (.seq (.reg [⟨some 3, .mov (.t 0), none, false⟩, ⟨some 4, .toint .u32 (.t 3), none, false⟩, ⟨some 5, .call (.c (.func 51 [] [])) [.t 4], none, false⟩, ⟨some 2, .mov (.t 5), none, false⟩] [2]) .ret) .skip) (.seq (.reg [⟨some 6, .mov (.t 0), none, false⟩, ⟨some 7, .call (.c (.func 52 [] [])) [.t 6], none, false⟩, ⟨some 2, .mov (.t 7), none, false⟩] [2]) .ret))
def x37 : XF := ⟨1, b37, [.t 2]⟩
def h37 : Hints := fun id => match id with
  | 0 => [0]
  | 1 => [2]
  | 2 => [2]
  | _ => []
theorem cv37 : cvF Try.prog h37 Try.f37 = some x37 := by kernel_rfl

/-- cmp.Compare[int] -/
def b38 : XC := .seq (.reg [⟨some 4, .mov (.c (.int .i64 0)), none, false⟩] [0, 1]) (.seq (.reg [⟨some 7, .mov (.t 0), none, false⟩, ⟨some 8, .call (.c (.func 53 [] [])) [.t 7], none, false⟩, ⟨some 5, .mov (.t 8), none, false⟩] [0, 1, 5]) (.seq (.reg [⟨some 9, .mov (.t 1), none, false⟩, ⟨some 10, .call (.c (.func 53 [] [])) [.t 9], none, false⟩, ⟨some 6, .mov (.t 10), none, false⟩] [0, 1, 5, 6]) (.seq (.seq (.reg [⟨some 11, .mov (.t 5), none, false⟩] [0, 1, 6, 11]) (.cond (.t 11) (.seq (.seq (.reg [⟨some 12, .mov (.t 6), none, false⟩] [12]) (.cond (.t 12) (.seq (.reg [⟨some 4, .mov (.c (.int .i64 0)), none, false⟩] [4]) .ret) .skip)) (.seq (.reg [⟨some 4, .mov (.c (.int .i64 (-1))), none, false⟩] [4]) .ret)) .skip)) (.seq (.seq (.reg [⟨some 13, .mov (.t 6), none, false⟩] [0, 1, 13]) (.cond (.t 13) (.seq (.reg [⟨some 4, .mov (.c (.int .i64 1)), none, false⟩] [4]) .ret) .skip)) (.seq (.seq (.reg [⟨some 14, .mov (.t 0), none, false⟩, ⟨some 15, .mov (.t 1), none, false⟩, ⟨some 16, .bin .lss (.t 14) (.t 15), none, false⟩] [0, 1, 16]) (.cond (.t 16) (.seq (.reg [⟨some 4, .mov (.c (.int .i64 (-1))), none, false⟩] [4]) .ret) .skip)) (.seq (.seq (.reg [⟨some 17, .mov (.t 0), none, false⟩, ⟨some 18, .mov (.t 1), none, false⟩, ⟨some 19, .bin .gtr (.t 17) (.t 18), none, false⟩] [19]) (.cond (.t 19) (.seq (.reg [⟨some 4, .mov (.c (.int .i64 1)), none, false⟩] [4]) .ret) .skip)) (.seq (.reg [⟨some 4, .mov (.c (.int .i64 0)), none, false⟩] [4]) .ret)))))))
def x38 : XF := ⟨2, b38, [.t 4]⟩
def h38 : Hints := fun id => match id with
  | 0 => [0, 1]
  | 1 => [0, 1, 5]
  | 2 => [0, 1, 5, 6]
  | 3 => [0, 1, 6, 11]
  | 4 => [12]
  | 5 => [4]
  | 6 => [4]
  | 7 => [0, 1, 13]
  | 8 => [4]
  | 9 => [0, 1, 16]
  | 10 => [4]
  | 11 => [19]
  | 12 => [4]
  | 13 => [4]
  | _ => []
theorem cv38 : cvF Try.prog h38 Try.f38 = some x38 := by kernel_rfl

/-- cmp.Compare[string] -/
def b39 : XC := .seq (.reg [⟨some 4, .mov (.c (.int .i64 0)), none, false⟩] [0, 1]) (.seq (.reg [⟨some 7, .mov (.t 0), none, false⟩, ⟨some 8, .call (.c (.func 54 [] [])) [.t 7], none, false⟩, ⟨some 5, .mov (.t 8), none, false⟩] [0, 1, 5]) (.seq (.reg [⟨some 9, .mov (.t 1), none, false⟩, ⟨some 10, .call (.c (.func 54 [] [])) [.t 9], none, false⟩, ⟨some 6, .mov (.t 10), none, false⟩] [0, 1, 5, 6]) (.seq (.seq (.reg [⟨some 11, .mov (.t 5), none, false⟩] [0, 1, 6, 11]) (.cond (.t 11) (.seq (.seq (.reg [⟨some 12, .mov (.t 6), none, false⟩] [12]) (.cond (.t 12) (.seq (.reg [⟨some 4, .mov (.c (.int .i64 0)), none, false⟩] [4]) .ret) .skip)) (.seq (.reg [⟨some 4, .mov (.c (.int .i64 (-1))), none, false⟩] [4]) .ret)) .skip)) (.seq (.seq (.reg [⟨some 13, .mov (.t 6), none, false⟩] [0, 1, 13]) (.cond (.t 13) (.seq (.reg [⟨some 4, .mov (.c (.int .i64 1)), none, false⟩] [4]) .ret) .skip)) (.seq (.seq (.reg [⟨some 14, .mov (.t 0), none, false⟩, ⟨some 15, .mov (.t 1), none, false⟩, ⟨some 16, .bin .lss (.t 14) (.t 15), none, false⟩] [0, 1, 16]) (.cond (.t 16) (.seq (.reg [⟨some 4, .mov (.c (.int .i64 (-1))), none, false⟩] [4]) .ret) .skip)) (.seq (.seq (.reg [⟨some 17, .mov (.t 0), none, false⟩, ⟨some 18, .mov (.t 1), none, false⟩, ⟨some 19, .bin .gtr (.t 17) (.t 18), none, false⟩] [19]) (.cond (.t 19) (.seq (.reg [⟨some 4, .mov (.c (.int .i64 1)), none, false⟩] [4]) .ret) .skip)) (.seq (.reg [⟨some 4, .mov (.c (.int .i64 0)), none, false⟩] [4]) .ret)))))))
def x39 : XF := ⟨2, b39, [.t 4]⟩
def h39 : Hints := fun id => match id with
  | 0 => [0, 1]
  | 1 => [0, 1, 5]
  | 2 => [0, 1, 5, 6]
  | 3 => [0, 1, 6, 11]
  | 4 => [12]
  | 5 => [4]
  | 6 => [4]
  | 7 => [0, 1, 13]
  | 8 => [4]
  | 9 => [0, 1, 16]
  | 10 => [4]
  | 11 => [19]
  | 12 => [4]
  | 13 => [4]
  | _ => []
theorem cv39 : cvF Try.prog h39 Try.f39 = some x39 := by kernel_rfl

/-- winnower/value.truth -/
def b40 : XC := .seq (.reg [⟨some 2, .mov (.c (.int .i64 0)), none, false⟩] [0]) (.seq (.seq (.reg [⟨some 3, .mov (.t 0), none, false⟩] [3]) (.cond (.t 3) (.seq (.reg [⟨some 2, .mov (.c (.int .i64 1)), none, false⟩] [2]) .ret) .skip)) (.seq (.reg [⟨some 2, .mov (.c (.int .i64 0)), none, false⟩] [2]) .ret))
def x40 : XF := ⟨1, b40, [.t 2]⟩
def h40 : Hints := fun id => match id with
  | 0 => [0]
  | 1 => [3]
  | 2 => [2]
  | 3 => [2]
  | _ => []
theorem cv40 : cvF Try.prog h40 Try.f40 = some x40 := by kernel_rfl

/-- winnower/dict.first[winnower/api.Value] -/
def b41 : XC := .seq (.reg [⟨some 4, .mov (.c (.int .i64 0)), none, false⟩] [0, 1]) (.seq (.reg [⟨some 8, .mov (.t 0), none, false⟩, ⟨some 9, .len 4 (.t 8), none, false⟩, ⟨some 5, .mov (.c (.int .i64 0)), none, false⟩, ⟨some 6, .mov (.t 9), none, false⟩] [0, 1, 5, 6]) (.seq (.block 0 (.loop (.seq (.seq (.reg [⟨some 10, .mov (.t 5), none, false⟩, ⟨some 11, .mov (.t 6), none, false⟩, ⟨some 12, .bin .lss (.t 10) (.t 11), none, false⟩] [0, 1, 5, 6, 12]) (.cond (.t 12) .skip (.exit 0))) (.block 1 (.seq (.reg [⟨some 13, .mov (.t 5), none, false⟩, ⟨some 14, .mov (.t 6), none, false⟩, ⟨some 15, .bin .add (.t 13) (.t 14), none, false⟩, ⟨some 16, .bin .quo (.t 15) (.c (.int .i64 2)), none, false⟩, ⟨some 7, .mov (.t 16), none, false⟩] [0, 1, 5, 6, 7]) (.seq (.reg [⟨some 17, .mov (.t 1), none, false⟩, ⟨some 18, .mov (.t 0), none, false⟩, ⟨some 19, .mov (.t 7), none, false⟩, ⟨some 20, .iaddr 4 (.t 18) (.t 19), none, false⟩, ⟨some 21, .load true 4 (.t 20), none, false⟩, ⟨some 22, .call (.t 17) [.t 21], none, false⟩] [0, 1, 5, 6, 7, 22]) (.cond (.t 22) (.reg [⟨some 23, .mov (.t 7), none, false⟩, ⟨some 6, .mov (.t 23), none, false⟩] [0, 1, 5, 6]) (.reg [⟨some 24, .mov (.t 7), none, false⟩, ⟨some 25, .bin .add (.t 24) (.c (.int .i64 1)), none, false⟩, ⟨some 5, .mov (.t 25), none, false⟩] [0, 1, 5, 6])))))))) (.seq (.reg [⟨some 26, .mov (.t 5), none, false⟩, ⟨some 4, .mov (.t 26), none, false⟩] [4]) .ret)))
def x41 : XF := ⟨2, b41, [.t 4]⟩
def h41 : Hints := fun id => match id with
  | 0 => [0, 1]
  | 1 => [0, 1, 5, 6]
  | 2 => [0, 1, 5, 6, 12]
  | 3 => [0, 1, 5, 6, 7]
  | 4 => [0, 1, 5, 6, 7, 22]
  | 5 => [0, 1, 5, 6]
  | 6 => [0, 1, 5, 6]
  | 7 => [4]
  | _ => []
theorem cv41 : cvF Try.prog h41 Try.f41 = some x41 := by kernel_rfl

/-- winnower/dict.search$1 -/
def b42 : XC := .seq (.reg [⟨some 2, .box 24 (.t 0), none, false⟩, ⟨some 3, .mov (.c (.bool false)), none, false⟩] [1, 2]) (.seq (.reg [⟨some 4, .load true 4 (.t 2), none, false⟩, ⟨some 5, .load true 4 (.t 1), none, false⟩, ⟨some 6, .call (.c (.func 32 [] [])) [.t 4, .t 5], none, false⟩, ⟨some 7, .bin .geq (.t 6) (.c (.int .i64 0)), none, false⟩, ⟨some 3, .mov (.t 7), none, false⟩] [3]) .ret)
def x42 : XF := ⟨2, b42, [.t 3]⟩
def h42 : Hints := fun id => match id with
  | 0 => [1, 2]
  | 1 => [3]
  | _ => []
theorem cv42 : cvF Try.prog h42 Try.f42 = some x42 := by kernel_rfl

/-- slices.insertionSortCmpFunc[winnower/api.Value] -/
def b43 : XC := .seq (.reg [⟨some 10, .mov (.t 1), none, false⟩, ⟨some 11, .bin .add (.t 10) (.c (.int .i64 1)), none, false⟩, ⟨some 8, .mov (.t 11), none, false⟩] [0, 1, 2, 3, 8]) (.block 0 (.loop (.seq (.seq (.reg [⟨some 12, .mov (.t 8), none, false⟩, ⟨some 13, .mov (.t 2), none, false⟩, ⟨some 14, .bin .lss (.t 12) (.t 13), none, false⟩] [0, 1, 2, 3, 8, 14]) (.cond (.t 14) .skip (.exit 0))) (.seq (.block 1 (.seq (.reg [⟨some 17, .mov (.t 8), none, false⟩, ⟨some 9, .mov (.t 17), none, false⟩] [0, 1, 2, 3, 8, 9]) (.block 2 (.loop (.seq (.seq (.reg [⟨some 18, .mov (.t 9), none, false⟩, ⟨some 19, .mov (.t 1), none, false⟩, ⟨some 20, .bin .gtr (.t 18) (.t 19), none, false⟩, ⟨some 21, .mov (.t 20), none, false⟩, ⟨some 22, .mov (.t 3), some (21, true), false⟩, ⟨some 23, .mov (.t 0), some (21, true), false⟩, ⟨some 24, .mov (.t 9), some (21, true), false⟩, ⟨some 25, .iaddr 4 (.t 23) (.t 24), some (21, true), false⟩, ⟨some 26, .load true 4 (.t 25), some (21, true), false⟩, ⟨some 27, .mov (.t 0), some (21, true), false⟩, ⟨some 28, .mov (.t 9), some (21, true), false⟩, ⟨some 29, .bin .sub (.t 28) (.c (.int .i64 1)), some (21, true), false⟩, ⟨some 30, .iaddr 4 (.t 27) (.t 29), some (21, true), false⟩, ⟨some 31, .load true 4 (.t 30), some (21, true), false⟩, ⟨some 32, .call (.t 22) [.t 26, .t 31], some (21, true), false⟩, ⟨some 33, .bin .lss (.t 32) (.c (.int .i64 0)), some (21, true), false⟩, ⟨some 34, .pick (.t 21) (.t 33) (.c (.bool false)), none, false⟩] [0, 1, 2, 3, 8, 9, 34]) (.cond (.t 34) .skip (.exit 2))) (.seq (.block 3 (.reg [⟨some 37, .mov (.t 0), none, false⟩, ⟨some 38, .mov (.t 9), none, false⟩, ⟨some 39, .mov (.t 0), none, false⟩, ⟨some 40, .mov (.t 9), none, false⟩, ⟨some 41, .bin .sub (.t 40) (.c (.int .i64 1)), none, false⟩, ⟨some 42, .mov (.t 0), none, false⟩, ⟨some 43, .mov (.t 9), none, false⟩, ⟨some 44, .bin .sub (.t 43) (.c (.int .i64 1)), none, false⟩, ⟨some 45, .iaddr 4 (.t 42) (.t 44), none, false⟩, ⟨some 46, .load true 4 (.t 45), none, false⟩, ⟨some 47, .mov (.t 0), none, false⟩, ⟨some 48, .mov (.t 9), none, false⟩, ⟨some 49, .iaddr 4 (.t 47) (.t 48), none, false⟩, ⟨some 50, .load true 4 (.t 49), none, false⟩, ⟨some 51, .iaddr 4 (.t 37) (.t 38), none, false⟩, ⟨none, .store 4 (.t 51) (.t 46), none, false⟩, ⟨some 52, .iaddr 4 (.t 39) (.t 41), none, false⟩, ⟨none, .store 4 (.t 52) (.t 50), none, false⟩] [0, 1, 2, 3, 8, 9])) (.reg [⟨some 35, .mov (.t 9), none, false⟩, ⟨some 36, .bin .sub (.t 35) (.c (.int .i64 1)), none, false⟩, ⟨some 9, .mov (.t 36), none, false⟩] [0, 1, 2, 3, 8, 9]))))))) (.reg [⟨some 15, .mov (.t 8), none, false⟩, ⟨some 16, .bin .add (.t 15) (.c (.int .i64 1)), none, false⟩, ⟨some 8, .mov (.t 16), none, false⟩] [0, 1, 2, 3, 8])))))
def x43 : XF := ⟨4, b43, []⟩
def h43 : Hints := fun id => match id with
  | 0 => [0, 1, 2, 3, 8]
  | 1 => [0, 1, 2, 3, 8, 14]
  | 2 => [0, 1, 2, 3, 8]
  | 3 => [0, 1, 2, 3, 8, 9]
  | 4 => [0, 1, 2, 3, 8, 9, 34]
  | 5 => [0, 1, 2, 3, 8, 9]
  | 6 => [0, 1, 2, 3, 8, 9]
  | _ => []
theorem cv43 : cvF Try.prog h43 Try.f43 = some x43 := by kernel_rfl

/-- slices.heapSortCmpFunc[winnower/api.Value] -/
def b44 : XC := .seq (.reg [⟨some 13, .mov (.t 1), none, false⟩, ⟨some 8, .mov (.t 13), none, false⟩] [0, 1, 2, 3, 8]) (.seq (.reg [⟨some 9, .mov (.c (.int .i64 0)), none, false⟩] [0, 1, 2, 3, 8, 9]) (.seq (.reg [⟨some 14, .mov (.t 2), none, false⟩, ⟨some 15, .mov (.t 1), none, false⟩, ⟨some 16, .bin .sub (.t 14) (.t 15), none, false⟩, ⟨some 10, .mov (.t 16), none, false⟩] [0, 3, 8, 9, 10]) (.seq (.seq (.reg [⟨some 17, .mov (.t 10), none, false⟩, ⟨some 18, .bin .sub (.t 17) (.c (.int .i64 1)), none, false⟩, ⟨some 19, .bin .quo (.t 18) (.c (.int .i64 2)), none, false⟩, ⟨some 11, .mov (.t 19), none, false⟩] [0, 3, 8, 9, 10, 11]) (.block 0 (.loop (.seq (.seq (.reg [⟨some 20, .mov (.t 11), none, false⟩, ⟨some 21, .bin .geq (.t 20) (.c (.int .i64 0)), none, false⟩] [0, 3, 8, 9, 10, 11, 21]) (.cond (.t 21) .skip (.exit 0))) (.seq (.block 1 (.reg [⟨some 24, .mov (.t 0), none, false⟩, ⟨some 25, .mov (.t 11), none, false⟩, ⟨some 26, .mov (.t 10), none, false⟩, ⟨some 27, .mov (.t 8), none, false⟩, ⟨some 28, .mov (.t 3), none, false⟩, ⟨some 29, .call (.c (.func 55 [] [])) [.t 24, .t 25, .t 26, .t 27, .t 28], none, false⟩] [0, 3, 8, 9, 10, 11])) (.reg [⟨some 22, .mov (.t 11), none, false⟩, ⟨some 23, .bin .sub (.t 22) (.c (.int .i64 1)), none, false⟩, ⟨some 11, .mov (.t 23), none, false⟩] [0, 3, 8, 9, 10, 11])))))) (.seq (.reg [⟨some 30, .mov (.t 10), none, false⟩, ⟨some 31, .bin .sub (.t 30) (.c (.int .i64 1)), none, false⟩, ⟨some 12, .mov (.t 31), none, false⟩] [0, 3, 8, 9, 12]) (.block 2 (.loop (.seq (.seq (.reg [⟨some 32, .mov (.t 12), none, false⟩, ⟨some 33, .bin .geq (.t 32) (.c (.int .i64 0)), none, false⟩] [0, 3, 8, 9, 12, 33]) (.cond (.t 33) .skip (.exit 2))) (.seq (.block 3 (.seq (.reg [⟨some 36, .mov (.t 0), none, false⟩, ⟨some 37, .mov (.t 8), none, false⟩, ⟨some 38, .mov (.t 0), none, false⟩, ⟨some 39, .mov (.t 8), none, false⟩, ⟨some 40, .mov (.t 12), none, false⟩, ⟨some 41, .bin .add (.t 39) (.t 40), none, false⟩, ⟨some 42, .mov (.t 0), none, false⟩, ⟨some 43, .mov (.t 8), none, false⟩, ⟨some 44, .mov (.t 12), none, false⟩, ⟨some 45, .bin .add (.t 43) (.t 44), none, false⟩, ⟨some 46, .iaddr 4 (.t 42) (.t 45), none, false⟩, ⟨some 47, .load true 4 (.t 46), none, false⟩, ⟨some 48, .mov (.t 0), none, false⟩, ⟨some 49, .mov (.t 8), none, false⟩, ⟨some 50, .iaddr 4 (.t 48) (.t 49), none, false⟩, ⟨some 51, .load true 4 (.t 50), none, false⟩, ⟨some 52, .iaddr 4 (.t 36) (.t 37), none, false⟩, ⟨none, .store 4 (.t 52) (.t 47), none, false⟩, ⟨some 53, .iaddr 4 (.t 38) (.t 41), none, false⟩, ⟨none, .store 4 (.t 53) (.t 51), none, false⟩] [0, 3, 8, 9, 12]) (.reg [⟨some 54, .mov (.t 0), none, false⟩, ⟨some 55, .mov (.t 9), none, false⟩, ⟨some 56, .mov (.t 12), none, false⟩, ⟨some 57, .mov (.t 8), none, false⟩, ⟨some 58, .mov (.t 3), none, false⟩, ⟨some 59, .call (.c (.func 55 [] [])) [.t 54, .t 55, .t 56, .t 57, .t 58], none, false⟩] [0, 3, 8, 9, 12]))) (.reg [⟨some 34, .mov (.t 12), none, false⟩, ⟨some 35, .bin .sub (.t 34) (.c (.int .i64 1)), none, false⟩, ⟨some 12, .mov (.t 35), none, false⟩] [0, 3, 8, 9, 12])))))))))
def x44 : XF := ⟨4, b44, []⟩
def h44 : Hints := fun id => match id with
  | 0 => [0, 1, 2, 3, 8]
  | 1 => [0, 1, 2, 3, 8, 9]
  | 2 => [0, 3, 8, 9, 10]
  | 3 => [0, 3, 8, 9, 10, 11]
  | 4 => [0, 3, 8, 9, 10, 11, 21]
  | 5 => [0, 3, 8, 9, 10, 11]
  | 6 => [0, 3, 8, 9, 10, 11]
  | 7 => [0, 3, 8, 9, 12]
  | 8 => [0, 3, 8, 9, 12, 33]
  | 9 => [0, 3, 8, 9, 12]
  | 10 => [0, 3, 8, 9, 12]
  | 11 => [0, 3, 8, 9, 12]
  | _ => []
theorem cv44 : cvF Try.prog h44 Try.f44 = some x44 := by kernel_rfl

/-- slices.breakPatternsCmpFunc[winnower/api.Value] -/
def b45 : XC := .seq (.reg [⟨some 13, .mov (.t 2), none, false⟩, ⟨some 14, .mov (.t 1), none, false⟩, ⟨some 15, .bin .sub (.t 13) (.t 14), none, false⟩, ⟨some 8, .mov (.t 15), none, false⟩] [0, 1, 8]) (.seq (.reg [⟨some 16, .mov (.t 8), none, false⟩, ⟨some 17, .bin .geq (.t 16) (.c (.int .i64 8)), none, false⟩] [0, 1, 8, 17]) (.cond (.t 17) (.seq (.reg [⟨some 18, .mov (.t 8), none, false⟩, ⟨some 19, .toint .u64 (.t 18), none, false⟩, ⟨some 9, .alloc 78 [.int .u64 0], none, false⟩, ⟨none, .store 1 (.t 9) (.t 19), none, false⟩] [0, 1, 8, 9]) (.seq (.reg [⟨some 20, .mov (.t 8), none, false⟩, ⟨some 21, .call (.c (.func 56 [] [])) [.t 20], none, false⟩, ⟨some 10, .mov (.t 21), none, false⟩] [0, 1, 8, 9, 10]) (.seq (.reg [⟨some 22, .mov (.t 1), none, false⟩, ⟨some 23, .mov (.t 8), none, false⟩, ⟨some 24, .bin .quo (.t 23) (.c (.int .i64 4)), none, false⟩, ⟨some 25, .bin .mul (.t 24) (.c (.int .i64 2)), none, false⟩, ⟨some 26, .bin .add (.t 22) (.t 25), none, false⟩, ⟨some 27, .bin .sub (.t 26) (.c (.int .i64 1)), none, false⟩, ⟨some 11, .mov (.t 27), none, false⟩] [0, 1, 8, 9, 10, 11]) (.block 0 (.loop (.seq (.seq (.reg [⟨some 28, .mov (.t 11), none, false⟩, ⟨some 29, .mov (.t 1), none, false⟩, ⟨some 30, .mov (.t 8), none, false⟩, ⟨some 31, .bin .quo (.t 30) (.c (.int .i64 4)), none, false⟩, ⟨some 32, .bin .mul (.t 31) (.c (.int .i64 2)), none, false⟩, ⟨some 33, .bin .add (.t 29) (.t 32), none, false⟩, ⟨some 34, .bin .add (.t 33) (.c (.int .i64 1)), none, false⟩, ⟨some 35, .bin .leq (.t 28) (.t 34), none, false⟩] [0, 1, 8, 9, 10, 11, 35]) (.cond (.t 35) .skip (.exit 0))) (.seq (.block 1 (.seq (.reg [⟨some 38, .call (.c (.func 57 [] [])) [.t 9], none, false⟩, ⟨some 39, .mov (.t 10), none, false⟩, ⟨some 40, .bin .sub (.t 39) (.c (.int .u64 1)), none, false⟩, ⟨some 41, .bin .and (.t 38) (.t 40), none, false⟩, ⟨some 42, .toint .i64 (.t 41), none, false⟩, ⟨some 12, .mov (.t 42), none, false⟩] [0, 1, 8, 9, 10, 11, 12]) (.seq (.seq (.reg [⟨some 43, .mov (.t 12), none, false⟩, ⟨some 44, .mov (.t 8), none, false⟩, ⟨some 45, .bin .geq (.t 43) (.t 44), none, false⟩] [0, 1, 8, 9, 10, 11, 12, 45]) (.cond (.t 45) (.reg [⟨some 46, .mov (.t 12), none, false⟩, ⟨some 47, .mov (.t 8), none, false⟩, ⟨some 48, .bin .sub (.t 46) (.t 47), none, false⟩, ⟨some 12, .mov (.t 48), none, false⟩] [0, 1, 8, 9, 10, 11, 12]) .skip)) (.reg [⟨some 49, .mov (.t 0), none, false⟩, ⟨some 50, .mov (.t 11), none, false⟩, ⟨some 51, .mov (.t 0), none, false⟩, ⟨some 52, .mov (.t 1), none, false⟩, ⟨some 53, .mov (.t 12), none, false⟩, ⟨some 54, .bin .add (.t 52) (.t 53), none, false⟩, ⟨some 55, .mov (.t 0), none, false⟩, ⟨some 56, .mov (.t 1), none, false⟩, ⟨some 57, .mov (.t 12), none, false⟩, ⟨some 58, .bin .add (.t 56) (.t 57), none, false⟩, ⟨some 59, .iaddr 4 (.t 55) (.t 58), none, false⟩, ⟨some 60, .load true 4 (.t 59), none, false⟩, ⟨some 61, .mov (.t 0), none, false⟩, ⟨some 62, .mov (.t 11), none, false⟩, ⟨some 63, .iaddr 4 (.t 61) (.t 62), none, false⟩, ⟨some 64, .load true 4 (.t 63), none, false⟩, ⟨some 65, .iaddr 4 (.t 49) (.t 50), none, false⟩, ⟨none, .store 4 (.t 65) (.t 60), none, false⟩, ⟨some 66, .iaddr 4 (.t 51) (.t 54), none, false⟩, ⟨none, .store 4 (.t 66) (.t 64), none, false⟩] [0, 1, 8, 9, 10, 11])))) (.reg [⟨some 36, .mov (.t 11), none, false⟩, ⟨some 37, .bin .add (.t 36) (.c (.int .i64 1)), none, false⟩, ⟨some 11, .mov (.t 37), none, false⟩] [0, 1, 8, 9, 10, 11])))))))) .skip))
def x45 : XF := ⟨4, b45, []⟩
def h45 : Hints := fun id => match id with
  | 0 => [0, 1, 8]
  | 1 => [0, 1, 8, 17]
  | 2 => [0, 1, 8, 9]
  | 3 => [0, 1, 8, 9, 10]
  | 4 => [0, 1, 8, 9, 10, 11]
  | 5 => [0, 1, 8, 9, 10, 11, 35]
  | 6 => [0, 1, 8, 9, 10, 11]
  | 7 => [0, 1, 8, 9, 10, 11, 12]
  | 8 => [0, 1, 8, 9, 10, 11, 12, 45]
  | 9 => [0, 1, 8, 9, 10, 11, 12]
  | 10 => [0, 1, 8, 9, 10, 11]
  | _ => []
theorem cv45 : cvF Try.prog h45 Try.f45 = some x45 := by kernel_rfl

/-- slices.choosePivotCmpFunc[winnower/api.Value] -/
def b46 : XC := .seq (.reg [⟨some 8, .mov (.c (.int .i64 0)), none, false⟩, ⟨some 9, .mov (.c (.int .i64 0)), none, false⟩] [0, 1, 2, 3]) (.seq (.reg [⟨some 15, .mov (.t 2), none, false⟩, ⟨some 16, .mov (.t 1), none, false⟩, ⟨some 17, .bin .sub (.t 15) (.t 16), none, false⟩, ⟨some 10, .mov (.t 17), none, false⟩] [0, 1, 3, 10]) (.seq (.reg [⟨some 11, .alloc 3 [.int .i64 0], none, false⟩] [0, 1, 3, 10, 11]) (.seq (.reg [⟨some 18, .mov (.t 1), none, false⟩, ⟨some 19, .mov (.t 10), none, false⟩, ⟨some 20, .bin .quo (.t 19) (.c (.int .i64 4)), none, false⟩, ⟨some 21, .bin .mul (.t 20) (.c (.int .i64 1)), none, false⟩, ⟨some 22, .bin .add (.t 18) (.t 21), none, false⟩, ⟨some 12, .mov (.t 22), none, false⟩] [0, 1, 3, 10, 11, 12]) (.seq (.reg [⟨some 23, .mov (.t 1), none, false⟩, ⟨some 24, .mov (.t 10), none, false⟩, ⟨some 25, .bin .quo (.t 24) (.c (.int .i64 4)), none, false⟩, ⟨some 26, .bin .mul (.t 25) (.c (.int .i64 2)), none, false⟩, ⟨some 27, .bin .add (.t 23) (.t 26), none, false⟩, ⟨some 13, .mov (.t 27), none, false⟩] [0, 1, 3, 10, 11, 12, 13]) (.seq (.reg [⟨some 28, .mov (.t 1), none, false⟩, ⟨some 29, .mov (.t 10), none, false⟩, ⟨some 30, .bin .quo (.t 29) (.c (.int .i64 4)), none, false⟩, ⟨some 31, .bin .mul (.t 30) (.c (.int .i64 3)), none, false⟩, ⟨some 32, .bin .add (.t 28) (.t 31), none, false⟩, ⟨some 14, .mov (.t 32), none, false⟩] [0, 3, 10, 11, 12, 13, 14]) (.seq (.seq (.reg [⟨some 33, .mov (.t 10), none, false⟩, ⟨some 34, .bin .geq (.t 33) (.c (.int .i64 8)), none, false⟩] [0, 3, 10, 11, 12, 13, 14, 34]) (.cond (.t 34) (.seq (.seq (.reg [⟨some 35, .mov (.t 10), none, false⟩, ⟨some 36, .bin .geq (.t 35) (.c (.int .i64 50)), none, false⟩] [0, 3, 11, 12, 13, 14, 36]) (.cond (.t 36) (.seq (.reg [⟨some 37, .mov (.t 0), none, false⟩, ⟨some 38, .mov (.t 12), none, false⟩, ⟨some 39, .mov (.t 3), none, false⟩, ⟨some 40, .call (.c (.func 58 [] [])) [.t 37, .t 38, .t 11, .t 39], none, false⟩, ⟨some 12, .mov (.t 40), none, false⟩] [0, 3, 11, 12, 13, 14]) (.seq (.reg [⟨some 41, .mov (.t 0), none, false⟩, ⟨some 42, .mov (.t 13), none, false⟩, ⟨some 43, .mov (.t 3), none, false⟩, ⟨some 44, .call (.c (.func 58 [] [])) [.t 41, .t 42, .t 11, .t 43], none, false⟩, ⟨some 13, .mov (.t 44), none, false⟩] [0, 3, 11, 12, 13, 14]) (.reg [⟨some 45, .mov (.t 0), none, false⟩, ⟨some 46, .mov (.t 14), none, false⟩, ⟨some 47, .mov (.t 3), none, false⟩, ⟨some 48, .call (.c (.func 58 [] [])) [.t 45, .t 46, .t 11, .t 47], none, false⟩, ⟨some 14, .mov (.t 48), none, false⟩] [0, 3, 11, 12, 13, 14]))) .skip)) (.reg [⟨some 49, .mov (.t 0), none, false⟩, ⟨some 50, .mov (.t 12), none, false⟩, ⟨some 51, .mov (.t 13), none, false⟩, ⟨some 52, .mov (.t 14), none, false⟩, ⟨some 53, .mov (.t 3), none, false⟩, ⟨some 54, .call (.c (.func 59 [] [])) [.t 49, .t 50, .t 51, .t 52, .t 11, .t 53], none, false⟩, ⟨some 13, .mov (.t 54), none, false⟩] [11, 13])) .skip)) (.seq (.reg [⟨some 55, .load false 1 (.t 11), none, false⟩] [13, 55]) (.block 0 (.seq (.reg [⟨some 58, .bin .eql (.t 55) (.c (.int .i64 0)), none, false⟩, ⟨some 57, .mov (.t 58), none, false⟩] [13, 55, 57]) (.cond (.t 57) (.seq (.reg [⟨some 59, .mov (.t 13), none, false⟩, ⟨some 8, .mov (.t 59), none, false⟩, ⟨some 9, .mov (.c (.int .i64 1)), none, false⟩] [8, 9]) .ret) (.seq (.reg [⟨some 61, .bin .eql (.t 55) (.c (.int .i64 12)), none, false⟩, ⟨some 60, .mov (.t 61), none, false⟩] [13, 60]) (.cond (.t 60) (.seq (.reg [⟨some 62, .mov (.t 13), none, false⟩, ⟨some 8, .mov (.t 62), none, false⟩, ⟨some 9, .mov (.c (.int .i64 2)), none, false⟩] [8, 9]) .ret) (.seq (.reg [⟨some 56, .mov (.t 13), none, false⟩, ⟨some 8, .mov (.t 56), none, false⟩, ⟨some 9, .mov (.c (.int .i64 0)), none, false⟩] [8, 9]) .ret)))))))))))))
def x46 : XF := ⟨4, b46, [.t 8, .t 9]⟩
def h46 : Hints := fun id => match id with
  | 0 => [0, 1, 2, 3]
  | 1 => [0, 1, 3, 10]
  | 2 => [0, 1, 3, 10, 11]
  | 3 => [0, 1, 3, 10, 11, 12]
  | 4 => [0, 1, 3, 10, 11, 12, 13]
  | 5 => [0, 3, 10, 11, 12, 13, 14]
  | 6 => [0, 3, 10, 11, 12, 13, 14, 34]
  | 7 => [0, 3, 11, 12, 13, 14, 36]
  | 8 => [0, 3, 11, 12, 13, 14]
  | 9 => [0, 3, 11, 12, 13, 14]
  | 10 => [0, 3, 11, 12, 13, 14]
  | 11 => [11, 13]
  | 12 => [13, 55]
  | 13 => [8, 9]
  | 14 => [13, 55, 57]
  | 15 => [8, 9]
  | 16 => [13, 60]
  | 17 => [8, 9]
  | _ => []
theorem cv46 : cvF Try.prog h46 Try.f46 = some x46 := by kernel_rfl

/-- slices.reverseRangeCmpFunc[winnower/api.Value] -/
def b47 : XC := .seq (.reg [⟨some 10, .mov (.t 1), none, false⟩, ⟨some 8, .mov (.t 10), none, false⟩] [0, 2, 8]) (.seq (.reg [⟨some 11, .mov (.t 2), none, false⟩, ⟨some 12, .bin .sub (.t 11) (.c (.int .i64 1)), none, false⟩, ⟨some 9, .mov (.t 12), none, false⟩] [0, 8, 9]) (.block 0 (.loop (.seq (.seq (.reg [⟨some 13, .mov (.t 8), none, false⟩, ⟨some 14, .mov (.t 9), none, false⟩, ⟨some 15, .bin .lss (.t 13) (.t 14), none, false⟩] [0, 8, 9, 15]) (.cond (.t 15) .skip (.exit 0))) (.block 1 (.seq (.reg [⟨some 16, .mov (.t 0), none, false⟩, ⟨some 17, .mov (.t 8), none, false⟩, ⟨some 18, .mov (.t 0), none, false⟩, ⟨some 19, .mov (.t 9), none, false⟩, ⟨some 20, .mov (.t 0), none, false⟩, ⟨some 21, .mov (.t 9), none, false⟩, ⟨some 22, .iaddr 4 (.t 20) (.t 21), none, false⟩, ⟨some 23, .load true 4 (.t 22), none, false⟩, ⟨some 24, .mov (.t 0), none, false⟩, ⟨some 25, .mov (.t 8), none, false⟩, ⟨some 26, .iaddr 4 (.t 24) (.t 25), none, false⟩, ⟨some 27, .load true 4 (.t 26), none, false⟩, ⟨some 28, .iaddr 4 (.t 16) (.t 17), none, false⟩, ⟨none, .store 4 (.t 28) (.t 23), none, false⟩, ⟨some 29, .iaddr 4 (.t 18) (.t 19), none, false⟩, ⟨none, .store 4 (.t 29) (.t 27), none, false⟩] [0, 8, 9]) (.seq (.reg [⟨some 30, .mov (.t 8), none, false⟩, ⟨some 31, .bin .add (.t 30) (.c (.int .i64 1)), none, false⟩, ⟨some 8, .mov (.t 31), none, false⟩] [0, 8, 9]) (.reg [⟨some 32, .mov (.t 9), none, false⟩, ⟨some 33, .bin .sub (.t 32) (.c (.int .i64 1)), none, false⟩, ⟨some 9, .mov (.t 33), none, false⟩] [0, 8, 9]))))))))
def x47 : XF := ⟨4, b47, []⟩
def h47 : Hints := fun id => match id with
  | 0 => [0, 2, 8]
  | 1 => [0, 8, 9]
  | 2 => [0, 8, 9, 15]
  | 3 => [0, 8, 9]
  | 4 => [0, 8, 9]
  | 5 => [0, 8, 9]
  | _ => []
theorem cv47 : cvF Try.prog h47 Try.f47 = some x47 := by kernel_rfl

/-- slices.partialInsertionSortCmpFunc[winnower/api.Value] -/
def b48 : XC := .seq (.reg [⟨some 8, .mov (.c (.bool false)), none, false⟩] [0, 1, 2, 3]) (.seq (.reg [⟨some 13, .mov (.t 1), none, false⟩, ⟨some 14, .bin .add (.t 13) (.c (.int .i64 1)), none, false⟩, ⟨some 9, .mov (.t 14), none, false⟩] [0, 1, 2, 3, 9]) (.seq (.seq (.reg [⟨some 10, .mov (.c (.int .i64 0)), none, false⟩] [0, 1, 2, 3, 9, 10]) (.block 0 (.loop (.seq (.seq (.reg [⟨some 15, .mov (.t 10), none, false⟩, ⟨some 16, .bin .lss (.t 15) (.c (.int .i64 5)), none, false⟩] [0, 1, 2, 3, 9, 10, 16]) (.cond (.t 16) .skip (.exit 0))) (.seq (.block 1 (.seq (.block 2 (.loop (.seq (.seq (.reg [⟨some 19, .mov (.t 9), none, false⟩, ⟨some 20, .mov (.t 2), none, false⟩, ⟨some 21, .bin .lss (.t 19) (.t 20), none, false⟩, ⟨some 22, .mov (.t 21), none, false⟩, ⟨some 23, .mov (.t 3), some (22, true), false⟩, ⟨some 24, .mov (.t 0), some (22, true), false⟩, ⟨some 25, .mov (.t 9), some (22, true), false⟩, ⟨some 26, .iaddr 4 (.t 24) (.t 25), some (22, true), false⟩, ⟨some 27, .load true 4 (.t 26), some (22, true), false⟩, ⟨some 28, .mov (.t 0), some (22, true), false⟩, ⟨some 29, .mov (.t 9), some (22, true), false⟩, ⟨some 30, .bin .sub (.t 29) (.c (.int .i64 1)), some (22, true), false⟩, ⟨some 31, .iaddr 4 (.t 28) (.t 30), some (22, true), false⟩, ⟨some 32, .load true 4 (.t 31), some (22, true), false⟩, ⟨some 33, .call (.t 23) [.t 27, .t 32], some (22, true), false⟩, ⟨some 34, .bin .lss (.t 33) (.c (.int .i64 0)), some (22, true), false⟩, ⟨some 35, .un .not (.t 34), some (22, true), false⟩, ⟨some 36, .pick (.t 22) (.t 35) (.c (.bool false)), none, false⟩] [0, 1, 2, 3, 9, 10, 36]) (.cond (.t 36) .skip (.exit 2))) (.block 3 (.reg [⟨some 37, .mov (.t 9), none, false⟩, ⟨some 38, .bin .add (.t 37) (.c (.int .i64 1)), none, false⟩, ⟨some 9, .mov (.t 38), none, false⟩] [0, 1, 2, 3, 9, 10]))))) (.seq (.seq (.reg [⟨some 39, .mov (.t 9), none, false⟩, ⟨some 40, .mov (.t 2), none, false⟩, ⟨some 41, .bin .eql (.t 39) (.t 40), none, false⟩] [0, 1, 2, 3, 9, 10, 41]) (.cond (.t 41) (.seq (.reg [⟨some 8, .mov (.c (.bool true)), none, false⟩] [8]) .ret) .skip)) (.seq (.seq (.reg [⟨some 42, .mov (.t 2), none, false⟩, ⟨some 43, .mov (.t 1), none, false⟩, ⟨some 44, .bin .sub (.t 42) (.t 43), none, false⟩, ⟨some 45, .bin .lss (.t 44) (.c (.int .i64 50)), none, false⟩] [0, 1, 2, 3, 9, 10, 45]) (.cond (.t 45) (.seq (.reg [⟨some 8, .mov (.c (.bool false)), none, false⟩] [8]) .ret) .skip)) (.seq (.reg [⟨some 46, .mov (.t 0), none, false⟩, ⟨some 47, .mov (.t 9), none, false⟩, ⟨some 48, .mov (.t 0), none, false⟩, ⟨some 49, .mov (.t 9), none, false⟩, ⟨some 50, .bin .sub (.t 49) (.c (.int .i64 1)), none, false⟩, ⟨some 51, .mov (.t 0), none, false⟩, ⟨some 52, .mov (.t 9), none, false⟩, ⟨some 53, .bin .sub (.t 52) (.c (.int .i64 1)), none, false⟩, ⟨some 54, .iaddr 4 (.t 51) (.t 53), none, false⟩, ⟨some 55, .load true 4 (.t 54), none, false⟩, ⟨some 56, .mov (.t 0), none, false⟩, ⟨some 57, .mov (.t 9), none, false⟩, ⟨some 58, .iaddr 4 (.t 56) (.t 57), none, false⟩, ⟨some 59, .load true 4 (.t 58), none, false⟩, ⟨some 60, .iaddr 4 (.t 46) (.t 47), none, false⟩, ⟨none, .store 4 (.t 60) (.t 55), none, false⟩, ⟨some 61, .iaddr 4 (.t 48) (.t 50), none, false⟩, ⟨none, .store 4 (.t 61) (.t 59), none, false⟩] [0, 1, 2, 3, 9, 10]) (.seq (.seq (.reg [⟨some 62, .mov (.t 9), none, false⟩, ⟨some 63, .mov (.t 1), none, false⟩, ⟨some 64, .bin .sub (.t 62) (.t 63), none, false⟩, ⟨some 65, .bin .geq (.t 64) (.c (.int .i64 2)), none, false⟩] [0, 1, 2, 3, 9, 10, 65]) (.cond (.t 65) (.seq (.reg [⟨some 66, .mov (.t 9), none, false⟩, ⟨some 67, .bin .sub (.t 66) (.c (.int .i64 1)), none, false⟩, ⟨some 11, .mov (.t 67), none, false⟩] [0, 1, 2, 3, 9, 10, 11]) (.block 4 (.loop (.seq (.seq (.reg [⟨some 68, .mov (.t 11), none, false⟩, ⟨some 69, .bin .geq (.t 68) (.c (.int .i64 1)), none, false⟩] [0, 1, 2, 3, 9, 10, 11, 69]) (.cond (.t 69) .skip (.exit 4))) (.seq (.block 5 (.seq (.seq (.reg [⟨some 72, .mov (.t 3), none, false⟩, ⟨some 73, .mov (.t 0), none, false⟩, ⟨some 74, .mov (.t 11), none, false⟩, ⟨some 75, .iaddr 4 (.t 73) (.t 74), none, false⟩, ⟨some 76, .load true 4 (.t 75), none, false⟩, ⟨some 77, .mov (.t 0), none, false⟩, ⟨some 78, .mov (.t 11), none, false⟩, ⟨some 79, .bin .sub (.t 78) (.c (.int .i64 1)), none, false⟩, ⟨some 80, .iaddr 4 (.t 77) (.t 79), none, false⟩, ⟨some 81, .load true 4 (.t 80), none, false⟩, ⟨some 82, .call (.t 72) [.t 76, .t 81], none, false⟩, ⟨some 83, .bin .lss (.t 82) (.c (.int .i64 0)), none, false⟩, ⟨some 84, .un .not (.t 83), none, false⟩] [0, 1, 2, 3, 9, 10, 11, 84]) (.cond (.t 84) (.exit 4) .skip)) (.reg [⟨some 85, .mov (.t 0), none, false⟩, ⟨some 86, .mov (.t 11), none, false⟩, ⟨some 87, .mov (.t 0), none, false⟩, ⟨some 88, .mov (.t 11), none, false⟩, ⟨some 89, .bin .sub (.t 88) (.c (.int .i64 1)), none, false⟩, ⟨some 90, .mov (.t 0), none, false⟩, ⟨some 91, .mov (.t 11), none, false⟩, ⟨some 92, .bin .sub (.t 91) (.c (.int .i64 1)), none, false⟩, ⟨some 93, .iaddr 4 (.t 90) (.t 92), none, false⟩, ⟨some 94, .load true 4 (.t 93), none, false⟩, ⟨some 95, .mov (.t 0), none, false⟩, ⟨some 96, .mov (.t 11), none, false⟩, ⟨some 97, .iaddr 4 (.t 95) (.t 96), none, false⟩, ⟨some 98, .load true 4 (.t 97), none, false⟩, ⟨some 99, .iaddr 4 (.t 85) (.t 86), none, false⟩, ⟨none, .store 4 (.t 99) (.t 94), none, false⟩, ⟨some 100, .iaddr 4 (.t 87) (.t 89), none, false⟩, ⟨none, .store 4 (.t 100) (.t 98), none, false⟩] [0, 1, 2, 3, 9, 10, 11]))) (.reg [⟨some 70, .mov (.t 11), none, false⟩, ⟨some 71, .bin .sub (.t 70) (.c (.int .i64 1)), none, false⟩, ⟨some 11, .mov (.t 71), none, false⟩] [0, 1, 2, 3, 9, 10, 11])))))) .skip)) (.seq (.reg [⟨some 101, .mov (.t 2), none, false⟩, ⟨some 102, .mov (.t 9), none, false⟩, ⟨some 103, .bin .sub (.t 101) (.t 102), none, false⟩, ⟨some 104, .bin .geq (.t 103) (.c (.int .i64 2)), none, false⟩] [0, 1, 2, 3, 9, 10, 104]) (.cond (.t 104) (.seq (.reg [⟨some 105, .mov (.t 9), none, false⟩, ⟨some 106, .bin .add (.t 105) (.c (.int .i64 1)), none, false⟩, ⟨some 12, .mov (.t 106), none, false⟩] [0, 1, 2, 3, 9, 10, 12]) (.block 6 (.loop (.seq (.seq (.reg [⟨some 107, .mov (.t 12), none, false⟩, ⟨some 108, .mov (.t 2), none, false⟩, ⟨some 109, .bin .lss (.t 107) (.t 108), none, false⟩] [0, 1, 2, 3, 9, 10, 12, 109]) (.cond (.t 109) .skip (.exit 6))) (.seq (.block 7 (.seq (.seq (.reg [⟨some 112, .mov (.t 3), none, false⟩, ⟨some 113, .mov (.t 0), none, false⟩, ⟨some 114, .mov (.t 12), none, false⟩, ⟨some 115, .iaddr 4 (.t 113) (.t 114), none, false⟩, ⟨some 116, .load true 4 (.t 115), none, false⟩, ⟨some 117, .mov (.t 0), none, false⟩, ⟨some 118, .mov (.t 12), none, false⟩, ⟨some 119, .bin .sub (.t 118) (.c (.int .i64 1)), none, false⟩, ⟨some 120, .iaddr 4 (.t 117) (.t 119), none, false⟩, ⟨some 121, .load true 4 (.t 120), none, false⟩, ⟨some 122, .call (.t 112) [.t 116, .t 121], none, false⟩, ⟨some 123, .bin .lss (.t 122) (.c (.int .i64 0)), none, false⟩, ⟨some 124, .un .not (.t 123), none, false⟩] [0, 1, 2, 3, 9, 10, 12, 124]) (.cond (.t 124) (.exit 6) .skip)) (.reg [⟨some 125, .mov (.t 0), none, false⟩, ⟨some 126, .mov (.t 12), none, false⟩, ⟨some 127, .mov (.t 0), none, false⟩, ⟨some 128, .mov (.t 12), none, false⟩, ⟨some 129, .bin .sub (.t 128) (.c (.int .i64 1)), none, false⟩, ⟨some 130, .mov (.t 0), none, false⟩, ⟨some 131, .mov (.t 12), none, false⟩, ⟨some 132, .bin .sub (.t 131) (.c (.int .i64 1)), none, false⟩, ⟨some 133, .iaddr 4 (.t 130) (.t 132), none, false⟩, ⟨some 134, .load true 4 (.t 133), none, false⟩, ⟨some 135, .mov (.t 0), none, false⟩, ⟨some 136, .mov (.t 12), none, false⟩, ⟨some 137, .iaddr 4 (.t 135) (.t 136), none, false⟩, ⟨some 138, .load true 4 (.t 137), none, false⟩, ⟨some 139, .iaddr 4 (.t 125) (.t 126), none, false⟩, ⟨none, .store 4 (.t 139) (.t 134), none, false⟩, ⟨some 140, .iaddr 4 (.t 127) (.t 129), none, false⟩, ⟨none, .store 4 (.t 140) (.t 138), none, false⟩] [0, 1, 2, 3, 9, 10, 12]))) (.reg [⟨some 110, .mov (.t 12), none, false⟩, ⟨some 111, .bin .add (.t 110) (.c (.int .i64 1)), none, false⟩, ⟨some 12, .mov (.t 111), none, false⟩] [0, 1, 2, 3, 9, 10, 12])))))) .skip)))))))) (.reg [⟨some 17, .mov (.t 10), none, false⟩, ⟨some 18, .bin .add (.t 17) (.c (.int .i64 1)), none, false⟩, ⟨some 10, .mov (.t 18), none, false⟩] [0, 1, 2, 3, 9, 10])))))) (.seq (.reg [⟨some 8, .mov (.c (.bool false)), none, false⟩] [8]) .ret)))
def x48 : XF := ⟨4, b48, [.t 8]⟩
def h48 : Hints := fun id => match id with
  | 0 => [0, 1, 2, 3]
  | 1 => [0, 1, 2, 3, 9]
  | 2 => [0, 1, 2, 3, 9, 10]
  | 3 => [0, 1, 2, 3, 9, 10, 16]
  | 4 => [0, 1, 2, 3, 9, 10]
  | 5 => [0, 1, 2, 3, 9, 10, 36]
  | 6 => [0, 1, 2, 3, 9, 10]
  | 7 => [0, 1, 2, 3, 9, 10, 41]
  | 8 => [8]
  | 9 => [0, 1, 2, 3, 9, 10, 45]
  | 10 => [8]
  | 11 => [0, 1, 2, 3, 9, 10]
  | 12 => [0, 1, 2, 3, 9, 10, 65]
  | 13 => [0, 1, 2, 3, 9, 10, 11]
  | 14 => [0, 1, 2, 3, 9, 10, 11, 69]
  | 15 => [0, 1, 2, 3, 9, 10, 11]
  | 16 => [0, 1, 2, 3, 9, 10, 11, 84]
  | 17 => [0, 1, 2, 3, 9, 10, 11]
  | 18 => [0, 1, 2, 3, 9, 10, 104]
  | 19 => [0, 1, 2, 3, 9, 10, 12]
  | 20 => [0, 1, 2, 3, 9, 10, 12, 109]
  | 21 => [0, 1, 2, 3, 9, 10, 12]
  | 22 => [0, 1, 2, 3, 9, 10, 12, 124]
  | 23 => [0, 1, 2, 3, 9, 10, 12]
  | 24 => [8]
  | _ => []
theorem cv48 : cvF Try.prog h48 Try.f48 = some x48 := by kernel_rfl

/-- slices.partitionEqualCmpFunc[winnower/api.Value] -/
def b49 : XC := .seq (.reg [⟨some 10, .mov (.c (.int .i64 0)), none, false⟩] [0, 1, 2, 3, 4]) (.seq (.reg [⟨some 13, .mov (.t 0), none, false⟩, ⟨some 14, .mov (.t 1), none, false⟩, ⟨some 15, .mov (.t 0), none, false⟩, ⟨some 16, .mov (.t 3), none, false⟩, ⟨some 17, .mov (.t 0), none, false⟩, ⟨some 18, .mov (.t 3), none, false⟩, ⟨some 19, .iaddr 4 (.t 17) (.t 18), none, false⟩, ⟨some 20, .load true 4 (.t 19), none, false⟩, ⟨some 21, .mov (.t 0), none, false⟩, ⟨some 22, .mov (.t 1), none, false⟩, ⟨some 23, .iaddr 4 (.t 21) (.t 22), none, false⟩, ⟨some 24, .load true 4 (.t 23), none, false⟩, ⟨some 25, .iaddr 4 (.t 13) (.t 14), none, false⟩, ⟨none, .store 4 (.t 25) (.t 20), none, false⟩, ⟨some 26, .iaddr 4 (.t 15) (.t 16), none, false⟩, ⟨none, .store 4 (.t 26) (.t 24), none, false⟩] [0, 1, 2, 4]) (.seq (.reg [⟨some 27, .mov (.t 1), none, false⟩, ⟨some 28, .bin .add (.t 27) (.c (.int .i64 1)), none, false⟩, ⟨some 29, .mov (.t 2), none, false⟩, ⟨some 30, .bin .sub (.t 29) (.c (.int .i64 1)), none, false⟩, ⟨some 11, .mov (.t 28), none, false⟩, ⟨some 12, .mov (.t 30), none, false⟩] [0, 1, 4, 11, 12]) (.seq (.block 0 (.loop (.block 1 (.seq (.block 2 (.loop (.seq (.seq (.reg [⟨some 31, .mov (.t 11), none, false⟩, ⟨some 32, .mov (.t 12), none, false⟩, ⟨some 33, .bin .leq (.t 31) (.t 32), none, false⟩, ⟨some 34, .mov (.t 33), none, false⟩, ⟨some 35, .mov (.t 4), some (34, true), false⟩, ⟨some 36, .mov (.t 0), some (34, true), false⟩, ⟨some 37, .mov (.t 1), some (34, true), false⟩, ⟨some 38, .iaddr 4 (.t 36) (.t 37), some (34, true), false⟩, ⟨some 39, .load true 4 (.t 38), some (34, true), false⟩, ⟨some 40, .mov (.t 0), some (34, true), false⟩, ⟨some 41, .mov (.t 11), some (34, true), false⟩, ⟨some 42, .iaddr 4 (.t 40) (.t 41), some (34, true), false⟩, ⟨some 43, .load true 4 (.t 42), some (34, true), false⟩, ⟨some 44, .call (.t 35) [.t 39, .t 43], some (34, true), false⟩, ⟨some 45, .bin .lss (.t 44) (.c (.int .i64 0)), some (34, true), false⟩, ⟨some 46, .un .not (.t 45), some (34, true), false⟩, ⟨some 47, .pick (.t 34) (.t 46) (.c (.bool false)), none, false⟩] [0, 1, 4, 11, 12, 47]) (.cond (.t 47) .skip (.exit 2))) (.block 3 (.reg [⟨some 48, .mov (.t 11), none, false⟩, ⟨some 49, .bin .add (.t 48) (.c (.int .i64 1)), none, false⟩, ⟨some 11, .mov (.t 49), none, false⟩] [0, 1, 4, 11, 12]))))) (.seq (.block 4 (.loop (.seq (.seq (.reg [⟨some 50, .mov (.t 11), none, false⟩, ⟨some 51, .mov (.t 12), none, false⟩, ⟨some 52, .bin .leq (.t 50) (.t 51), none, false⟩, ⟨some 53, .mov (.t 52), none, false⟩, ⟨some 54, .mov (.t 4), some (53, true), false⟩, ⟨some 55, .mov (.t 0), some (53, true), false⟩, ⟨some 56, .mov (.t 1), some (53, true), false⟩, ⟨some 57, .iaddr 4 (.t 55) (.t 56), some (53, true), false⟩, ⟨some 58, .load true 4 (.t 57), some (53, true), false⟩, ⟨some 59, .mov (.t 0), some (53, true), false⟩, ⟨some 60, .mov (.t 12), some (53, true), false⟩, ⟨some 61, .iaddr 4 (.t 59) (.t 60), some (53, true), false⟩, ⟨some 62, .load true 4 (.t 61), some (53, true), false⟩, ⟨some 63, .call (.t 54) [.t 58, .t 62], some (53, true), false⟩, ⟨some 64, .bin .lss (.t 63) (.c (.int .i64 0)), some (53, true), false⟩, ⟨some 65, .pick (.t 53) (.t 64) (.c (.bool false)), none, false⟩] [0, 1, 4, 11, 12, 65]) (.cond (.t 65) .skip (.exit 4))) (.block 5 (.reg [⟨some 66, .mov (.t 12), none, false⟩, ⟨some 67, .bin .sub (.t 66) (.c (.int .i64 1)), none, false⟩, ⟨some 12, .mov (.t 67), none, false⟩] [0, 1, 4, 11, 12]))))) (.seq (.seq (.reg [⟨some 68, .mov (.t 11), none, false⟩, ⟨some 69, .mov (.t 12), none, false⟩, ⟨some 70, .bin .gtr (.t 68) (.t 69), none, false⟩] [0, 1, 4, 11, 12, 70]) (.cond (.t 70) (.exit 0) .skip)) (.seq (.reg [⟨some 71, .mov (.t 0), none, false⟩, ⟨some 72, .mov (.t 11), none, false⟩, ⟨some 73, .mov (.t 0), none, false⟩, ⟨some 74, .mov (.t 12), none, false⟩, ⟨some 75, .mov (.t 0), none, false⟩, ⟨some 76, .mov (.t 12), none, false⟩, ⟨some 77, .iaddr 4 (.t 75) (.t 76), none, false⟩, ⟨some 78, .load true 4 (.t 77), none, false⟩, ⟨some 79, .mov (.t 0), none, false⟩, ⟨some 80, .mov (.t 11), none, false⟩, ⟨some 81, .iaddr 4 (.t 79) (.t 80), none, false⟩, ⟨some 82, .load true 4 (.t 81), none, false⟩, ⟨some 83, .iaddr 4 (.t 71) (.t 72), none, false⟩, ⟨none, .store 4 (.t 83) (.t 78), none, false⟩, ⟨some 84, .iaddr 4 (.t 73) (.t 74), none, false⟩, ⟨none, .store 4 (.t 84) (.t 82), none, false⟩] [0, 1, 4, 11, 12]) (.seq (.reg [⟨some 85, .mov (.t 11), none, false⟩, ⟨some 86, .bin .add (.t 85) (.c (.int .i64 1)), none, false⟩, ⟨some 11, .mov (.t 86), none, false⟩] [0, 1, 4, 11, 12]) (.reg [⟨some 87, .mov (.t 12), none, false⟩, ⟨some 88, .bin .sub (.t 87) (.c (.int .i64 1)), none, false⟩, ⟨some 12, .mov (.t 88), none, false⟩] [0, 1, 4, 11, 12]))))))))) (.seq (.reg [⟨some 89, .mov (.t 11), none, false⟩, ⟨some 10, .mov (.t 89), none, false⟩] [10]) .ret))))
def x49 : XF := ⟨5, b49, [.t 10]⟩
def h49 : Hints := fun id => match id with
  | 0 => [0, 1, 2, 3, 4]
  | 1 => [0, 1, 2, 4]
  | 2 => [0, 1, 4, 11, 12]
  | 3 => [0, 1, 4, 11, 12, 47]
  | 4 => [0, 1, 4, 11, 12]
  | 5 => [0, 1, 4, 11, 12, 65]
  | 6 => [0, 1, 4, 11, 12]
  | 7 => [0, 1, 4, 11, 12, 70]
  | 8 => [0, 1, 4, 11, 12]
  | 9 => [0, 1, 4, 11, 12]
  | 10 => [0, 1, 4, 11, 12]
  | 11 => [10]
  | _ => []
theorem cv49 : cvF Try.prog h49 Try.f49 = some x49 := by kernel_rfl

/-- slices.partitionCmpFunc[winnower/api.Value] -/
def b50 : XC := .seq (.reg [⟨some 10, .mov (.c (.int .i64 0)), none, false⟩, ⟨some 11, .mov (.c (.bool false)), none, false⟩] [0, 1, 2, 3, 4]) (.seq (.reg [⟨some 14, .mov (.t 0), none, false⟩, ⟨some 15, .mov (.t 1), none, false⟩, ⟨some 16, .mov (.t 0), none, false⟩, ⟨some 17, .mov (.t 3), none, false⟩, ⟨some 18, .mov (.t 0), none, false⟩, ⟨some 19, .mov (.t 3), none, false⟩, ⟨some 20, .iaddr 4 (.t 18) (.t 19), none, false⟩, ⟨some 21, .load true 4 (.t 20), none, false⟩, ⟨some 22, .mov (.t 0), none, false⟩, ⟨some 23, .mov (.t 1), none, false⟩, ⟨some 24, .iaddr 4 (.t 22) (.t 23), none, false⟩, ⟨some 25, .load true 4 (.t 24), none, false⟩, ⟨some 26, .iaddr 4 (.t 14) (.t 15), none, false⟩, ⟨none, .store 4 (.t 26) (.t 21), none, false⟩, ⟨some 27, .iaddr 4 (.t 16) (.t 17), none, false⟩, ⟨none, .store 4 (.t 27) (.t 25), none, false⟩] [0, 1, 2, 4]) (.seq (.reg [⟨some 28, .mov (.t 1), none, false⟩, ⟨some 29, .bin .add (.t 28) (.c (.int .i64 1)), none, false⟩, ⟨some 30, .mov (.t 2), none, false⟩, ⟨some 31, .bin .sub (.t 30) (.c (.int .i64 1)), none, false⟩, ⟨some 12, .mov (.t 29), none, false⟩, ⟨some 13, .mov (.t 31), none, false⟩] [0, 1, 4, 12, 13]) (.seq (.block 0 (.loop (.seq (.seq (.reg [⟨some 32, .mov (.t 12), none, false⟩, ⟨some 33, .mov (.t 13), none, false⟩, ⟨some 34, .bin .leq (.t 32) (.t 33), none, false⟩, ⟨some 35, .mov (.t 34), none, false⟩, ⟨some 36, .mov (.t 4), some (35, true), false⟩, ⟨some 37, .mov (.t 0), some (35, true), false⟩, ⟨some 38, .mov (.t 12), some (35, true), false⟩, ⟨some 39, .iaddr 4 (.t 37) (.t 38), some (35, true), false⟩, ⟨some 40, .load true 4 (.t 39), some (35, true), false⟩, ⟨some 41, .mov (.t 0), some (35, true), false⟩, ⟨some 42, .mov (.t 1), some (35, true), false⟩, ⟨some 43, .iaddr 4 (.t 41) (.t 42), some (35, true), false⟩, ⟨some 44, .load true 4 (.t 43), some (35, true), false⟩, ⟨some 45, .call (.t 36) [.t 40, .t 44], some (35, true), false⟩, ⟨some 46, .bin .lss (.t 45) (.c (.int .i64 0)), some (35, true), false⟩, ⟨some 47, .pick (.t 35) (.t 46) (.c (.bool false)), none, false⟩] [0, 1, 4, 12, 13, 47]) (.cond (.t 47) .skip (.exit 0))) (.block 1 (.reg [⟨some 48, .mov (.t 12), none, false⟩, ⟨some 49, .bin .add (.t 48) (.c (.int .i64 1)), none, false⟩, ⟨some 12, .mov (.t 49), none, false⟩] [0, 1, 4, 12, 13]))))) (.seq (.block 2 (.loop (.seq (.seq (.reg [⟨some 50, .mov (.t 12), none, false⟩, ⟨some 51, .mov (.t 13), none, false⟩, ⟨some 52, .bin .leq (.t 50) (.t 51), none, false⟩, ⟨some 53, .mov (.t 52), none, false⟩, ⟨some 54, .mov (.t 4), some (53, true), false⟩, ⟨some 55, .mov (.t 0), some (53, true), false⟩, ⟨some 56, .mov (.t 13), some (53, true), false⟩, ⟨some 57, .iaddr 4 (.t 55) (.t 56), some (53, true), false⟩, ⟨some 58, .load true 4 (.t 57), some (53, true), false⟩, ⟨some 59, .mov (.t 0), some (53, true), false⟩, ⟨some 60, .mov (.t 1), some (53, true), false⟩, ⟨some 61, .iaddr 4 (.t 59) (.t 60), some (53, true), false⟩, ⟨some 62, .load true 4 (.t 61), some (53, true), false⟩, ⟨some 63, .call (.t 54) [.t 58, .t 62], some (53, true), false⟩, ⟨some 64, .bin .lss (.t 63) (.c (.int .i64 0)), some (53, true), false⟩, ⟨some 65, .un .not (.t 64), some (53, true), false⟩, ⟨some 66, .pick (.t 53) (.t 65) (.c (.bool false)), none, false⟩] [0, 1, 4, 12, 13, 66]) (.cond (.t 66) .skip (.exit 2))) (.block 3 (.reg [⟨some 67, .mov (.t 13), none, false⟩, ⟨some 68, .bin .sub (.t 67) (.c (.int .i64 1)), none, false⟩, ⟨some 13, .mov (.t 68), none, false⟩] [0, 1, 4, 12, 13]))))) (.seq (.seq (.reg [⟨some 69, .mov (.t 12), none, false⟩, ⟨some 70, .mov (.t 13), none, false⟩, ⟨some 71, .bin .gtr (.t 69) (.t 70), none, false⟩] [0, 1, 4, 12, 13, 71]) (.cond (.t 71) (.seq (.reg [⟨some 72, .mov (.t 0), none, false⟩, ⟨some 73, .mov (.t 13), none, false⟩, ⟨some 74, .mov (.t 0), none, false⟩, ⟨some 75, .mov (.t 1), none, false⟩, ⟨some 76, .mov (.t 0), none, false⟩, ⟨some 77, .mov (.t 1), none, false⟩, ⟨some 78, .iaddr 4 (.t 76) (.t 77), none, false⟩, ⟨some 79, .load true 4 (.t 78), none, false⟩, ⟨some 80, .mov (.t 0), none, false⟩, ⟨some 81, .mov (.t 13), none, false⟩, ⟨some 82, .iaddr 4 (.t 80) (.t 81), none, false⟩, ⟨some 83, .load true 4 (.t 82), none, false⟩, ⟨some 84, .iaddr 4 (.t 72) (.t 73), none, false⟩, ⟨none, .store 4 (.t 84) (.t 79), none, false⟩, ⟨some 85, .iaddr 4 (.t 74) (.t 75), none, false⟩, ⟨none, .store 4 (.t 85) (.t 83), none, false⟩] [13]) (.seq (.reg [⟨some 86, .mov (.t 13), none, false⟩, ⟨some 10, .mov (.t 86), none, false⟩, ⟨some 11, .mov (.c (.bool true)), none, false⟩] [10, 11]) .ret)) .skip)) (.seq (.reg [⟨some 87, .mov (.t 0), none, false⟩, ⟨some 88, .mov (.t 12), none, false⟩, ⟨some 89, .mov (.t 0), none, false⟩, ⟨some 90, .mov (.t 13), none, false⟩, ⟨some 91, .mov (.t 0), none, false⟩, ⟨some 92, .mov (.t 13), none, false⟩, ⟨some 93, .iaddr 4 (.t 91) (.t 92), none, false⟩, ⟨some 94, .load true 4 (.t 93), none, false⟩, ⟨some 95, .mov (.t 0), none, false⟩, ⟨some 96, .mov (.t 12), none, false⟩, ⟨some 97, .iaddr 4 (.t 95) (.t 96), none, false⟩, ⟨some 98, .load true 4 (.t 97), none, false⟩, ⟨some 99, .iaddr 4 (.t 87) (.t 88), none, false⟩, ⟨none, .store 4 (.t 99) (.t 94), none, false⟩, ⟨some 100, .iaddr 4 (.t 89) (.t 90), none, false⟩, ⟨none, .store 4 (.t 100) (.t 98), none, false⟩] [0, 1, 4, 12, 13]) (.seq (.reg [⟨some 101, .mov (.t 12), none, false⟩, ⟨some 102, .bin .add (.t 101) (.c (.int .i64 1)), none, false⟩, ⟨some 12, .mov (.t 102), none, false⟩] [0, 1, 4, 12, 13]) (.seq (.reg [⟨some 103, .mov (.t 13), none, false⟩, ⟨some 104, .bin .sub (.t 103) (.c (.int .i64 1)), none, false⟩, ⟨some 13, .mov (.t 104), none, false⟩] [0, 1, 4, 12, 13]) (.seq (.block 4 (.loop (.block 5 (.seq (.block 6 (.loop (.seq (.seq (.reg [⟨some 105, .mov (.t 12), none, false⟩, ⟨some 106, .mov (.t 13), none, false⟩, ⟨some 107, .bin .leq (.t 105) (.t 106), none, false⟩, ⟨some 108, .mov (.t 107), none, false⟩, ⟨some 109, .mov (.t 4), some (108, true), false⟩, ⟨some 110, .mov (.t 0), some (108, true), false⟩, ⟨some 111, .mov (.t 12), some (108, true), false⟩, ⟨some 112, .iaddr 4 (.t 110) (.t 111), some (108, true), false⟩, ⟨some 113, .load true 4 (.t 112), some (108, true), false⟩, ⟨some 114, .mov (.t 0), some (108, true), false⟩, ⟨some 115, .mov (.t 1), some (108, true), false⟩, ⟨some 116, .iaddr 4 (.t 114) (.t 115), some (108, true), false⟩, ⟨some 117, .load true 4 (.t 116), some (108, true), false⟩, ⟨some 118, .call (.t 109) [.t 113, .t 117], some (108, true), false⟩, ⟨some 119, .bin .lss (.t 118) (.c (.int .i64 0)), some (108, true), false⟩, ⟨some 120, .pick (.t 108) (.t 119) (.c (.bool false)), none, false⟩] [0, 1, 4, 12, 13, 120]) (.cond (.t 120) .skip (.exit 6))) (.block 7 (.reg [⟨some 121, .mov (.t 12), none, false⟩, ⟨some 122, .bin .add (.t 121) (.c (.int .i64 1)), none, false⟩, ⟨some 12, .mov (.t 122), none, false⟩] [0, 1, 4, 12, 13]))))) (.seq (.block 8 (.loop (.seq (.seq (.reg [⟨some 123, .mov (.t 12), none, false⟩, ⟨some 124, .mov (.t 13), none, false⟩, ⟨some 125, .bin .leq (.t 123) (.t 124), none, false⟩, ⟨some 126, .mov (.t 125), none, false⟩, ⟨some 127, .mov (.t 4), some (126, true), false⟩, ⟨some 128, .mov (.t 0), some (126, true), false⟩, ⟨some 129, .mov (.t 13), some (126, true), false⟩, ⟨some 130, .iaddr 4 (.t 128) (.t 129), some (126, true), false⟩, ⟨some 131, .load true 4 (.t 130), some (126, true), false⟩, ⟨some 132, .mov (.t 0), some (126, true), false⟩, ⟨some 133, .mov (.t 1), some (126, true), false⟩, ⟨some 134, .iaddr 4 (.t 132) (.t 133), some (126, true), false⟩, ⟨some 135, .load true 4 (.t 134), some (126, true), false⟩, ⟨some 136, .call (.t 127) [.t 131, .t 135], some (126, true), false⟩, ⟨some 137, .bin .lss (.t 136) (.c (.int .i64 0)), some (126, true), false⟩, ⟨some 138, .un .not (.t 137), some (126, true), false⟩, ⟨some 139, .pick (.t 126) (.t 138) (.c (.bool false)), none, false⟩] [0, 1, 4, 12, 13, 139]) (.cond (.t 139) .skip (.exit 8))) (.block 9 (.reg [⟨some 140, .mov (.t 13), none, false⟩, ⟨some 141, .bin .sub (.t 140) (.c (.int .i64 1)), none, false⟩, ⟨some 13, .mov (.t 141), none, false⟩] [0, 1, 4, 12, 13]))))) (.seq (.seq (.reg [⟨some 142, .mov (.t 12), none, false⟩, ⟨some 143, .mov (.t 13), none, false⟩, ⟨some 144, .bin .gtr (.t 142) (.t 143), none, false⟩] [0, 1, 4, 12, 13, 144]) (.cond (.t 144) (.exit 4) .skip)) (.seq (.reg [⟨some 145, .mov (.t 0), none, false⟩, ⟨some 146, .mov (.t 12), none, false⟩, ⟨some 147, .mov (.t 0), none, false⟩, ⟨some 148, .mov (.t 13), none, false⟩, ⟨some 149, .mov (.t 0), none, false⟩, ⟨some 150, .mov (.t 13), none, false⟩, ⟨some 151, .iaddr 4 (.t 149) (.t 150), none, false⟩, ⟨some 152, .load true 4 (.t 151), none, false⟩, ⟨some 153, .mov (.t 0), none, false⟩, ⟨some 154, .mov (.t 12), none, false⟩, ⟨some 155, .iaddr 4 (.t 153) (.t 154), none, false⟩, ⟨some 156, .load true 4 (.t 155), none, false⟩, ⟨some 157, .iaddr 4 (.t 145) (.t 146), none, false⟩, ⟨none, .store 4 (.t 157) (.t 152), none, false⟩, ⟨some 158, .iaddr 4 (.t 147) (.t 148), none, false⟩, ⟨none, .store 4 (.t 158) (.t 156), none, false⟩] [0, 1, 4, 12, 13]) (.seq (.reg [⟨some 159, .mov (.t 12), none, false⟩, ⟨some 160, .bin .add (.t 159) (.c (.int .i64 1)), none, false⟩, ⟨some 12, .mov (.t 160), none, false⟩] [0, 1, 4, 12, 13]) (.reg [⟨some 161, .mov (.t 13), none, false⟩, ⟨some 162, .bin .sub (.t 161) (.c (.int .i64 1)), none, false⟩, ⟨some 13, .mov (.t 162), none, false⟩] [0, 1, 4, 12, 13]))))))))) (.seq (.reg [⟨some 163, .mov (.t 0), none, false⟩, ⟨some 164, .mov (.t 13), none, false⟩, ⟨some 165, .mov (.t 0), none, false⟩, ⟨some 166, .mov (.t 1), none, false⟩, ⟨some 167, .mov (.t 0), none, false⟩, ⟨some 168, .mov (.t 1), none, false⟩, ⟨some 169, .iaddr 4 (.t 167) (.t 168), none, false⟩, ⟨some 170, .load true 4 (.t 169), none, false⟩, ⟨some 171, .mov (.t 0), none, false⟩, ⟨some 172, .mov (.t 13), none, false⟩, ⟨some 173, .iaddr 4 (.t 171) (.t 172), none, false⟩, ⟨some 174, .load true 4 (.t 173), none, false⟩, ⟨some 175, .iaddr 4 (.t 163) (.t 164), none, false⟩, ⟨none, .store 4 (.t 175) (.t 170), none, false⟩, ⟨some 176, .iaddr 4 (.t 165) (.t 166), none, false⟩, ⟨none, .store 4 (.t 176) (.t 174), none, false⟩] [13]) (.seq (.reg [⟨some 177, .mov (.t 13), none, false⟩, ⟨some 10, .mov (.t 177), none, false⟩, ⟨some 11, .mov (.c (.bool false)), none, false⟩] [10, 11]) .ret)))))))))))
def x50 : XF := ⟨5, b50, [.t 10, .t 11]⟩
def h50 : Hints := fun id => match id with
  | 0 => [0, 1, 2, 3, 4]
  | 1 => [0, 1, 2, 4]
  | 2 => [0, 1, 4, 12, 13]
  | 3 => [0, 1, 4, 12, 13, 47]
  | 4 => [0, 1, 4, 12, 13]
  | 5 => [0, 1, 4, 12, 13, 66]
  | 6 => [0, 1, 4, 12, 13]
  | 7 => [0, 1, 4, 12, 13, 71]
  | 8 => [13]
  | 9 => [10, 11]
  | 10 => [0, 1, 4, 12, 13]
  | 11 => [0, 1, 4, 12, 13]
  | 12 => [0, 1, 4, 12, 13]
  | 13 => [0, 1, 4, 12, 13, 120]
  | 14 => [0, 1, 4, 12, 13]
  | 15 => [0, 1, 4, 12, 13, 139]
  | 16 => [0, 1, 4, 12, 13]
  | 17 => [0, 1, 4, 12, 13, 144]
  | 18 => [0, 1, 4, 12, 13]
  | 19 => [0, 1, 4, 12, 13]
  | 20 => [0, 1, 4, 12, 13]
  | 21 => [13]
  | 22 => [10, 11]
  | _ => []
theorem cv50 : cvF Try.prog h50 Try.f50 = some x50 := by kernel_rfl

/-- math/bits.Len32 -/
def b51 : XC := .seq (.reg [⟨some 2, .mov (.c (.int .i64 0)), none, false⟩] [0, 2]) (.seq (.seq (.reg [⟨some 3, .mov (.t 0), none, false⟩, ⟨some 4, .bin .geq (.t 3) (.c (.int .u32 65536)), none, false⟩] [0, 2, 4]) (.cond (.t 4) (.seq (.reg [⟨some 5, .mov (.t 0), none, false⟩, ⟨some 6, .bin .shr (.t 5) (.c (.int .u64 16)), none, false⟩, ⟨some 0, .mov (.t 6), none, false⟩] [0]) (.reg [⟨some 2, .mov (.c (.int .i64 16)), none, false⟩] [0, 2])) .skip)) (.seq (.seq (.reg [⟨some 7, .mov (.t 0), none, false⟩, ⟨some 8, .bin .geq (.t 7) (.c (.int .u32 256)), none, false⟩] [0, 2, 8]) (.cond (.t 8) (.seq (.reg [⟨some 9, .mov (.t 0), none, false⟩, ⟨some 10, .bin .shr (.t 9) (.c (.int .u64 8)), none, false⟩, ⟨some 0, .mov (.t 10), none, false⟩] [0, 2]) (.reg [⟨some 11, .mov (.t 2), none, false⟩, ⟨some 12, .bin .add (.t 11) (.c (.int .i64 8)), none, false⟩, ⟨some 2, .mov (.t 12), none, false⟩] [0, 2])) .skip)) (.seq (.reg [⟨some 13, .mov (.t 2), none, false⟩, ⟨some 14, .mov (.t 0), none, false⟩, ⟨some 15, .toint .u8 (.t 14), none, false⟩, ⟨some 16, .idxs (.c (.str ⟨#[0, 1, 2, 2, 3, 3, 3, 3, 4, 4, 4, 4, 4, 4, 4, 4, 5, 5, 5, 5, 5, 5, 5, 5, 5, 5, 5, 5, 5, 5, 5, 5, 6, 6, 6, 6, 6, 6, 6, 6, 6, 6, 6, 6, 6, 6, 6, 6, 6, 6, 6, 6, 6, 6, 6, 6, 6, 6, 6, 6, 6, 6, 6, 6, 7, 7, 7, 7, 7, 7, 7, 7, 7, 7, 7, 7, 7, 7, 7, 7, 7, 7, 7, 7, 7, 7, 7, 7, 7, 7, 7, 7, 7, 7, 7, 7, 7, 7, 7, 7, 7, 7, 7, 7, 7, 7, 7, 7, 7, 7, 7, 7, 7, 7, 7, 7, 7, 7, 7, 7, 7, 7, 7, 7, 7, 7, 7, 7, 8, 8, 8, 8, 8, 8, 8, 8, 8, 8, 8, 8, 8, 8, 8, 8, 8, 8, 8, 8, 8, 8, 8, 8, 8, 8, 8, 8, 8, 8, 8, 8, 8, 8, 8, 8, 8, 8, 8, 8, 8, 8, 8, 8, 8, 8, 8, 8, 8, 8, 8, 8, 8, 8, 8, 8, 8, 8, 8, 8, 8, 8, 8, 8, 8, 8, 8, 8, 8, 8, 8, 8, 8, 8, 8, 8, 8, 8, 8, 8, 8, 8, 8, 8, 8, 8, 8, 8, 8, 8, 8, 8, 8, 8, 8, 8, 8, 8, 8, 8, 8, 8, 8, 8, 8, 8, 8, 8, 8, 8, 8, 8, 8, 8, 8, 8, 8, 8, 8, 8, 8, 8, 8, 8, 8, 8, 8, 8]⟩)) (.t 15), none, false⟩, ⟨some 17, .toint .i64 (.t 16), none, false⟩, ⟨some 18, .bin .add (.t 13) (.t 17), none, false⟩, ⟨some 2, .mov (.t 18), none, false⟩] [2]) .ret)))
def x51 : XF := ⟨1, b51, [.t 2]⟩
def h51 : Hints := fun id => match id with
  | 0 => [0, 2]
  | 1 => [0, 2, 4]
  | 2 => [0]
  | 3 => [0, 2]
  | 4 => [0, 2, 8]
  | 5 => [0, 2]
  | 6 => [0, 2]
  | 7 => [2]
  | _ => []
theorem cv51 : cvF Try.prog h51 Try.f51 = some x51 := by kernel_rfl

/-- math/bits.Len64 -/
def b52 : XC := .seq (.reg [⟨some 2, .mov (.c (.int .i64 0)), none, false⟩] [0, 2]) (.seq (.seq (.reg [⟨some 3, .mov (.t 0), none, false⟩, ⟨some 4, .bin .geq (.t 3) (.c (.int .u64 4294967296)), none, false⟩] [0, 2, 4]) (.cond (.t 4) (.seq (.reg [⟨some 5, .mov (.t 0), none, false⟩, ⟨some 6, .bin .shr (.t 5) (.c (.int .u64 32)), none, false⟩, ⟨some 0, .mov (.t 6), none, false⟩] [0]) (.reg [⟨some 2, .mov (.c (.int .i64 32)), none, false⟩] [0, 2])) .skip)) (.seq (.seq (.reg [⟨some 7, .mov (.t 0), none, false⟩, ⟨some 8, .bin .geq (.t 7) (.c (.int .u64 65536)), none, false⟩] [0, 2, 8]) (.cond (.t 8) (.seq (.reg [⟨some 9, .mov (.t 0), none, false⟩, ⟨some 10, .bin .shr (.t 9) (.c (.int .u64 16)), none, false⟩, ⟨some 0, .mov (.t 10), none, false⟩] [0, 2]) (.reg [⟨some 11, .mov (.t 2), none, false⟩, ⟨some 12, .bin .add (.t 11) (.c (.int .i64 16)), none, false⟩, ⟨some 2, .mov (.t 12), none, false⟩] [0, 2])) .skip)) (.seq (.seq (.reg [⟨some 13, .mov (.t 0), none, false⟩, ⟨some 14, .bin .geq (.t 13) (.c (.int .u64 256)), none, false⟩] [0, 2, 14]) (.cond (.t 14) (.seq (.reg [⟨some 15, .mov (.t 0), none, false⟩, ⟨some 16, .bin .shr (.t 15) (.c (.int .u64 8)), none, false⟩, ⟨some 0, .mov (.t 16), none, false⟩] [0, 2]) (.reg [⟨some 17, .mov (.t 2), none, false⟩, ⟨some 18, .bin .add (.t 17) (.c (.int .i64 8)), none, false⟩, ⟨some 2, .mov (.t 18), none, false⟩] [0, 2])) .skip)) (.seq (.reg [⟨some 19, .mov (.t 2), none, false⟩, ⟨some 20, .mov (.t 0), none, false⟩, ⟨some 21, .toint .u8 (.t 20), none, false⟩, ⟨some 22, .idxs (.c (.str ⟨#[0, 1, 2, 2, 3, 3, 3, 3, 4, 4, 4, 4, 4, 4, 4, 4, 5, 5, 5, 5, 5, 5, 5, 5, 5, 5, 5, 5, 5, 5, 5, 5, 6, 6, 6, 6, 6, 6, 6, 6, 6, 6, 6, 6, 6, 6, 6, 6, 6, 6, 6, 6, 6, 6, 6, 6, 6, 6, 6, 6, 6, 6, 6, 6, 7, 7, 7, 7, 7, 7, 7, 7, 7, 7, 7, 7, 7, 7, 7, 7, 7, 7, 7, 7, 7, 7, 7, 7, 7, 7, 7, 7, 7, 7, 7, 7, 7, 7, 7, 7, 7, 7, 7, 7, 7, 7, 7, 7, 7, 7, 7, 7, 7, 7, 7, 7, 7, 7, 7, 7, 7, 7, 7, 7, 7, 7, 7, 7, 8, 8, 8, 8, 8, 8, 8, 8, 8, 8, 8, 8, 8, 8, 8, 8, 8, 8, 8, 8, 8, 8, 8, 8, 8, 8, 8, 8, 8, 8, 8, 8, 8, 8, 8, 8, 8, 8, 8, 8, 8, 8, 8, 8, 8, 8, 8, 8, 8, 8, 8, 8, 8, 8, 8, 8, 8, 8, 8, 8, 8, 8, 8, 8, 8, 8, 8, 8, 8, 8, 8, 8, 8, 8, 8, 8, 8, 8, 8, 8, 8, 8, 8, 8, 8, 8, 8, 8, 8, 8, 8, 8, 8, 8, 8, 8, 8, 8, 8, 8, 8, 8, 8, 8, 8, 8, 8, 8, 8, 8, 8, 8, 8, 8, 8, 8, 8, 8, 8, 8, 8, 8, 8, 8, 8, 8, 8, 8]⟩)) (.t 21), none, false⟩, ⟨some 23, .toint .i64 (.t 22), none, false⟩, ⟨some 24, .bin .add (.t 19) (.t 23), none, false⟩, ⟨some 2, .mov (.t 24), none, false⟩] [2]) .ret))))
def x52 : XF := ⟨1, b52, [.t 2]⟩
def h52 : Hints := fun id => match id with
  | 0 => [0, 2]
  | 1 => [0, 2, 4]
  | 2 => [0]
  | 3 => [0, 2]
  | 4 => [0, 2, 8]
  | 5 => [0, 2]
  | 6 => [0, 2]
  | 7 => [0, 2, 14]
  | 8 => [0, 2]
  | 9 => [0, 2]
  | 10 => [2]
  | _ => []
theorem cv52 : cvF Try.prog h52 Try.f52 = some x52 := by kernel_rfl

/-- cmp.isNaN[int] -/
def b53 : XC := .seq (.reg [⟨some 2, .mov (.c (.bool false)), none, false⟩] [0]) (.seq (.reg [⟨some 3, .mov (.t 0), none, false⟩, ⟨some 4, .mov (.t 0), none, false⟩, ⟨some 5, .bin .neq (.t 3) (.t 4), none, false⟩, ⟨some 2, .mov (.t 5), none, false⟩] [2]) .ret)
def x53 : XF := ⟨1, b53, [.t 2]⟩
def h53 : Hints := fun id => match id with
  | 0 => [0]
  | 1 => [2]
  | _ => []
theorem cv53 : cvF Try.prog h53 Try.f53 = some x53 := by kernel_rfl

/-- cmp.isNaN[string] -/
def b54 : XC := .seq (.reg [⟨some 2, .mov (.c (.bool false)), none, false⟩] [0]) (.seq (.reg [⟨some 3, .mov (.t 0), none, false⟩, ⟨some 4, .mov (.t 0), none, false⟩, ⟨some 5, .bin .neq (.t 3) (.t 4), none, false⟩, ⟨some 2, .mov (.t 5), none, false⟩] [2]) .ret)
def x54 : XF := ⟨1, b54, [.t 2]⟩
def h54 : Hints := fun id => match id with
  | 0 => [0]
  | 1 => [2]
  | _ => []
theorem cv54 : cvF Try.prog h54 Try.f54 = some x54 := by kernel_rfl

/-- slices.siftDownCmpFunc[winnower/api.Value] -/
def b55 : XC := .seq (.reg [⟨some 12, .mov (.t 1), none, false⟩, ⟨some 10, .mov (.t 12), none, false⟩] [0, 2, 3, 4, 10]) (.block 0 (.loop (.block 1 (.seq (.reg [⟨some 13, .mov (.t 10), none, false⟩, ⟨some 14, .bin .mul (.c (.int .i64 2)) (.t 13), none, false⟩, ⟨some 15, .bin .add (.t 14) (.c (.int .i64 1)), none, false⟩, ⟨some 11, .mov (.t 15), none, false⟩] [0, 2, 3, 4, 10, 11]) (.seq (.seq (.reg [⟨some 16, .mov (.t 11), none, false⟩, ⟨some 17, .mov (.t 2), none, false⟩, ⟨some 18, .bin .geq (.t 16) (.t 17), none, false⟩] [0, 2, 3, 4, 10, 11, 18]) (.cond (.t 18) (.exit 0) .skip)) (.seq (.seq (.reg [⟨some 19, .mov (.t 11), none, false⟩, ⟨some 20, .bin .add (.t 19) (.c (.int .i64 1)), none, false⟩, ⟨some 21, .mov (.t 2), none, false⟩, ⟨some 22, .bin .lss (.t 20) (.t 21), none, false⟩, ⟨some 23, .mov (.t 22), none, false⟩, ⟨some 24, .mov (.t 4), some (23, true), false⟩, ⟨some 25, .mov (.t 0), some (23, true), false⟩, ⟨some 26, .mov (.t 3), some (23, true), false⟩, ⟨some 27, .mov (.t 11), some (23, true), false⟩, ⟨some 28, .bin .add (.t 26) (.t 27), some (23, true), false⟩, ⟨some 29, .iaddr 4 (.t 25) (.t 28), some (23, true), false⟩, ⟨some 30, .load true 4 (.t 29), some (23, true), false⟩, ⟨some 31, .mov (.t 0), some (23, true), false⟩, ⟨some 32, .mov (.t 3), some (23, true), false⟩, ⟨some 33, .mov (.t 11), some (23, true), false⟩, ⟨some 34, .bin .add (.t 32) (.t 33), some (23, true), false⟩, ⟨some 35, .bin .add (.t 34) (.c (.int .i64 1)), some (23, true), false⟩, ⟨some 36, .iaddr 4 (.t 31) (.t 35), some (23, true), false⟩, ⟨some 37, .load true 4 (.t 36), some (23, true), false⟩, ⟨some 38, .call (.t 24) [.t 30, .t 37], some (23, true), false⟩, ⟨some 39, .bin .lss (.t 38) (.c (.int .i64 0)), some (23, true), false⟩, ⟨some 40, .pick (.t 23) (.t 39) (.c (.bool false)), none, false⟩] [0, 2, 3, 4, 10, 11, 40]) (.cond (.t 40) (.reg [⟨some 41, .mov (.t 11), none, false⟩, ⟨some 42, .bin .add (.t 41) (.c (.int .i64 1)), none, false⟩, ⟨some 11, .mov (.t 42), none, false⟩] [0, 2, 3, 4, 10, 11]) .skip)) (.seq (.seq (.reg [⟨some 43, .mov (.t 4), none, false⟩, ⟨some 44, .mov (.t 0), none, false⟩, ⟨some 45, .mov (.t 3), none, false⟩, ⟨some 46, .mov (.t 10), none, false⟩, ⟨some 47, .bin .add (.t 45) (.t 46), none, false⟩, ⟨some 48, .iaddr 4 (.t 44) (.t 47), none, false⟩, ⟨some 49, .load true 4 (.t 48), none, false⟩, ⟨some 50, .mov (.t 0), none, false⟩, ⟨some 51, .mov (.t 3), none, false⟩, ⟨some 52, .mov (.t 11), none, false⟩, ⟨some 53, .bin .add (.t 51) (.t 52), none, false⟩, ⟨some 54, .iaddr 4 (.t 50) (.t 53), none, false⟩, ⟨some 55, .load true 4 (.t 54), none, false⟩, ⟨some 56, .call (.t 43) [.t 49, .t 55], none, false⟩, ⟨some 57, .bin .lss (.t 56) (.c (.int .i64 0)), none, false⟩, ⟨some 58, .un .not (.t 57), none, false⟩] [0, 2, 3, 4, 10, 11, 58]) (.cond (.t 58) .ret .skip)) (.seq (.reg [⟨some 59, .mov (.t 0), none, false⟩, ⟨some 60, .mov (.t 3), none, false⟩, ⟨some 61, .mov (.t 10), none, false⟩, ⟨some 62, .bin .add (.t 60) (.t 61), none, false⟩, ⟨some 63, .mov (.t 0), none, false⟩, ⟨some 64, .mov (.t 3), none, false⟩, ⟨some 65, .mov (.t 11), none, false⟩, ⟨some 66, .bin .add (.t 64) (.t 65), none, false⟩, ⟨some 67, .mov (.t 0), none, false⟩, ⟨some 68, .mov (.t 3), none, false⟩, ⟨some 69, .mov (.t 11), none, false⟩, ⟨some 70, .bin .add (.t 68) (.t 69), none, false⟩, ⟨some 71, .iaddr 4 (.t 67) (.t 70), none, false⟩, ⟨some 72, .load true 4 (.t 71), none, false⟩, ⟨some 73, .mov (.t 0), none, false⟩, ⟨some 74, .mov (.t 3), none, false⟩, ⟨some 75, .mov (.t 10), none, false⟩, ⟨some 76, .bin .add (.t 74) (.t 75), none, false⟩, ⟨some 77, .iaddr 4 (.t 73) (.t 76), none, false⟩, ⟨some 78, .load true 4 (.t 77), none, false⟩, ⟨some 79, .iaddr 4 (.t 59) (.t 62), none, false⟩, ⟨none, .store 4 (.t 79) (.t 72), none, false⟩, ⟨some 80, .iaddr 4 (.t 63) (.t 66), none, false⟩, ⟨none, .store 4 (.t 80) (.t 78), none, false⟩] [0, 2, 3, 4, 11]) (.reg [⟨some 81, .mov (.t 11), none, false⟩, ⟨some 10, .mov (.t 81), none, false⟩] [0, 2, 3, 4, 10])))))))))
def x55 : XF := ⟨5, b55, []⟩
def h55 : Hints := fun id => match id with
  | 0 => [0, 2, 3, 4, 10]
  | 1 => [0, 2, 3, 4, 10, 11]
  | 2 => [0, 2, 3, 4, 10, 11, 18]
  | 3 => [0, 2, 3, 4, 10, 11, 40]
  | 4 => [0, 2, 3, 4, 10, 11]
  | 5 => [0, 2, 3, 4, 10, 11, 58]
  | 6 => [0, 2, 3, 4, 11]
  | 7 => [0, 2, 3, 4, 10]
  | _ => []
theorem cv55 : cvF Try.prog h55 Try.f55 = some x55 := by kernel_rfl

/-- slices.nextPowerOfTwo -/
def b56 : XC := .seq (.reg [⟨some 2, .mov (.c (.int .u64 0)), none, false⟩] [0]) (.seq (.reg [⟨some 3, .mov (.t 0), none, false⟩, ⟨some 4, .toint .u64 (.t 3), none, false⟩, ⟨some 5, .call (.c (.func 37 [] [])) [.t 4], none, false⟩, ⟨some 6, .bin .shl (.c (.int .u64 1)) (.t 5), none, false⟩, ⟨some 2, .mov (.t 6), none, false⟩] [2]) .ret)
def x56 : XF := ⟨1, b56, [.t 2]⟩
def h56 : Hints := fun id => match id with
  | 0 => [0]
  | 1 => [2]
  | _ => []
theorem cv56 : cvF Try.prog h56 Try.f56 = some x56 := by kernel_rfl

/-- (*slices.xorshift).Next -/
def b57 : XC := .seq (.reg [⟨some 2, .mov (.c (.int .u64 0)), none, false⟩] [0]) (.seq (.reg [⟨some 3, .mov (.t 0), none, false⟩, ⟨some 4, .nilck (.t 3), none, false⟩, ⟨some 5, .load false 1 (.t 4), none, false⟩, ⟨some 6, .mov (.t 0), none, false⟩, ⟨some 7, .nilck (.t 6), none, false⟩, ⟨some 8, .load false 1 (.t 7), none, false⟩, ⟨some 9, .bin .shl (.t 8) (.c (.int .u64 13)), none, false⟩, ⟨some 10, .bin .xor (.t 5) (.t 9), none, false⟩, ⟨some 11, .nilck (.t 3), none, false⟩, ⟨none, .store 1 (.t 11) (.t 10), none, false⟩] [0]) (.seq (.reg [⟨some 12, .mov (.t 0), none, false⟩, ⟨some 13, .nilck (.t 12), none, false⟩, ⟨some 14, .load false 1 (.t 13), none, false⟩, ⟨some 15, .mov (.t 0), none, false⟩, ⟨some 16, .nilck (.t 15), none, false⟩, ⟨some 17, .load false 1 (.t 16), none, false⟩, ⟨some 18, .bin .shr (.t 17) (.c (.int .u64 7)), none, false⟩, ⟨some 19, .bin .xor (.t 14) (.t 18), none, false⟩, ⟨some 20, .nilck (.t 12), none, false⟩, ⟨none, .store 1 (.t 20) (.t 19), none, false⟩] [0]) (.seq (.reg [⟨some 21, .mov (.t 0), none, false⟩, ⟨some 22, .nilck (.t 21), none, false⟩, ⟨some 23, .load false 1 (.t 22), none, false⟩, ⟨some 24, .mov (.t 0), none, false⟩, ⟨some 25, .nilck (.t 24), none, false⟩, ⟨some 26, .load false 1 (.t 25), none, false⟩, ⟨some 27, .bin .shl (.t 26) (.c (.int .u64 17)), none, false⟩, ⟨some 28, .bin .xor (.t 23) (.t 27), none, false⟩, ⟨some 29, .nilck (.t 21), none, false⟩, ⟨none, .store 1 (.t 29) (.t 28), none, false⟩] [0]) (.seq (.reg [⟨some 30, .mov (.t 0), none, false⟩, ⟨some 31, .nilck (.t 30), none, false⟩, ⟨some 32, .load false 1 (.t 31), none, false⟩, ⟨some 2, .mov (.t 32), none, false⟩] [2]) .ret))))
def x57 : XF := ⟨1, b57, [.t 2]⟩
def h57 : Hints := fun id => match id with
  | 0 => [0]
  | 1 => [0]
  | 2 => [0]
  | 3 => [0]
  | 4 => [2]
  | _ => []
theorem cv57 : cvF Try.prog h57 Try.f57 = some x57 := by kernel_rfl

/-- slices.medianAdjacentCmpFunc[winnower/api.Value] -/
def b58 : XC := .seq (.reg [⟨some 8, .mov (.c (.int .i64 0)), none, false⟩] [0, 1, 2, 3]) (.seq (.reg [⟨some 9, .mov (.t 0), none, false⟩, ⟨some 10, .mov (.t 1), none, false⟩, ⟨some 11, .bin .sub (.t 10) (.c (.int .i64 1)), none, false⟩, ⟨some 12, .mov (.t 1), none, false⟩, ⟨some 13, .mov (.t 1), none, false⟩, ⟨some 14, .bin .add (.t 13) (.c (.int .i64 1)), none, false⟩, ⟨some 15, .mov (.t 2), none, false⟩, ⟨some 16, .mov (.t 3), none, false⟩, ⟨some 17, .call (.c (.func 59 [] [])) [.t 9, .t 11, .t 12, .t 14, .t 15, .t 16], none, false⟩, ⟨some 8, .mov (.t 17), none, false⟩] [8]) .ret)
def x58 : XF := ⟨4, b58, [.t 8]⟩
def h58 : Hints := fun id => match id with
  | 0 => [0, 1, 2, 3]
  | 1 => [8]
  | _ => []
theorem cv58 : cvF Try.prog h58 Try.f58 = some x58 := by kernel_rfl

/-- slices.medianCmpFunc[winnower/api.Value] -/
def b59 : XC := .seq (.reg [⟨some 12, .mov (.c (.int .i64 0)), none, false⟩] [0, 1, 2, 3, 4, 5]) (.seq (.reg [⟨some 14, .mov (.t 0), none, false⟩, ⟨some 15, .mov (.t 1), none, false⟩, ⟨some 16, .mov (.t 2), none, false⟩, ⟨some 17, .mov (.t 4), none, false⟩, ⟨some 18, .mov (.t 5), none, false⟩, ⟨some 19, .call (.c (.func 60 [] [])) [.t 14, .t 15, .t 16, .t 17, .t 18], none, false⟩, ⟨some 13, .mov (.t 19), none, false⟩, ⟨some 20, .ext (.t 13) 0, none, false⟩, ⟨some 21, .ext (.t 13) 1, none, false⟩, ⟨some 1, .mov (.t 20), none, false⟩, ⟨some 2, .mov (.t 21), none, false⟩] [0, 1, 2, 3, 4, 5]) (.seq (.reg [⟨some 23, .mov (.t 0), none, false⟩, ⟨some 24, .mov (.t 2), none, false⟩, ⟨some 25, .mov (.t 3), none, false⟩, ⟨some 26, .mov (.t 4), none, false⟩, ⟨some 27, .mov (.t 5), none, false⟩, ⟨some 28, .call (.c (.func 60 [] [])) [.t 23, .t 24, .t 25, .t 26, .t 27], none, false⟩, ⟨some 22, .mov (.t 28), none, false⟩, ⟨some 29, .ext (.t 22) 0, none, false⟩, ⟨some 30, .ext (.t 22) 1, none, false⟩, ⟨some 2, .mov (.t 29), none, false⟩, ⟨some 3, .mov (.t 30), none, false⟩] [0, 1, 2, 4, 5]) (.seq (.reg [⟨some 32, .mov (.t 0), none, false⟩, ⟨some 33, .mov (.t 1), none, false⟩, ⟨some 34, .mov (.t 2), none, false⟩, ⟨some 35, .mov (.t 4), none, false⟩, ⟨some 36, .mov (.t 5), none, false⟩, ⟨some 37, .call (.c (.func 60 [] [])) [.t 32, .t 33, .t 34, .t 35, .t 36], none, false⟩, ⟨some 31, .mov (.t 37), none, false⟩, ⟨some 38, .ext (.t 31) 0, none, false⟩, ⟨some 39, .ext (.t 31) 1, none, false⟩, ⟨some 1, .mov (.t 38), none, false⟩, ⟨some 2, .mov (.t 39), none, false⟩] [2]) (.seq (.reg [⟨some 40, .mov (.t 2), none, false⟩, ⟨some 12, .mov (.t 40), none, false⟩] [12]) .ret))))
def x59 : XF := ⟨6, b59, [.t 12]⟩
def h59 : Hints := fun id => match id with
  | 0 => [0, 1, 2, 3, 4, 5]
  | 1 => [0, 1, 2, 3, 4, 5]
  | 2 => [0, 1, 2, 4, 5]
  | 3 => [2]
  | 4 => [12]
  | _ => []
theorem cv59 : cvF Try.prog h59 Try.f59 = some x59 := by kernel_rfl

/-- slices.order2CmpFunc[winnower/api.Value] -/
def b60 : XC := .seq (.reg [⟨some 10, .mov (.c (.int .i64 0)), none, false⟩, ⟨some 11, .mov (.c (.int .i64 0)), none, false⟩] [0, 1, 2, 3, 4]) (.seq (.seq (.reg [⟨some 12, .mov (.t 4), none, false⟩, ⟨some 13, .mov (.t 0), none, false⟩, ⟨some 14, .mov (.t 2), none, false⟩, ⟨some 15, .iaddr 4 (.t 13) (.t 14), none, false⟩, ⟨some 16, .load true 4 (.t 15), none, false⟩, ⟨some 17, .mov (.t 0), none, false⟩, ⟨some 18, .mov (.t 1), none, false⟩, ⟨some 19, .iaddr 4 (.t 17) (.t 18), none, false⟩, ⟨some 20, .load true 4 (.t 19), none, false⟩, ⟨some 21, .call (.t 12) [.t 16, .t 20], none, false⟩, ⟨some 22, .bin .lss (.t 21) (.c (.int .i64 0)), none, false⟩] [1, 2, 3, 22]) (.cond (.t 22) (.seq (.reg [⟨some 23, .mov (.t 3), none, false⟩, ⟨some 24, .nilck (.t 23), none, false⟩, ⟨some 25, .load false 1 (.t 24), none, false⟩, ⟨some 26, .bin .add (.t 25) (.c (.int .i64 1)), none, false⟩, ⟨some 27, .nilck (.t 23), none, false⟩, ⟨none, .store 1 (.t 27) (.t 26), none, false⟩] [1, 2]) (.seq (.reg [⟨some 28, .mov (.t 2), none, false⟩, ⟨some 29, .mov (.t 1), none, false⟩, ⟨some 10, .mov (.t 28), none, false⟩, ⟨some 11, .mov (.t 29), none, false⟩] [10, 11]) .ret)) .skip)) (.seq (.reg [⟨some 30, .mov (.t 1), none, false⟩, ⟨some 31, .mov (.t 2), none, false⟩, ⟨some 10, .mov (.t 30), none, false⟩, ⟨some 11, .mov (.t 31), none, false⟩] [10, 11]) .ret))
def x60 : XF := ⟨5, b60, [.t 10, .t 11]⟩
def h60 : Hints := fun id => match id with
  | 0 => [0, 1, 2, 3, 4]
  | 1 => [1, 2, 3, 22]
  | 2 => [1, 2]
  | 3 => [10, 11]
  | 4 => [10, 11]
  | _ => []
theorem cv60 : cvF Try.prog h60 Try.f60 = some x60 := by kernel_rfl

def X : Nat → Option XK := fun f => match f with
  | 3 => some (.fn x3)
  | 4 => some (.fn x4)
  | 5 => some (.fn x5)
  | 6 => some (.fn x6)
  | 7 => some (.fn x7)
  | 8 => some (.fn x8)
  | 9 => some (.fn x9)
  | 10 => some (.fn x10)
  | 11 => some (.fn x11)
  | 12 => some (.fn x12)
  | 13 => some (.fn x13)
  | 14 => some (.fn x14)
  | 15 => some (.fn x15)
  | 16 => some (.fn x16)
  | 17 => some (.fn x17)
  | 18 => some (.fn x18)
  | 19 => some (.fn x19)
  | 20 => some (.fn x20)
  | 21 => some (.fn x21)
  | 22 => some (.fn x22)
  | 23 => some (.fn x23)
  | 24 => some (.fn x24)
  | 25 => some (.fn x25)
  | 26 => some (.fn x26)
  | 27 => some (.fn x27)
  | 28 => some (.fn x28)
  | 29 => some (.fn x29)
  | 30 => some (.fn x30)
  | 31 => some (.fn x31)
  | 32 => some (.fn x32)
  | 33 => some (.fn x33)
  | 34 => some (.fn x34)
  | 35 => some (.fn x35)
  | 36 => some (.fn x36)
  | 37 => some (.fn x37)
  | 38 => some (.fn x38)
  | 39 => some (.fn x39)
  | 40 => some (.fn x40)
  | 41 => some (.fn x41)
  | 42 => some (.fn x42)
  | 43 => some (.fn x43)
  | 44 => some (.fn x44)
  | 45 => some (.fn x45)
  | 46 => some (.fn x46)
  | 47 => some (.fn x47)
  | 48 => some (.fn x48)
  | 49 => some (.fn x49)
  | 50 => some (.fn x50)
  | 51 => some (.fn x51)
  | 52 => some (.fn x52)
  | 53 => some (.fn x53)
  | 54 => some (.fn x54)
  | 55 => some (.fn x55)
  | 56 => some (.fn x56)
  | 57 => some (.fn x57)
  | 58 => some (.fn x58)
  | 59 => some (.fn x59)
  | 60 => some (.fn x60)
  | _ => none
def hints : Nat → Hints := fun f => match f with
  | 3 => h3
  | 4 => h4
  | 5 => h5
  | 6 => h6
  | 7 => h7
  | 8 => h8
  | 9 => h9
  | 10 => h10
  | 11 => h11
  | 12 => h12
  | 13 => h13
  | 14 => h14
  | 15 => h15
  | 16 => h16
  | 17 => h17
  | 18 => h18
  | 19 => h19
  | 20 => h20
  | 21 => h21
  | 22 => h22
  | 23 => h23
  | 24 => h24
  | 25 => h25
  | 26 => h26
  | 27 => h27
  | 28 => h28
  | 29 => h29
  | 30 => h30
  | 31 => h31
  | 32 => h32
  | 33 => h33
  | 34 => h34
  | 35 => h35
  | 36 => h36
  | 37 => h37
  | 38 => h38
  | 39 => h39
  | 40 => h40
  | 41 => h41
  | 42 => h42
  | 43 => h43
  | 44 => h44
  | 45 => h45
  | 46 => h46
  | 47 => h47
  | 48 => h48
  | 49 => h49
  | 50 => h50
  | 51 => h51
  | 52 => h52
  | 53 => h53
  | 54 => h54
  | 55 => h55
  | 56 => h56
  | 57 => h57
  | 58 => h58
  | 59 => h59
  | 60 => h60
  | _ => fun _ => []
theorem sound : Sound Try.prog X hints where
  mixed := by kernel_rfl
  ext f g h := by unfold X at h; split at h <;> cases h
  fn f x h := by
    unfold X at h
    split at h
    · injection h with h; injection h with h; subst h; exact ⟨Try.f3, by kernel_rfl, cv3⟩
    · injection h with h; injection h with h; subst h; exact ⟨Try.f4, by kernel_rfl, cv4⟩
    · injection h with h; injection h with h; subst h; exact ⟨Try.f5, by kernel_rfl, cv5⟩
    · injection h with h; injection h with h; subst h; exact ⟨Try.f6, by kernel_rfl, cv6⟩
    · injection h with h; injection h with h; subst h; exact ⟨Try.f7, by kernel_rfl, cv7⟩
    · injection h with h; injection h with h; subst h; exact ⟨Try.f8, by kernel_rfl, cv8⟩
    · injection h with h; injection h with h; subst h; exact ⟨Try.f9, by kernel_rfl, cv9⟩
    · injection h with h; injection h with h; subst h; exact ⟨Try.f10, by kernel_rfl, cv10⟩
    · injection h with h; injection h with h; subst h; exact ⟨Try.f11, by kernel_rfl, cv11⟩
    · injection h with h; injection h with h; subst h; exact ⟨Try.f12, by kernel_rfl, cv12⟩
    · injection h with h; injection h with h; subst h; exact ⟨Try.f13, by kernel_rfl, cv13⟩
    · injection h with h; injection h with h; subst h; exact ⟨Try.f14, by kernel_rfl, cv14⟩
    · injection h with h; injection h with h; subst h; exact ⟨Try.f15, by kernel_rfl, cv15⟩
    · injection h with h; injection h with h; subst h; exact ⟨Try.f16, by kernel_rfl, cv16⟩
    · injection h with h; injection h with h; subst h; exact ⟨Try.f17, by kernel_rfl, cv17⟩
    · injection h with h; injection h with h; subst h; exact ⟨Try.f18, by kernel_rfl, cv18⟩
    · injection h with h; injection h with h; subst h; exact ⟨Try.f19, by kernel_rfl, cv19⟩
    · injection h with h; injection h with h; subst h; exact ⟨Try.f20, by kernel_rfl, cv20⟩
    · injection h with h; injection h with h; subst h; exact ⟨Try.f21, by kernel_rfl, cv21⟩
    · injection h with h; injection h with h; subst h; exact ⟨Try.f22, by kernel_rfl, cv22⟩
    · injection h with h; injection h with h; subst h; exact ⟨Try.f23, by kernel_rfl, cv23⟩
    · injection h with h; injection h with h; subst h; exact ⟨Try.f24, by kernel_rfl, cv24⟩
    · injection h with h; injection h with h; subst h; exact ⟨Try.f25, by kernel_rfl, cv25⟩
    · injection h with h; injection h with h; subst h; exact ⟨Try.f26, by kernel_rfl, cv26⟩
    · injection h with h; injection h with h; subst h; exact ⟨Try.f27, by kernel_rfl, cv27⟩
    · injection h with h; injection h with h; subst h; exact ⟨Try.f28, by kernel_rfl, cv28⟩
    · injection h with h; injection h with h; subst h; exact ⟨Try.f29, by kernel_rfl, cv29⟩
    · injection h with h; injection h with h; subst h; exact ⟨Try.f30, by kernel_rfl, cv30⟩
    · injection h with h; injection h with h; subst h; exact ⟨Try.f31, by kernel_rfl, cv31⟩
    · injection h with h; injection h with h; subst h; exact ⟨Try.f32, by kernel_rfl, cv32⟩
    · injection h with h; injection h with h; subst h; exact ⟨Try.f33, by kernel_rfl, cv33⟩
    · injection h with h; injection h with h; subst h; exact ⟨Try.f34, by kernel_rfl, cv34⟩
    · injection h with h; injection h with h; subst h; exact ⟨Try.f35, by kernel_rfl, cv35⟩
    · injection h with h; injection h with h; subst h; exact ⟨Try.f36, by kernel_rfl, cv36⟩
    · injection h with h; injection h with h; subst h; exact ⟨Try.f37, by kernel_rfl, cv37⟩
    · injection h with h; injection h with h; subst h; exact ⟨Try.f38, by kernel_rfl, cv38⟩
    · injection h with h; injection h with h; subst h; exact ⟨Try.f39, by kernel_rfl, cv39⟩
    · injection h with h; injection h with h; subst h; exact ⟨Try.f40, by kernel_rfl, cv40⟩
    · injection h with h; injection h with h; subst h; exact ⟨Try.f41, by kernel_rfl, cv41⟩
    · injection h with h; injection h with h; subst h; exact ⟨Try.f42, by kernel_rfl, cv42⟩
    · injection h with h; injection h with h; subst h; exact ⟨Try.f43, by kernel_rfl, cv43⟩
    · injection h with h; injection h with h; subst h; exact ⟨Try.f44, by kernel_rfl, cv44⟩
    · injection h with h; injection h with h; subst h; exact ⟨Try.f45, by kernel_rfl, cv45⟩
    · injection h with h; injection h with h; subst h; exact ⟨Try.f46, by kernel_rfl, cv46⟩
    · injection h with h; injection h with h; subst h; exact ⟨Try.f47, by kernel_rfl, cv47⟩
    · injection h with h; injection h with h; subst h; exact ⟨Try.f48, by kernel_rfl, cv48⟩
    · injection h with h; injection h with h; subst h; exact ⟨Try.f49, by kernel_rfl, cv49⟩
    · injection h with h; injection h with h; subst h; exact ⟨Try.f50, by kernel_rfl, cv50⟩
    · injection h with h; injection h with h; subst h; exact ⟨Try.f51, by kernel_rfl, cv51⟩
    · injection h with h; injection h with h; subst h; exact ⟨Try.f52, by kernel_rfl, cv52⟩
    · injection h with h; injection h with h; subst h; exact ⟨Try.f53, by kernel_rfl, cv53⟩
    · injection h with h; injection h with h; subst h; exact ⟨Try.f54, by kernel_rfl, cv54⟩
    · injection h with h; injection h with h; subst h; exact ⟨Try.f55, by kernel_rfl, cv55⟩
    · injection h with h; injection h with h; subst h; exact ⟨Try.f56, by kernel_rfl, cv56⟩
    · injection h with h; injection h with h; subst h; exact ⟨Try.f57, by kernel_rfl, cv57⟩
    · injection h with h; injection h with h; subst h; exact ⟨Try.f58, by kernel_rfl, cv58⟩
    · injection h with h; injection h with h; subst h; exact ⟨Try.f59, by kernel_rfl, cv59⟩
    · injection h with h; injection h with h; subst h; exact ⟨Try.f60, by kernel_rfl, cv60⟩
    · cases h
end Go.Proofs.Ytmlfhjpajbmajaa
