/- Ideal runs: sifting down, heap sort, a range turned round. Ideal runs: the pivot. Ideal runs: heap sort; a range turned round; patterns broken. Ideal runs: patterns broken. Ideal runs: the scans of the partitions. Ideal runs: the partitions. Ideal runs: partial insertion sort. Plain Lean: sizes and ranges of the sort's parts. Ideal runs: the stages of a round of pdqsort. Ideal runs: pdqsort sorts. -/
import Derived.Test.YtojhkbbnkhfnhaaGreatDoorPlainM
import Derived.Sort.AssemblyPlain
namespace Go.Proofs.YtojhkbbnkhfnhaaGreatDoor
attribute [local go_sem] Ya ZT ZV ZW ZO ZF ZM ZI ZK ZB ZC ZJ ZP ZQ ZX ZN ZG ZU Zp Zm Yg ZS Yq put lk Od.v Za ZE ZA YB Ym Yn Yo unx YE DV.isU DV.cells hget Yb Yj Yd ZL splice Ye mat Yi YD one_bool one_int one_str one_nilp one_ref one_elem one_nils one_list one_row one_nilm one_map one_nilf one_func one_nili one_ifc one_agg one_tup one_undef one_fresh
attribute [local go_sem ↓] ZH
set_option linter.unusedVariables false
set_option linter.unusedSimpArgs false
set_option maxRecDepth 10000
/-- The heap with a row and, at its end, a counter. -/
def hs (H : ZD) (r g : Nat) (d : Array V) (s : Nat) : ZD := hp (H ++ [.box 3 [.int .i64 s]]) r g d
/-- The heap with a row and, at its end, a random number. -/
def hx (H : ZD) (r g : Nat) (d : Array V) (x : UInt64) : ZD := hp (H ++ [.box 160 [.int .u64 x.toNat]]) r g d
end Go.Proofs.YtojhkbbnkhfnhaaGreatDoor
namespace Go.Proofs.YtojhkbbnkhfnhaaGreatDoor
set_option linter.unusedSectionVars false
set_option linter.unusedVariables false
set_option linter.unusedSimpArgs false
set_option maxRecDepth 10000
def q1 : XC := .reg [⟨some 21, .mov (.t 2), none, false⟩, ⟨some 22, .mov (.t 1), none, false⟩, ⟨some 23, .bin .sub (.t 21) (.t 22), none, false⟩, ⟨some 12, .mov (.t 23), none, false⟩] [0, 1, 2, 3, 4, 10, 11, 12]
section
variable {H : ZD} {r g n a b lim len : Nat} {wb wp : Bool} (hr : r < H.length) (hn : n ≤ 1000000) (hab : a < b) (hb : b ≤ n) (d : Array V) (hd : d.size = n)
include hr hn hab hb hd
end
section
variable {H : ZD} {r g n a b lim len : Nat} {wb wp : Bool} (hr : r < H.length) (hn : n ≤ 1000000)
end
end Go.Proofs.YtojhkbbnkhfnhaaGreatDoor
