/- Ideal runs. -/
namespace Go.Proofs.YteekbciaggmfgaaDoor
set_option linter.unusedVariables false
set_option linter.unusedSimpArgs false
def Mh (a x : Nat) : Nat := (x / 2 &&& a) + (x &&& a)
def st2 (c x : Nat) : Nat := (x / 4 &&& c) + (x &&& c)
def NE (d x : Nat) : Nat := (x / 16 + x) &&& d
def p8 (b : Nat) : Nat := NE 15 (st2 51 (Mh 85 b))
section
variable (p0 p1 p2 p3 p4 p5 p6 p7 : Nat)
end
end Go.Proofs.YteekbciaggmfgaaDoor
