/- Ideal runs. -/
namespace Go.Proofs.YtmbgfbomgbdjeaaGreatDoor
set_option linter.unusedVariables false
set_option linter.unusedSimpArgs false
def Tf (a x : Nat) : Nat := (x / 2 &&& a) + (x &&& a)
def st2 (c x : Nat) : Nat := (x / 4 &&& c) + (x &&& c)
def UH (d x : Nat) : Nat := (x / 16 + x) &&& d
def p8 (b : Nat) : Nat := UH 15 (st2 51 (Tf 85 b))
section
variable (p0 p1 p2 p3 p4 p5 p6 p7 : Nat)
end
end Go.Proofs.YtmbgfbomgbdjeaaGreatDoor
