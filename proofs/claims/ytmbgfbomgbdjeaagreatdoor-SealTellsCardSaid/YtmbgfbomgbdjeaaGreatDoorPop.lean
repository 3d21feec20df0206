/- Ideal runs. -/
namespace Go.Proofs.YtmbgfbomgbdjeaaGreatDoor
set_option linter.unusedVariables false
set_option linter.unusedSimpArgs false
def S3 (a x : Nat) : Nat := (x / 2 &&& a) + (x &&& a)
def st2 (c x : Nat) : Nat := (x / 4 &&& c) + (x &&& c)
def Uu (d x : Nat) : Nat := (x / 16 + x) &&& d
def p8 (b : Nat) : Nat := Uu 15 (st2 51 (S3 85 b))
section
variable (p0 p1 p2 p3 p4 p5 p6 p7 : Nat)
theorem JP : 256 * (256 * (256 * (256 * (256 * (256 * (256 * p7 + p6) + p5) + p4) + p3) + p2) + p1) + p0 + (256 * (256 * (256 * (256 * (256 * (256 * p7 + p6) + p5) + p4) + p3) + p2) + p1) =
 65536 * (256 * (256 * (256 * (256 * (256 * p7 + (p6 + p7)) + (p5 + p6)) + (p4 + p5)) + (p3 + p4)) + (p2 + p3)) + (256 * (p1 + p2) + (p0 + p1)) := by omega
end
end Go.Proofs.YtmbgfbomgbdjeaaGreatDoor
