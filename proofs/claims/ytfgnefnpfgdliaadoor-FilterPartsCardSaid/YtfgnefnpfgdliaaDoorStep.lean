/- Ideal runs, one region at a time. -/
import Derived.Test.YtfgnefnpfgdliaaDoorEngW
namespace Go.Proofs.YtfgnefnpfgdliaaDoor
set_option linter.unusedVariables false
section
variable {X : Nat → Option XK} {e e' : Env} {h h' : Heap}
theorem s_reg {ops : List XOper} {keep : List Nat} (he : evOps (E X) ops e h = some (e', h')) : C X (.reg ops keep) e h = some (.norm, keepEnv keep e', h') := by rw [C_reg, he]
theorem s_seq {a b : XC} (ha : C X a e h = some (.norm, e', h')) : C X (.seq a b) e h = C X b e' h' := by rw [C_seq, ha]
theorem s_seq_ret {a b : XC} (ha : C X a e h = some (.ret, e', h')) : C X (.seq a b) e h = some (.ret, e', h') := by rw [C_seq, ha]
theorem s_seq_exit {a b : XC} {id : Nat} (ha : C X a e h = some (.exit id, e', h')) : C X (.seq a b) e h = some (.exit id, e', h') := by rw [C_seq, ha]
theorem s_seq_reg {ops : List XOper} {keep : List Nat} {b : XC} (he : evOps (E X) ops e h = some (e', h')) : C X (.seq (.reg ops keep) b) e h = C X b (keepEnv keep e') h' := s_seq (s_reg he)
theorem s_assoc (a b c : XC) : C X (.seq (.seq a b) c) e h = C X (.seq a (.seq b c)) e h := by
  rw [C_seq, C_seq, C_seq]
  cases C X a e h with
  | none => rfl
  | some p =>
    obtain ⟨x, e1, h1⟩ := p
    cases x with
    | norm => simp only [C_seq]
    | exit id => rfl
    | ret => rfl
theorem s_cond {c : Od} {a b : XC} {t : Bool} (hc : c.v e = .bool t) : C X (.cond c a b) e h = if t = true then C X a e h else C X b e h := by
  rw [C_cond, hc]
  cases t <;> rfl
end
end Go.Proofs.YtfgnefnpfgdliaaDoor
