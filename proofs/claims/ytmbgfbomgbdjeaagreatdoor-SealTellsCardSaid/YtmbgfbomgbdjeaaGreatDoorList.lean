/- Ideal runs. -/
import Derived.Test.YtmbgfbomgbdjeaaGreatDoorStep
import Derived.Test.YtmbgfbomgbdjeaaGreatDoorGrow
import Derived.RangeFuncKeeps
import Derived.RangeFuncCalls
import Derived.RangeFuncLeaves
import Derived.Shelf.Abstract
import Derived.WalkKit
import Derived.OwnWalkIn
import Derived.TacticsInMore
import Derived.LoopNIn
import Derived.LoopIn
import Derived.Maps.AppendAt
import Derived.RangeFuncBox
namespace Go.Proofs.YtmbgfbomgbdjeaaGreatDoor
open Go.RowKit Go.Shelf Go.Maps
set_option linter.unusedVariables false
set_option linter.unusedSimpArgs false
attribute [local go_sem] Oper.semAt_some
def V5 (ws : List Nat) (k : Nat) : Nat := ws.getD k 0
def LJ (W : World) (a : Addr) (ws : List Nat) : Prop := ∀ j, j < ws.length → W.cell? (a.add j) = some (.int .u64 (V5 ws j : Nat))
def Dp (n₀ : Nat) (W : World) (sv : Value) (ws : List Nat) : Prop :=
 (sv = .slice none 0 0 ∧ ws = []) ∨ ∃ a cap, sv = .slice (some a) ws.length cap ∧ (0 < ws.length → a.block < n₀) ∧ LJ W a ws
theorem Dp.below {n₀ : Nat} {A B : World} (h : Below n₀ A B) {sv : Value} {ws : List Nat} (hs : Dp n₀ A sv ws) : Dp n₀ B sv ws := by
 rcases hs with hs | ⟨a, cap, h1, h2, h3⟩
 ·exact .inl hs
 ·refine .inr ⟨a, cap, h1, h2, fun j hj => ?_⟩
  rw [World.cell?_of_block (w := A) (by rw [add_block]; exact h.block _ (h2 (by omega)))]
  exact h3 j hj
abbrev ints (l : List Nat) : List Value := l.map fun x => Value.int .i64 (x : Nat)
end Go.Proofs.YtmbgfbomgbdjeaaGreatDoor
