/- Ideal runs. -/
import Derived.Test.YtmbgfbomgbdjeaaGreatDoorEngL
import Derived.Test.YtmbgfbomgbdjeaaGreatDoorFrameA
namespace Go.Proofs.YtmbgfbomgbdjeaaGreatDoor
open Go.RowKit
set_option linter.unusedVariables false
set_option linter.unusedSimpArgs false
section
variable {β : Bm} {w w' : World} {h : Zb}
theorem ai.grow (hI : Inv β w h) (hs : Below w.heap.size w w') : ai β w h β w' h where
 os := hs.os
 tape := hs.tape
 output := hs.output
 size := hs.size
 len := Nat.le_refl _
 keep b hb _ := hs.block b hb
 old _ _ hn := hn
 new o b hb := .inl hb
 obj o b y hb hy := by
  have hlt := hI.lt o b hb
  cases y with
  | box t cs => exact ⟨hb, cs, hy⟩
  | frz e sz g xs => exact ⟨hb, hy⟩
  | map kt et es => exact ⟨hb, es, hy⟩
  | row e sz g xs => exact ⟨b, g, xs, hb, .inl hy, Nat.le_refl _, fun _ => ⟨rfl, rfl, fun cur hc => ⟨cur, by rw [hs.block _ hlt.2]; exact hc, rfl⟩⟩⟩
theorem Inv.grow (hI : Inv β w h) (hs : Below w.heap.size w w') : Inv β w' h :=
 hI.step (ai.grow hI hs) (fun o b hb => ⟨(hI.lt o b hb).1, Nat.lt_of_lt_of_le (hI.lt o b hb).2 hs.size⟩) hI.inj hI.tot
  (fun o b x hb hx => .inl ⟨hb, hx, hs.block _ (hI.lt o b hb).2⟩)
end
end Go.Proofs.YtmbgfbomgbdjeaaGreatDoor
