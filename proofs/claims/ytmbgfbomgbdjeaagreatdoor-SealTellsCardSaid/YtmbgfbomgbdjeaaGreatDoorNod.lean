/- Ideal runs. -/
import Derived.Test.YtmbgfbomgbdjeaaGreatDoorPlainB
import Derived.Test.YtmbgfbomgbdjeaaGreatDoorStep
import Derived.Test.YtmbgfbomgbdjeaaGreatDoorCode
import Derived.Test.YtmbgfbomgbdjeaaGreatDoorPlainM
import Derived.Test.YtmbgfbomgbdjeaaGreatDoorList
namespace Go.Proofs.YtmbgfbomgbdjeaaGreatDoor
structure N where
 ask : Int
 col : Int
 val : V
 a : Int
 b : Int
abbrev N.d (x : N) : DV := .agg [.int .i64 x.ask, .int .i64 x.col, .int .i64 x.val.k, .int .i64 x.val.n, .str x.val.s, .bool x.val.t, .int .i64 x.a, .int .i64 x.b]
end Go.Proofs.YtmbgfbomgbdjeaaGreatDoor
namespace Go.Proofs.YtmbgfbomgbdjeaaGreatDoor
attribute [local go_sem] ZK ZF ZE ZG Zs Zi Zp Zl Zn Ze Zf Zm Zt Zu ZH Zr Zj ZD Zz Zy ZW ZA Yo put lk Od.v Za Zg Zo aj Yd Ye Yc au eqk DV.isU DV.cells ae ZP Ya ZO Zq splice ZQ af ZX eqs bh bV bQ aV bS bg aU aZ bR aW bU aY bf aX bW bY bP YA YB
attribute [local go_sem ↓] Zk
set_option linter.unusedVariables false
set_option linter.unusedSimpArgs false
set_option maxRecDepth 10000
abbrev uD (n : Nat) : DV := .int .u64 (n : Int)
def WL (W : DV) (ws : List Nat) : Prop := W = .list 1 (ws.map uD) false ∨ (W = .nils ∧ ws = [])
theorem WL.vw {W : DV} {ws : List Nat} (h : WL W ws) (g : Zb) : vw g 1 W = some (ws.map uD) := by
 rcases h with rfl | ⟨rfl, rfl⟩ <;> rfl
def at_ (ws : List Nat) (k : Nat) : Nat := ws.getD k 0
section
variable {H : Zb} {ws : List Nat} {n : Nat}
end
end Go.Proofs.YtmbgfbomgbdjeaaGreatDoor
namespace Go.Proofs.YtmbgfbomgbdjeaaGreatDoor
set_option linter.unusedVariables false
set_option linter.unusedSimpArgs false
set_option maxRecDepth 10000
def WB (ws : List Nat) : Prop := ∀ x ∈ ws, x < 18446744073709551616
theorem WB.at {ws : List Nat} (h : WB ws) (k : Nat) : at_ ws k < 18446744073709551616 := by
 unfold at_
 by_cases hk : k < ws.length
 ·simp only [List.getD, List.getElem?_eq_getElem hk, Option.getD_some]; exact h _ (List.getElem_mem _)
 ·simp [List.getD, List.getElem?_eq_none (Nat.le_of_not_lt hk)]
theorem G5 (n : Nat) : mm true .i64 (n : Int) [.int .i64 0] = some (n : Int) := by
 have h : ¬ (n : Int) < 0 := by omega
 simp [mm, h]
def nw (a b : Nat) : Nat := a &&& (18446744073709551615 - b)
def wj (h : Zb) (H : Zb) (w : DV) (ws : List Nat) : Prop := (w = .nils ∧ ws = [] ∧ h = H) ∨ ∃ g, w = .row H.length g 0 ws.length false ∧ h = H ++ [.row 143 1 g (ws.map uD)]
theorem wj.vw {h H : Zb} {w : DV} {ws : List Nat} (hm : wj h H w ws) : vw h 1 w = some (ws.map uD) := by
 rcases hm with ⟨rfl, rfl, rfl⟩ | ⟨g, rfl, rfl⟩
 ·rfl
 ·simp [Go.Proofs.YtmbgfbomgbdjeaaGreatDoor.vw, ZP, List.take_of_length_le]
theorem wj.app {h H : Zb} {w : DV} {ws : List Nat} (hm : wj h H w ws) (hb : ws.length ≤ 1000000) (x : Nat) : ∃ w' h', bE h 143 1 8 w (ws.map uD) [uD x] = some (w', h') ∧ wj h' H w' (ws ++ [x]) := by
 have hle : ((ws.map uD).length + [uD x].length) * 8 ≤ 140737488355328 := by simp; omega
 rcases hm with ⟨rfl, rfl, rfl⟩ | ⟨g, rfl, rfl⟩
 ·exact ⟨_, _, by simp [bE], .inr ⟨0, rfl, rfl⟩⟩
 ·refine ⟨.row H.length (g + 1) 0 (ws.length + 1) false, H ++ [.row 143 1 (g + 1) ((ws ++ [x]).map uD)], ?_, .inr ⟨g + 1, by simp, rfl⟩⟩
  simp only [bE, if_pos hle, ZP]
  simp [ZO]
abbrev iD (n : Nat) : DV := .int .i64 (n : Int)
end Go.Proofs.YtmbgfbomgbdjeaaGreatDoor
namespace Go.Proofs.YtmbgfbomgbdjeaaGreatDoor
attribute [local go_sem] ZK ZF ZE ZG Zs Zi Zp Zl Zn Ze Zf Zm Zt Zu ZH Zr Zj ZD Zz Zy ZW ZA Yo put lk Od.v Za Zg Zo aj Yd Ye Yc au eqk DV.isU DV.cells ae ZP Ya ZO Zq splice ZQ af ZX eqs bh bV bQ aV bS bg aU aZ bR aW bU aY bf aX bW bY bP YA YB
attribute [local go_sem ↓] Zk
set_option linter.unusedVariables false
set_option linter.unusedSimpArgs false
set_option maxRecDepth 10000
def uH (d : DV) (vs : List V) : Prop := (∃ c, d = .list 4 (vs.map V.d) c) ∨ (d = .nils ∧ vs = [])
theorem uH.vw {d : DV} {vs : List V} (h : uH d vs) (g : Zb) : vw g 4 d = some (vs.map V.d) := by
 rcases h with ⟨c, rfl⟩ | ⟨rfl, rfl⟩ <;> rfl
def po (ds : List DV) (rs : List (List V)) : Prop := ds.length = rs.length ∧ ∀ (i : Nat) (d : DV) (vs : List V), ds[i]? = some d → rs[i]? = some vs → uH d vs
def lq (h : Zb) (H : Zb) (w : DV) (ws : List Nat) : Prop := (w = .nils ∧ ws = [] ∧ h = H) ∨ ∃ g, w = .row H.length g 0 ws.length false ∧ h = H ++ [.row 3 1 g (ws.map iD)]
theorem lq.vw {h H : Zb} {w : DV} {ws : List Nat} (hm : lq h H w ws) (L : Zb) : vw (h ++ L) 1 w = some (ws.map iD) := by
 rcases hm with ⟨rfl, rfl, rfl⟩ | ⟨g, rfl, rfl⟩
 ·rfl
 ·simp [Go.Proofs.YtmbgfbomgbdjeaaGreatDoor.vw, ZP, List.take_of_length_le]
theorem lq.app {h H : Zb} {w : DV} {ws : List Nat} (hm : lq h H w ws) (hb : ws.length ≤ 1000000) (x : Nat) : ∃ w' h', bE h 3 1 8 w (ws.map iD) [iD x] = some (w', h') ∧ lq h' H w' (ws ++ [x]) := by
 have hle : ((ws.map iD).length + [iD x].length) * 8 ≤ 140737488355328 := by simp; omega
 rcases hm with ⟨rfl, rfl, rfl⟩ | ⟨g, rfl, rfl⟩
 ·exact ⟨_, _, by simp [bE], .inr ⟨0, rfl, rfl⟩⟩
 ·refine ⟨.row H.length (g + 1) 0 (ws.length + 1) false, H ++ [.row 3 1 (g + 1) ((ws ++ [x]).map iD)], ?_, .inr ⟨g + 1, by simp, rfl⟩⟩
  simp only [bE, if_pos hle, ZP]
  simp [ZO]
theorem lq.ext {h H : Zb} {w : DV} {ws : List Nat} (hm : lq h H w ws) : ∃ L, h = H ++ L := by
 rcases hm with ⟨_, _, rfl⟩ | ⟨g, _, rfl⟩
 ·exact ⟨[], by simp⟩
 ·exact ⟨_, rfl⟩
def P8 (d : DV) (ws : List Nat) : Prop := (∃ W, d = .agg [W] ∧ WL W ws) ∧ WB ws ∧ ws.length ≤ 1024
def Dn (ds : List DV) (dn : List (List Nat)) : Prop := ds.length = dn.length ∧ ∀ (i : Nat) (d : DV) (ws : List Nat), ds[i]? = some d → dn[i]? = some ws → P8 d ws
theorem Dn.snoc {ds : List DV} {dn : List (List Nat)} (h : Dn ds dn) {d : DV} {ws : List Nat} (hd : P8 d ws) : Dn (ds ++ [d]) (dn ++ [ws]) := by
 refine ⟨by simp [h.1], fun i e us h1 h2 => ?_⟩
 by_cases c : i < ds.length
 ·rw [List.getElem?_append_left c] at h1
  rw [List.getElem?_append_left (by rw [← h.1]; exact c)] at h2
  exact h.2 i e us h1 h2
 ·rw [List.getElem?_append_right (by omega)] at h1
  rw [List.getElem?_append_right (by rw [← h.1]; omega)] at h2
  rw [← h.1] at h2
  cases hk : i - ds.length with
  | zero =>
   rw [hk] at h1 h2
   simp at h1 h2
   rw [← h1, ← h2]; exact hd
  | succ k => rw [hk] at h1; simp at h1
def S0 (H h : Zb) : Prop := h.take H.length = H
theorem S0.ex {H h : Zb} (u : S0 H h) : ∃ L, h = H ++ L := ⟨h.drop H.length, by
 have := List.take_append_drop H.length h
 rw [u] at this
 exact this.symm⟩
theorem V.nr (v : V) : Nr v.d := .agg (fun x hx => by
 simp at hx
 rcases hx with rfl | rfl | rfl | rfl
 ·exact .int _ _
 ·exact .int _ _
 ·exact .str _
 ·exact .bool _)
theorem uH.nr {d : DV} {vs : List V} (h : uH d vs) : Nr d := by
 rcases h with ⟨c, rfl⟩ | ⟨rfl, _⟩
 ·exact .list (fun x hx => by obtain ⟨v, _, rfl⟩ := List.mem_map.1 hx; exact v.nr)
 ·exact .nils
structure RefAt (H h : Zb) (n : Nat) (bl : List DV) (dn : List Bool) : Prop where
 pre : h.take H.length = H
 row : h[H.length]? = some (.row 4 1 0 bl)
 len : bl.length = n
 all : ∀ y ∈ bl, ∃ b, y = .bool b
 get : ∀ j, j < dn.length → bl[j]? = some (.bool (dn.getD j false))
theorem RefAt.len' {H h : Zb} {n : Nat} {bl : List DV} {dn : List Bool} (hR : RefAt H h n bl dn) : H.length < h.length := (List.getElem?_eq_some_iff.1 hR.row).1
theorem RefAt.vw {H h : Zb} {n : Nat} {bl : List DV} {dn : List Bool} (hR : RefAt H h n bl dn) (G : Zb) : vw (h ++ G) 1 (.row H.length 0 0 n false) = some bl := by
 have := hle hR.row G
 obtain rfl := hR.len
 simp [Go.Proofs.YtmbgfbomgbdjeaaGreatDoor.vw, this, List.take_of_length_le]
theorem RefAt.st {H h : Zb} {n : Nat} {bl : List DV} {dn : List Bool} (hR : RefAt H h n bl dn) (G : Zb) {i : Nat} (hi : i < n) (b : Bool) : stx (h ++ G) 1 (.elem (.row H.length 0 0 n false) 1 i 0) (.bool b) = some ((h ++ G).set H.length (.row 4 1 0 (bl.set i (.bool b)))) := by
 have h1 := hle hR.row G
 have hi' : i < bl.length := by rw [hR.len]; exact hi
 have h2 : bl[i]? = some bl[i] := List.getElem?_eq_getElem hi'
 rw [stx, if_pos (by simp [DV.cells, DV.one])]
 simp only [h1]
 rw [if_pos (by simp [hi, hR.len])]
 simp only [Nat.zero_add, h2]
 obtain ⟨b0, hb0⟩ := hR.all _ (List.getElem_mem hi')
 rw [hb0]
 simp [pz, DV.one]
theorem RefAt.next {H h : Zb} {n : Nat} {bl : List DV} {dn : List Bool} (hR : RefAt H h n bl dn) (G : Zb) (hi : dn.length < n) (b : Bool) : RefAt H ((h ++ G).set H.length (.row 4 1 0 (bl.set dn.length (.bool b)))) n (bl.set dn.length (.bool b)) (dn ++ [b]) where
 pre := by
  have := hR.len'
  rw [List.take_set, List.set_eq_of_length_le (by simp; omega), List.take_append_of_le_length (by omega)]
  exact hR.pre
 row := List.getElem?_set_self (by have := hR.len'; simp; omega)
 len := by simp [hR.len]
 all := by
  intro y hy
  rcases List.mem_or_eq_of_mem_set hy with hy | rfl
  ·exact hR.all y hy
  ·exact ⟨_, rfl⟩
 get := by
  intro j hj
  rw [List.length_append, List.length_singleton] at hj
  by_cases c : j = dn.length
  ·subst c
   rw [List.getElem?_set_self (by rw [hR.len]; exact hi)]
   simp [List.getD]
  ·rw [List.getElem?_set_ne (Ne.symm c), hR.get j (by omega)]
   simp [List.getD, List.getElem?_append_left (show j < dn.length by omega)]
section
variable {H1 : Zb} {L A R I6 : DV} {ds : List DV} {o : Nat} {ask col vk vn xa xb : Int} {vs' : ByteArray} {vt b8 b9 : Bool} {i : Nat}
end
def LD (d : DV) (ws : List Nat) : Prop := (d = .nils ∧ ws = []) ∨ d = .fresh 3 1 (ws.map iD)
theorem FJ {H h : Zb} {w : DV} {ws : List Nat} (hm : lq h H w ws) : ∃ d, fin H h [w] = (d, H) ∧ LD d ws := by
 rcases hm with ⟨rfl, rfl, rfl⟩ | ⟨g, rfl, rfl⟩
 ·exact ⟨.nils, by simp [fin, aH, aJ], .inl ⟨rfl, rfl⟩⟩
 ·refine ⟨_, ?_, .inr rfl⟩
  have q1 : ∀ y ∈ ws.map iD, Nr y := by intro y hy; obtain ⟨z, _, rfl⟩ := List.mem_map.1 hy; exact .int _ _
  simp only [fin]
  rw [if_pos List.take_left]
  simp only [aH, aJ]
  rw [if_neg (by omega), ZP]
  simp only [List.getElem?_cons_zero]
  rw [if_pos ⟨rfl, by simp, q1⟩, if_pos (by simp)]
end Go.Proofs.YtmbgfbomgbdjeaaGreatDoor
namespace Go.Proofs.YtmbgfbomgbdjeaaGreatDoor
set_option linter.unusedVariables false
set_option linter.unusedSimpArgs false
end Go.Proofs.YtmbgfbomgbdjeaaGreatDoor
namespace Go.Proofs.YtmbgfbomgbdjeaaGreatDoor
attribute [local go_sem] ZK ZF ZE ZG Zs Zi Zp Zl Zn Ze Zf Zm Zt Zu ZH Zr Zj ZD Zz Zy ZW ZA Yo put lk Od.v Za Zg Zo aj Yd Ye Yc au eqk DV.isU DV.cells ae ZP Ya ZO Zq splice ZQ af ZX eqs bh bV bQ aV bS bg aU aZ bR aW bU aY bf aX bW bY bP YA YB
attribute [local go_sem ↓] Zk
set_option linter.unusedVariables false
set_option linter.unusedSimpArgs false
set_option maxRecDepth 10000
def vI (i : Int) : V := ⟨1, i, ⟨#[]⟩, false⟩
def ds0 : List DV := [.list 4 [(vI 3).d] true, .list 4 [V0.d] true, .list 4 [(vI 7).d] true]
def nC : N := ⟨2, 0, vI 3, 0, 0⟩
theorem FP {h : Zb} {A B : DV} {l : List Nat} (hA : vw h 1 A = some (l.map iD)) (hB : vw h 1 B = some (l.map iD)) (hl : l.length ≤ 1000000) : E X 16 [A, B] h = some (.bool true, h) := by
 have e : l.map iD = (l.map fun n : Nat => (n : Int)).map (.int .i64) := by simp [Function.comp_def]
 rw [e] at hA hB
 rw [Cr hA hB (by simpa using hl)]
 simp
section
variable {L A : DV} {xs : List N} {ds : List DV} {rs : List (List V)}
end
end Go.Proofs.YtmbgfbomgbdjeaaGreatDoor
