/- Nodes of filters. Ideal runs: sets of numbers, word by word. Ideal runs: both, one of both, all below a number, all but some. Ideal runs: all but some; is a number in a set. Ideal runs: the set of some numbers. Ideal runs: the set of some numbers; are two sets the same. Ideal runs: does a comparison hold for a value; is a node ahead. Ideal runs: the rows for which a node of a column holds. Ideal runs: the sets of a filter's nodes, one after the other. Ideal runs: the sets of all nodes of a filter; the rows for which it holds. Ideal runs: for which rows a filter holds; does it hold for a row; the numbers of a set. Ideal runs: the document's functions for filters: which inputs are few and light; does a filter hold for a row, node by node. Ideal runs: the document's function: does a filter hold for a row, node by node. Ideal runs: the document's functions: does a filter hold for a row; for which rows. Plain facts: what the words of sets hold; the program's filter and the document's are one. Ideal runs: the chapter's examples. FilterTells, in plain Lean: the ideal run of the law. -/
import Derived.Test.YtmbgfbomgbdjeaaGreatDoorPlainB
import Derived.Test.YtmbgfbomgbdjeaaGreatDoorStep
import Derived.Test.YtmbgfbomgbdjeaaGreatDoorCode
import Derived.Test.YtmbgfbomgbdjeaaGreatDoorPlainM
import Derived.Test.YtmbgfbomgbdjeaaGreatDoorList
namespace Go.Proofs.YtmbgfbomgbdjeaaGreatDoor
structure N where
  ask : Int
  col : Int
  val : V
  a : Int
  b : Int
abbrev N.d (x : N) : DV := .agg [.int .i64 x.ask, .int .i64 x.col, .int .i64 x.val.k, .int .i64 x.val.n, .str x.val.s, .bool x.val.t, .int .i64 x.a, .int .i64 x.b]
end Go.Proofs.YtmbgfbomgbdjeaaGreatDoor
namespace Go.Proofs.YtmbgfbomgbdjeaaGreatDoor
attribute [local go_sem] ZL ZD ZC ZE Zs Zh Zq Zk Zm Zc Ze Zl Zt Zu ZF Zr Zi ZB Zx Zw ZV Zz Yn put lk Od.v Za Zg Zn rdc Yd Ye Yc unx eqk DV.isU DV.cells hget ZP Yb ZO Zp splice ZQ mat ZW eqs one_bool one_int one_str one_nilp one_ref one_elem one_nils one_list one_row one_nilm one_map one_nilf one_func one_nili one_ifc one_agg one_tup Yv Yw
attribute [local go_sem ↓] Zj
set_option linter.unusedVariables false
set_option linter.unusedSimpArgs false
set_option maxRecDepth 10000
abbrev uD (n : Nat) : DV := .int .u64 (n : Int)
/-- A list of words that is only read. -/
def WL (W : DV) (ws : List Nat) : Prop := W = .list 1 (ws.map uD) false ∨ (W = .nils ∧ ws = [])
theorem WL.vw {W : DV} {ws : List Nat} (h : WL W ws) (g : Zb) : vw g 1 W = some (ws.map uD) := by
  rcases h with rfl | ⟨rfl, rfl⟩ <;> rfl
/-- The word at a place; nothing behind the last one. -/
def at_ (ws : List Nat) (k : Nat) : Nat := ws.getD k 0
section
variable {H : Zb} {ws : List Nat} {n : Nat}
end
end Go.Proofs.YtmbgfbomgbdjeaaGreatDoor
namespace Go.Proofs.YtmbgfbomgbdjeaaGreatDoor
set_option linter.unusedVariables false
set_option linter.unusedSimpArgs false
set_option maxRecDepth 10000
def WB (ws : List Nat) : Prop := ∀ x ∈ ws, x < 18446744073709551616
theorem WB.at {ws : List Nat} (h : WB ws) (k : Nat) : at_ ws k < 18446744073709551616 := by
  unfold at_
  by_cases hk : k < ws.length
  · simp only [List.getD, List.getElem?_eq_getElem hk, Option.getD_some]; exact h _ (List.getElem_mem _)
  · simp [List.getD, List.getElem?_eq_none (Nat.le_of_not_lt hk)]
theorem mm_clamp (n : Nat) : mm true .i64 (n : Int) [.int .i64 0] = some (n : Int) := by
  have h : ¬ (n : Int) < 0 := by omega
  simp [mm, h]
/-- Where words lie that are made. -/
def MadeW (h : Zb) (H : Zb) (w : DV) (ws : List Nat) : Prop := (w = .nils ∧ ws = [] ∧ h = H) ∨ ∃ g, w = .row H.length g 0 ws.length false ∧ h = H ++ [.row 143 1 g (ws.map uD)]
theorem MadeW.vw {h H : Zb} {w : DV} {ws : List Nat} (hm : MadeW h H w ws) : vw h 1 w = some (ws.map uD) := by
  rcases hm with ⟨rfl, rfl, rfl⟩ | ⟨g, rfl, rfl⟩
  · rfl
  · simp [Go.Proofs.YtmbgfbomgbdjeaaGreatDoor.vw, ZP, List.take_of_length_le]
theorem MadeW.app {h H : Zb} {w : DV} {ws : List Nat} (hm : MadeW h H w ws) (hb : ws.length ≤ 1000000) (x : Nat) : ∃ w' h', appx h 143 1 8 w (ws.map uD) [uD x] = some (w', h') ∧ MadeW h' H w' (ws ++ [x]) := by
  have hle : ((ws.map uD).length + [uD x].length) * 8 ≤ 140737488355328 := by simp; omega
  rcases hm with ⟨rfl, rfl, rfl⟩ | ⟨g, rfl, rfl⟩
  · exact ⟨_, _, by simp [appx], .inr ⟨0, rfl, rfl⟩⟩
  · refine ⟨.row H.length (g + 1) 0 (ws.length + 1) false, H ++ [.row 143 1 (g + 1) ((ws ++ [x]).map uD)], ?_, .inr ⟨g + 1, by simp, rfl⟩⟩
    simp only [appx, if_pos hle, ZP]
    simp [ZO]
abbrev iD (n : Nat) : DV := .int .i64 (n : Int)
end Go.Proofs.YtmbgfbomgbdjeaaGreatDoor
namespace Go.Proofs.YtmbgfbomgbdjeaaGreatDoor
attribute [local go_sem] ZL ZD ZC ZE Zs Zh Zq Zk Zm Zc Ze Zl Zt Zu ZF Zr Zi ZB Zx Zw ZV Zz Yn put lk Od.v Za Zg Zn rdc Yd Ye Yc unx eqk DV.isU DV.cells hget ZP Yb ZO Zp splice ZQ mat ZW eqs one_bool one_int one_str one_nilp one_ref one_elem one_nils one_list one_row one_nilm one_map one_nilf one_func one_nili one_ifc one_agg one_tup Yv Yw
attribute [local go_sem ↓] Zj
set_option linter.unusedVariables false
set_option linter.unusedSimpArgs false
set_option maxRecDepth 10000
/-- A row, that is only read. -/
def RowL (d : DV) (vs : List V) : Prop := (∃ c, d = .list 4 (vs.map V.d) c) ∨ (d = .nils ∧ vs = [])
theorem RowL.vw {d : DV} {vs : List V} (h : RowL d vs) (g : Zb) : vw g 4 d = some (vs.map V.d) := by
  rcases h with ⟨c, rfl⟩ | ⟨rfl, rfl⟩ <;> rfl
def RowsL (ds : List DV) (rs : List (List V)) : Prop := ds.length = rs.length ∧ ∀ (i : Nat) (d : DV) (vs : List V), ds[i]? = some d → rs[i]? = some vs → RowL d vs
/-- Where numbers lie that are collected. -/
def MadeI (h : Zb) (H : Zb) (w : DV) (ws : List Nat) : Prop := (w = .nils ∧ ws = [] ∧ h = H) ∨ ∃ g, w = .row H.length g 0 ws.length false ∧ h = H ++ [.row 3 1 g (ws.map iD)]
theorem MadeI.vw {h H : Zb} {w : DV} {ws : List Nat} (hm : MadeI h H w ws) (L : Zb) : vw (h ++ L) 1 w = some (ws.map iD) := by
  rcases hm with ⟨rfl, rfl, rfl⟩ | ⟨g, rfl, rfl⟩
  · rfl
  · simp [Go.Proofs.YtmbgfbomgbdjeaaGreatDoor.vw, ZP, List.take_of_length_le]
theorem MadeI.app {h H : Zb} {w : DV} {ws : List Nat} (hm : MadeI h H w ws) (hb : ws.length ≤ 1000000) (x : Nat) : ∃ w' h', appx h 3 1 8 w (ws.map iD) [iD x] = some (w', h') ∧ MadeI h' H w' (ws ++ [x]) := by
  have hle : ((ws.map iD).length + [iD x].length) * 8 ≤ 140737488355328 := by simp; omega
  rcases hm with ⟨rfl, rfl, rfl⟩ | ⟨g, rfl, rfl⟩
  · exact ⟨_, _, by simp [appx], .inr ⟨0, rfl, rfl⟩⟩
  · refine ⟨.row H.length (g + 1) 0 (ws.length + 1) false, H ++ [.row 3 1 (g + 1) ((ws ++ [x]).map iD)], ?_, .inr ⟨g + 1, by simp, rfl⟩⟩
    simp only [appx, if_pos hle, ZP]
    simp [ZO]
theorem MadeI.ext {h H : Zb} {w : DV} {ws : List Nat} (hm : MadeI h H w ws) : ∃ L, h = H ++ L := by
  rcases hm with ⟨_, _, rfl⟩ | ⟨g, _, rfl⟩
  · exact ⟨[], by simp⟩
  · exact ⟨_, rfl⟩
/-- A set's value. -/
def SetV (d : DV) (ws : List Nat) : Prop := (∃ W, d = .agg [W] ∧ WL W ws) ∧ WB ws ∧ ws.length ≤ 1024
/-- Sets that are collected. -/
def SetsV (ds : List DV) (dn : List (List Nat)) : Prop := ds.length = dn.length ∧ ∀ (i : Nat) (d : DV) (ws : List Nat), ds[i]? = some d → dn[i]? = some ws → SetV d ws
theorem SetsV.snoc {ds : List DV} {dn : List (List Nat)} (h : SetsV ds dn) {d : DV} {ws : List Nat} (hd : SetV d ws) : SetsV (ds ++ [d]) (dn ++ [ws]) := by
  refine ⟨by simp [h.1], fun i e us h1 h2 => ?_⟩
  by_cases c : i < ds.length
  · rw [List.getElem?_append_left c] at h1
    rw [List.getElem?_append_left (by rw [← h.1]; exact c)] at h2
    exact h.2 i e us h1 h2
  · rw [List.getElem?_append_right (by omega)] at h1
    rw [List.getElem?_append_right (by rw [← h.1]; omega)] at h2
    rw [← h.1] at h2
    cases hk : i - ds.length with
    | zero =>
      rw [hk] at h1 h2
      simp at h1 h2
      rw [← h1, ← h2]; exact hd
    | succ k => rw [hk] at h1; simp at h1
/-- A heap that only grew. -/
def UpF (H h : Zb) : Prop := h.take H.length = H
theorem UpF.ex {H h : Zb} (u : UpF H h) : ∃ L, h = H ++ L := ⟨h.drop H.length, by
  have := List.take_append_drop H.length h
  rw [u] at this
  exact this.symm⟩
theorem V.nr (v : V) : Nr v.d := .agg (fun x hx => by
  simp at hx
  rcases hx with rfl | rfl | rfl | rfl
  · exact .int _ _
  · exact .int _ _
  · exact .str _
  · exact .bool _)
theorem RowL.nr {d : DV} {vs : List V} (h : RowL d vs) : Nr d := by
  rcases h with ⟨c, rfl⟩ | ⟨rfl, _⟩
  · exact .list (fun x hx => by obtain ⟨v, _, rfl⟩ := List.mem_map.1 hx; exact v.nr)
  · exact .nils

/-- A light row. -/
def lightT (v : V) : Bool := decide (v.s.size ≤ 300)
def lightB (vs : List V) : Bool := decide (vs.length ≤ 12) && vs.all lightT
theorem loop32 {h : Zb} {L : DV} {xs : List V} (hL : vw h 4 L = some (xs.map V.d)) (hb : xs.length ≤ 1000000) :
    ∀ (k i : Nat), xs.length - i ≤ k → i ≤ xs.length → (C X (.loop lp32_0) [(0, L), (3, .int .i64 i)] h = some (.ret, [(2, .bool false)], h) ∧ (xs.drop i).all lightT = false) ∨ (∃ e', C X (.loop lp32_0) [(0, L), (3, .int .i64 i)] h = some (.exit 0, e', h) ∧ (xs.drop i).all lightT = true) := by
  intro k
  induction k with
  | zero =>
    intro i hk hi
    obtain rfl : i = xs.length := by omega
    right
    rw [Zf]
    unfold lp32_0
    refine rn @hL ?_
    rw [ZA]
    exact ⟨_, rfl, by simp⟩
  | succ k ih =>
    intro i hk hi
    by_cases w0 : i < xs.length
    · obtain ⟨I, hI⟩ : ∃ I, I = i + 1 := ⟨_, rfl⟩
      have w1 : IntKind.i64.wrap ((i : Int) + 1) = (I : Int) := (by rw [wrap64 _ (by omega) (by omega)]; omega)
      have d1 : xs.drop i = xs[i] :: xs.drop (i + 1) := List.drop_eq_getElem_cons w0
      obtain ⟨x, hg⟩ : ∃ x, xs[i] = x := ⟨_, rfl⟩
      rw [d1, ← hI, hg]
      have ih' := ih I (by omega) (by omega)
      by_cases he : x.s.size ≤ 300
      · have he' : ¬ (300 : Int) < x.s.size := by omega
        have hs : C X lp32_0 [(0, L), (3, .int .i64 i)] h = some (.norm, [(0, L), (3, .int .i64 I)], h) := by
          clear ih ih'
          unfold lp32_0
          refine rn0 (fA5 @hL @w0 @w1 @hg @he') ?_
          simp [Za, lk]
        rw [Zf, hs, ZJ]
        rcases ih' with ⟨c1, c2⟩ | ⟨e', c1, c2⟩
        · exact .inl ⟨c1, by rw [List.all_cons, c2]; simp⟩
        · exact .inr ⟨e', c1, by rw [List.all_cons, c2]; simp [lightT, he]⟩
      · left
        have he' : (300 : Int) < x.s.size := by omega
        rw [Zf]
        unfold lp32_0
        refine rn0 (fA5 @hL @w0 @w1 @hg @he') ?_
        rw [lp_ret]
        exact ⟨by simp [Za, lk], by simp [lightT, he]⟩
    · exact ih i (by omega) hi
theorem run32 {h : Zb} {L : DV} {xs : List V} (hL : vw h 4 L = some (xs.map V.d)) : E X 32 [L] h = some (.bool (lightB xs), h) := by
  by_cases hl : xs.length ≤ 12
  · have hl' : ¬ (12 : Int) < xs.length := by omega
    rw [ZH (X := X) _ b32 _ rfl rfl]; unfold b32
    refine rn (fA2 @hL @hl') ?_
    rcases loop32 hL (by omega) xs.length 0 (by omega) (by omega) with ⟨c1, c2⟩ | ⟨e', c1, c2⟩
    · rw [show ((0 : Nat) : Int) = 0 from rfl] at c1
      refine keG ?_
      rw [c1]
      refine rn @hL ?_
      rw [List.drop_zero] at c2
      exact re1 @c2
    · rw [show ((0 : Nat) : Int) = 0 from rfl] at c1
      refine keG ?_
      rw [c1]
      refine rn @hL ?_
      rw [List.drop_zero] at c2
      exact re1 (fA2 @c2 @hl)
  · have hl' : (12 : Int) < xs.length := by omega
    rw [ZH (X := X) _ b32 _ rfl rfl]; unfold b32; exact rg6 (fA3 @hL @hl' @hl)
/-- The truths of the nodes ahead. -/
structure RefAt (H h : Zb) (n : Nat) (bl : List DV) (dn : List Bool) : Prop where
  pre : h.take H.length = H
  row : h[H.length]? = some (.row 4 1 0 bl)
  len : bl.length = n
  all : ∀ y ∈ bl, ∃ b, y = .bool b
  get : ∀ j, j < dn.length → bl[j]? = some (.bool (dn.getD j false))
theorem RefAt.len' {H h : Zb} {n : Nat} {bl : List DV} {dn : List Bool} (hR : RefAt H h n bl dn) : H.length < h.length := (List.getElem?_eq_some_iff.1 hR.row).1
theorem RefAt.vw {H h : Zb} {n : Nat} {bl : List DV} {dn : List Bool} (hR : RefAt H h n bl dn) (G : Zb) : vw (h ++ G) 1 (.row H.length 0 0 n false) = some bl := by
  have := hle hR.row G
  obtain rfl := hR.len
  simp [Go.Proofs.YtmbgfbomgbdjeaaGreatDoor.vw, this, List.take_of_length_le]
theorem RefAt.st {H h : Zb} {n : Nat} {bl : List DV} {dn : List Bool} (hR : RefAt H h n bl dn) (G : Zb) {i : Nat} (hi : i < n) (b : Bool) : stx (h ++ G) 1 (.elem (.row H.length 0 0 n false) 1 i 0) (.bool b) = some ((h ++ G).set H.length (.row 4 1 0 (bl.set i (.bool b)))) := by
  have h1 := hle hR.row G
  have hi' : i < bl.length := by rw [hR.len]; exact hi
  have h2 : bl[i]? = some bl[i] := List.getElem?_eq_getElem hi'
  rw [stx, if_pos (by simp [DV.cells, DV.one])]
  simp only [h1]
  rw [if_pos (by simp [hi, hR.len])]
  simp only [Nat.zero_add, h2]
  obtain ⟨b0, hb0⟩ := hR.all _ (List.getElem_mem hi')
  rw [hb0]
  simp [eput, DV.one]
theorem RefAt.next {H h : Zb} {n : Nat} {bl : List DV} {dn : List Bool} (hR : RefAt H h n bl dn) (G : Zb) (hi : dn.length < n) (b : Bool) : RefAt H ((h ++ G).set H.length (.row 4 1 0 (bl.set dn.length (.bool b)))) n (bl.set dn.length (.bool b)) (dn ++ [b]) where
  pre := by
    have := hR.len'
    rw [List.take_set, List.set_eq_of_length_le (by simp; omega), List.take_append_of_le_length (by omega)]
    exact hR.pre
  row := List.getElem?_set_self (by have := hR.len'; simp; omega)
  len := by simp [hR.len]
  all := by
    intro y hy
    rcases List.mem_or_eq_of_mem_set hy with hy | rfl
    · exact hR.all y hy
    · exact ⟨_, rfl⟩
  get := by
    intro j hj
    rw [List.length_append, List.length_singleton] at hj
    by_cases c : j = dn.length
    · subst c
      rw [List.getElem?_set_self (by rw [hR.len]; exact hi)]
      simp [List.getD]
    · rw [List.getElem?_set_ne (Ne.symm c), hR.get j (by omega)]
      simp [List.getD, List.getElem?_append_left (show j < dn.length by omega)]
section
variable {H1 : Zb} {L A R I6 : DV} {ds : List DV} {o : Nat} {ask col vk vn xa xb : Int} {vs' : ByteArray} {vt b8 b9 : Bool} {i : Nat}
end
end Go.Proofs.YtmbgfbomgbdjeaaGreatDoor
namespace Go.Proofs.YtmbgfbomgbdjeaaGreatDoor
set_option linter.unusedVariables false
set_option linter.unusedSimpArgs false
end Go.Proofs.YtmbgfbomgbdjeaaGreatDoor
namespace Go.Proofs.YtmbgfbomgbdjeaaGreatDoor
attribute [local go_sem] ZL ZD ZC ZE Zs Zh Zq Zk Zm Zc Ze Zl Zt Zu ZF Zr Zi ZB Zx Zw ZV Zz Yn put lk Od.v Za Zg Zn rdc Yd Ye Yc unx eqk DV.isU DV.cells hget ZP Yb ZO Zp splice ZQ mat ZW eqs one_bool one_int one_str one_nilp one_ref one_elem one_nils one_list one_row one_nilm one_map one_nilf one_func one_nili one_ifc one_agg one_tup Yv Yw
attribute [local go_sem ↓] Zj
set_option linter.unusedVariables false
set_option linter.unusedSimpArgs false
set_option maxRecDepth 10000
def vI (i : Int) : V := ⟨1, i, ⟨#[]⟩, false⟩
def ds0 : List DV := [.list 4 [(vI 3).d] true, .list 4 [V0.d] true, .list 4 [(vI 7).d] true]
def nC : N := ⟨2, 0, vI 3, 0, 0⟩
section
variable {L A : DV} {xs : List N} {ds : List DV} {rs : List (List V)}
end
end Go.Proofs.YtmbgfbomgbdjeaaGreatDoor
