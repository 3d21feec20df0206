/- Ideal runs: the chapter's example of queries. -/
import Derived.Test.YtobpbjmnonbblaaDoorQryI
namespace Go.Proofs.YtobpbjmnonbblaaDoor
attribute [local go_sem] evOps evOp_n evOp_r evOp_d evOp_dr kpo_refl kpo_app cnd_some cnd_pair cnd_cnd_t cnd_cnd_f cnd_same cnd_dvb cnd_and cnd_or gd_bool gd_boolf gd_tup cnd_t cnd_f evTo isCall evx put lk Od.v keepEnv enterEnv ldx_ref rdc binx binI binS unx eqk DV.isU DV.cells hget hget0 hset hset0 stx_ref splice fillp mat eqcs eqs one_bool one_int one_str one_nilp one_ref one_elem one_nils one_list one_row one_nilm one_map one_nilf one_func one_nili one_ifc one_agg one_tup one_undef one_fresh
attribute [local go_sem ↓] evx_pick
set_option linter.unusedVariables false
set_option linter.unusedSimpArgs false
set_option maxRecDepth 10000
def smC : DV := .list 3 [.agg [.str ⟨#[107]⟩, .int .i64 1, .bool false], .agg [.str ⟨#[118]⟩, .int .i64 2, .bool true]] true
def smS : Sch := ⟨[⟨⟨#[107]⟩, 1, false⟩, ⟨⟨#[118]⟩, 2, true⟩], -1, -1, -1, -1⟩
theorem run17 (H : Heap) : E X 17 [] H = some (.agg [smC, .int .i64 (-1), .int .i64 (-1), .int .i64 (-1), .int .i64 (-1)], H) := by
  have y1 : ∀ a b c d e f h, eltL [.agg [.str a, .int .i64 b, .bool c], .agg [.str d, .int .i64 e, .bool f]] h = some ([.agg [.str a, .int .i64 b, .bool c], .agg [.str d, .int .i64 e, .bool f]], h) := fun _ _ _ _ _ _ _ => rfl
  have y2 : ∀ a b c, Wc 3 (.agg [.str a, .int .i64 b, .bool c]) := fun a b c => by simp [Wc, DV.cells, DV.one]
  have y3 : ∀ a b c, Nr (.agg [.str a, .int .i64 b, .bool c]) := fun a b c => (.agg (by intro x hx; simp at hx; rcases hx with rfl | rfl | rfl; exact .str _; exact .int _ _; exact .bool _))
  rw [E_go (X := X) _ b17 _ rfl rfl]; unfold b17; (repeat (first | rw [s_assoc] | rw [s_seq_reg (by simp [go_sem, y1, y2, y3, smC]; exact ⟨rfl, rfl⟩)] | rw [s_cnd (by simp [lk, keepEnv, Od.v, y1, y2, y3, smC]; exact rfl)] | rw [cnd_t] | rw [cnd_f] | rw [s_skip] | rw [s_ret] | rw [s_exit] | rw [C_ret] | rw [C_exit] | rw [C_skip] | rw [blk_ret] | rw [blk_norm] | rw [blk_exit] | rw [blk_exit' (by decide)] | rw [blkT_ret] | rw [blkT_norm] | rw [blkT_exit] | rw [blkT_exit' (by decide)] | rw [s_blk] | rw [s_reg (by simp [go_sem, y1, y2, y3, smC]; exact ⟨rfl, rfl⟩)] | rw [t_cnd (by simp [lk, keepEnv, Od.v, y1, y2, y3, smC]; exact rfl)] | rw [t_blk])); simp [ends_ret, ends_norm, resL, go_sem, fin, fz0, fz1, fzT, fzL, nlt, y1, y2, y3, smC]
def qA : Qry := ⟨[], [0], [], [], [], 5⟩
def qB : Qry := ⟨[], [], [], [(2, 1)], [], 0⟩
theorem smA : checkV smS qA = 0 := by decide +kernel
theorem smB : checkV smS qB = 9 := by decide +kernel
theorem smO : outsV smS qA = [1] := by
  unfold outsV
  rw [if_neg (by rw [smA]; decide)]
  rfl
theorem qvA (H : Heap) : QV H .nils (.list 1 [.int .i64 0] true) .nils .nils .nils qA :=
  ⟨fun _ => rfl, .inl ⟨true, rfl⟩, .inr ⟨rfl, rfl⟩, fun _ => rfl, fun _ => rfl, by simp [qA], by simp [qA], by simp [qA], by simp [qA], by simp [qA]⟩
theorem qvB (H : Heap) : QV H .nils .nils .nils (.list 2 [.agg [.int .i64 2, .int .i64 1]] true) .nils qB :=
  ⟨fun _ => rfl, .inr ⟨rfl, rfl⟩, .inr ⟨rfl, rfl⟩, fun _ => rfl, fun _ => rfl, by simp [qB], by simp [qB], by simp [qB], by simp [qB], by simp [qB]⟩
set_option maxHeartbeats 1000000 in
theorem run7 (H : Heap) : E X 7 [] H = some (.bool true, H) := by
  have e17 := run17
  have hC : ∀ g, vw g 3 smC = some (smS.cols.map Cl.d) := fun g => rfl
  have hone : smC.one = true := rfl
  have e11 : ∀ g, E X 11 [.agg [smC, .int .i64 (-1), .int .i64 (-1), .int .i64 (-1), .int .i64 (-1)], .agg [.nils, .list 1 [.int .i64 0] true, .nils, .nils, .nils, .int .i64 5]] g = some (.fresh 3 1 [.int .i64 1], g) := fun g => by
    have := run11 hC (by simp [smS]) (qvA g)
    rw [smO] at this
    exact this
  have e10a : ∀ g, E X 10 [.agg [smC, .int .i64 (-1), .int .i64 (-1), .int .i64 (-1), .int .i64 (-1)], .agg [.nils, .list 1 [.int .i64 0] true, .nils, .nils, .nils, .int .i64 5]] g = some (.int .i64 0, g) := fun g => by
    have := run10 hC (by simp [smS]) (qvA g)
    rw [smA] at this
    exact this
  have e10b : ∀ g, E X 10 [.agg [smC, .int .i64 (-1), .int .i64 (-1), .int .i64 (-1), .int .i64 (-1)], .agg [.nils, .nils, .nils, .list 2 [.agg [.int .i64 2, .int .i64 1]] true, .nils, .int .i64 0]] g = some (.int .i64 9, g) := fun g => by
    have := run10 hC (by simp [smS]) (qvB g)
    rw [smB] at this
    exact this
  have e12 : ∀ g : Heap, E X 12 [.row g.length 0 0 1 false, .list 1 [.int .i64 1] true] (g ++ [.row 3 1 0 [.int .i64 1]]) = some (.bool true, g ++ [.row 3 1 0 [.int .i64 1]]) := fun g => by
    have := run12 (h := g ++ [.row 3 1 0 [.int .i64 1]]) (A := .row g.length 0 0 1 false) (B := .list 1 [.int .i64 1] true) (xs := [1]) (ys := [1]) (by simp [vw]) rfl (by simp)
    simpa using this
  have e12 := e12 (H ++ [HO.box 24 [smC, .int .i64 (-1), .int .i64 (-1), .int .i64 (-1), .int .i64 (-1)]])
  simp only [List.length_append, List.length_cons, List.length_nil, List.append_assoc, List.cons_append, List.nil_append, Nat.zero_add] at e12
  have y1 : ∀ (a : Int) h, eltL [.int .i64 a] h = some ([.int .i64 a], h) := fun _ _ => rfl
  have y2 : ∀ a, Wc 1 (.int .i64 a) := fun a => by simp [Wc, DV.cells, DV.one]
  have y3 : ∀ a, Nr (.int .i64 a) := fun a => .int _ _
  have y4 : ∀ (a b : Int) h, eltL [.agg [.int .i64 a, .int .i64 b]] h = some ([.agg [.int .i64 a, .int .i64 b]], h) := fun _ _ _ => rfl
  have y5 : ∀ a b, Wc 2 (.agg [.int .i64 a, .int .i64 b]) := fun a b => by simp [Wc, DV.cells, DV.one]
  have y6 : ∀ a b, Nr (.agg [.int .i64 a, .int .i64 b]) := fun a b => .agg (by intro x hx; simp at hx; rcases hx with rfl | rfl <;> exact .int _ _)
  generalize smC = C0 at *
  rw [E_go (X := X) _ b7 _ rfl rfl]; unfold b7
  (repeat (first | rw [s_assoc] | rw [s_seq_reg (by simp [go_sem, e17, hone, e11, e10a, e10b, e12, y1, y2, y3, y4, y5, y6]; exact ⟨rfl, rfl⟩)] | rw [s_cnd (by simp [lk, keepEnv, Od.v, e17, hone, e11, e10a, e10b, e12, y1, y2, y3, y4, y5, y6]; exact rfl)] | rw [cnd_t] | rw [cnd_f] | rw [s_skip] | rw [s_ret] | rw [s_exit] | rw [C_ret] | rw [C_exit] | rw [C_skip] | rw [blk_ret] | rw [blk_norm] | rw [blk_exit] | rw [blk_exit' (by decide)] | rw [blkT_ret] | rw [blkT_norm] | rw [blkT_exit] | rw [blkT_exit' (by decide)] | rw [s_blk] | rw [s_reg (by simp [go_sem, e17, hone, e11, e10a, e10b, e12, y1, y2, y3, y4, y5, y6]; exact ⟨rfl, rfl⟩)] | rw [t_cnd (by simp [lk, keepEnv, Od.v, e17, hone, e11, e10a, e10b, e12, y1, y2, y3, y4, y5, y6]; exact rfl)] | rw [t_blk]))
  simp [ends_ret, ends_norm, resL, go_sem, fin, fz0, fz1, fzT, fzL, nlt, hone]
end Go.Proofs.YtobpbjmnonbblaaDoor
