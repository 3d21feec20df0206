/- Ideal runs: for which rows a filter holds; does it hold for a row; the numbers of a set. -/
import Derived.Test.YtfgnefnpfgdliaaDoorFltD
namespace Go.Proofs.YtfgnefnpfgdliaaDoor
set_option linter.unusedVariables false
set_option linter.unusedSimpArgs false
set_option maxRecDepth 10000
theorem foldl_putW_len : ∀ (l ws : List Nat), (∀ x ∈ l, x < 65536) → ws.length ≤ 1024 → (l.foldl putW ws).length ≤ 1024
  | [], ws, _, h => h
  | x :: l, ws, hl, h => by
    rw [List.foldl_cons]
    refine foldl_putW_len l _ (fun y hy => hl y (List.mem_cons_of_mem _ hy)) ?_
    have := hl x (List.mem_cons_self ..)
    rw [putW_len]
    omega
theorem ofW_len {l : List Nat} (hl : ∀ x ∈ l, x < 65536) : (ofW l).length ≤ 1024 := foldl_putW_len l [] hl (by simp)
theorem leafI_lt (x : N) (rs : List (List V)) (n : Nat) : ∀ k ∈ leafI x rs n, k < n := by
  intro k hk
  have := (List.mem_filter.1 hk).1
  rwa [List.mem_range] at this
/-- The words of a filter's rows. -/
def rowsW (xs : List N) (rs : List (List V)) : List Nat := setsW rs.length (fun x => ofW (leafI x rs rs.length)) xs
theorem run16 {H : Heap} {L A : DV} {xs : List N} {ds : List DV} {rs : List (List V)} (hL : ∀ G, vw (H ++ G) 8 L = some (xs.map N.d)) (hA : ∀ G, vw (H ++ G) 1 A = some ds) (hd : RowsL ds rs) (hb : xs.length ≤ 1000000) (hr : rs.length ≤ 65536) :
    ∃ W, E X 16 [L, A] H = some (.agg [W], H) ∧ WL W (rowsW xs rs) ∧ WB (rowsW xs rs) ∧ (rowsW xs rs).length ≤ 1024 := by
  have hlf : LeafOk (H ++ [.box 34 [.nils]]) 35 [A] (fun x => ofW (leafI x rs rs.length)) := by
    intro G x
    obtain ⟨W, h1, h2⟩ := run35 (A := A) (H := H ++ [.box 34 [.nils]] ++ G) x (fun G' => by rw [List.append_assoc, List.append_assoc]; exact hA _) hd hr
    exact ⟨W, h1, h2, ofW_WB _, ofW_len (fun k hk => by have := leafI_lt x rs _ k hk; omega)⟩
  obtain ⟨W, h1, h2, h3, h4⟩ := run34 (H := H ++ [.box 34 [.nils]]) (L := L) (n := rs.length) hr (fun G => by rw [List.append_assoc]; exact hL _) hb hlf
  refine ⟨W, ?_, h2, h3, h4⟩
  have hv := hA [.box 34 [.nils]]
  have hl := hd.1
  have g3 : (H ++ [HO.box 34 [W]])[H.length]? = some (.box 34 [W]) := by simp
  have hf : fin H (H ++ [HO.box 34 [W]]) [.agg [W]] = (.agg [W], H) := fin_wl h2 List.take_left
  change WL W (rowsW xs rs) at h2
  rw [E_go (X := X) _ b16 _ rfl rfl]; unfold b16
  rcases h2 with rfl | ⟨rfl, hz⟩
  · (repeat (first | rw [s_assoc] | rw [s_seq_reg (by simp [evOps, evOp_n, evOp_r, evOp_d, evOp_dr, kpo_refl, kpo_app, cnd_some, cnd_pair, cnd_cnd_t, cnd_cnd_f, cnd_same, cnd_dvb, cnd_and, cnd_or, ↓evx_pick, gd_bool, gd_boolf, gd_tup, cnd_t, cnd_f, evTo, isCall, evx, put, lk, Od.v, keepEnv, enterEnv, ldx_ref, rdc, binx, binI, binS, unx, eqk, DV.isU, DV.cells, hget, hget0, hset, hset0, stx_ref, splice, DV.one, fillp, mat, eqcs, eqs, hv, hl, h1]; exact ⟨rfl, rfl⟩)] | rw [s_cnd (by simp [lk, keepEnv, Od.v, hv, hl, h1]; exact rfl)] | rw [cnd_t] | rw [cnd_f] | rw [s_skip] | rw [s_ret] | rw [s_exit] | rw [C_ret] | rw [C_exit] | rw [C_skip] | rw [blk_ret] | rw [blk_norm] | rw [blk_exit] | rw [blk_exit' (by decide)] | rw [blkT_ret] | rw [blkT_norm] | rw [blkT_exit] | rw [blkT_exit' (by decide)] | rw [s_blk] | rw [s_reg (by simp [evOps, evOp_n, evOp_r, evOp_d, evOp_dr, kpo_refl, kpo_app, cnd_some, cnd_pair, cnd_cnd_t, cnd_cnd_f, cnd_same, cnd_dvb, cnd_and, cnd_or, ↓evx_pick, gd_bool, gd_boolf, gd_tup, cnd_t, cnd_f, evTo, isCall, evx, put, lk, Od.v, keepEnv, enterEnv, ldx_ref, rdc, binx, binI, binS, unx, eqk, DV.isU, DV.cells, hget, hget0, hset, hset0, stx_ref, splice, DV.one, fillp, mat, eqcs, eqs, hv, hl, h1]; exact ⟨rfl, rfl⟩)] | rw [t_cnd (by simp [lk, keepEnv, Od.v, hv, hl, h1]; exact rfl)] | rw [t_blk]))
    simp [ends_norm, ends_ret, resL, keepEnv, lk, ldx_ref, g3, rdc]
    exact hf
  · (repeat (first | rw [s_assoc] | rw [s_seq_reg (by simp [evOps, evOp_n, evOp_r, evOp_d, evOp_dr, kpo_refl, kpo_app, cnd_some, cnd_pair, cnd_cnd_t, cnd_cnd_f, cnd_same, cnd_dvb, cnd_and, cnd_or, ↓evx_pick, gd_bool, gd_boolf, gd_tup, cnd_t, cnd_f, evTo, isCall, evx, put, lk, Od.v, keepEnv, enterEnv, ldx_ref, rdc, binx, binI, binS, unx, eqk, DV.isU, DV.cells, hget, hget0, hset, hset0, stx_ref, splice, DV.one, fillp, mat, eqcs, eqs, hv, hl, h1]; exact ⟨rfl, rfl⟩)] | rw [s_cnd (by simp [lk, keepEnv, Od.v, hv, hl, h1]; exact rfl)] | rw [cnd_t] | rw [cnd_f] | rw [s_skip] | rw [s_ret] | rw [s_exit] | rw [C_ret] | rw [C_exit] | rw [C_skip] | rw [blk_ret] | rw [blk_norm] | rw [blk_exit] | rw [blk_exit' (by decide)] | rw [blkT_ret] | rw [blkT_norm] | rw [blkT_exit] | rw [blkT_exit' (by decide)] | rw [s_blk] | rw [s_reg (by simp [evOps, evOp_n, evOp_r, evOp_d, evOp_dr, kpo_refl, kpo_app, cnd_some, cnd_pair, cnd_cnd_t, cnd_cnd_f, cnd_same, cnd_dvb, cnd_and, cnd_or, ↓evx_pick, gd_bool, gd_boolf, gd_tup, cnd_t, cnd_f, evTo, isCall, evx, put, lk, Od.v, keepEnv, enterEnv, ldx_ref, rdc, binx, binI, binS, unx, eqk, DV.isU, DV.cells, hget, hget0, hset, hset0, stx_ref, splice, DV.one, fillp, mat, eqcs, eqs, hv, hl, h1]; exact ⟨rfl, rfl⟩)] | rw [t_cnd (by simp [lk, keepEnv, Od.v, hv, hl, h1]; exact rfl)] | rw [t_blk]))
    simp [ends_norm, ends_ret, resL, keepEnv, lk, ldx_ref, g3, rdc]
    exact hf
theorem V.nr (v : V) : Nr v.d := .agg (fun x hx => by
  simp at hx
  rcases hx with rfl | rfl | rfl | rfl
  · exact .int _ _
  · exact .int _ _
  · exact .str _
  · exact .bool _)
theorem RowL.nr {d : DV} {vs : List V} (h : RowL d vs) : Nr d := by
  rcases h with ⟨c, rfl⟩ | ⟨rfl, _⟩
  · exact .list (fun x hx => by obtain ⟨v, _, rfl⟩ := List.mem_map.1 hx; exact v.nr)
  · exact .nils
theorem run12 {H : Heap} {L d : DV} {xs : List N} {vs : List V} (hL : ∀ G, vw (H ++ G) 8 L = some (xs.map N.d)) (hd : RowL d vs) (hb : xs.length ≤ 1000000) : E X 12 [L, d] H = some (.bool (bit (rowsW xs [vs]) 0), H) := by
  have hd1 : RowsL [d] [vs] := ⟨rfl, fun i e us h1 h2 => by
    cases i with
    | zero => simp at h1 h2; subst h1; subst h2; exact hd
    | succ i => simp at h1⟩
  obtain ⟨W, h1, h2, h3, h4⟩ := run16 (A := .list 1 [d] true) hL (fun G => rfl) hd1 hb (by simp)
  have e24 := run24 h2 h3 0 (by omega) H
  have q2 : Nr d := hd.nr
  have q3 : Wc 1 d := by rcases hd with ⟨c, rfl⟩ | ⟨rfl, _⟩ <;> simp [Wc, DV.cells, DV.one]
  have q4 : ∀ h, eltL [d] h = some ([d], h) := by rcases hd with ⟨c, rfl⟩ | ⟨rfl, _⟩ <;> intro h <;> rfl
  rw [show ((0 : Nat) : Int) = 0 from rfl] at e24
  generalize bit (rowsW xs [vs]) 0 = bb at *
  clear hL hd1 h2 h3 h4
  rw [E_go (X := X) _ b12 _ rfl rfl]; unfold b12
  rcases hd with ⟨c, rfl⟩ | ⟨rfl, _⟩
  · (repeat (first | rw [s_assoc] | rw [s_seq_reg (by simp [evOps, evOp_n, evOp_r, evOp_d, evOp_dr, kpo_refl, kpo_app, cnd_some, cnd_pair, cnd_cnd_t, cnd_cnd_f, cnd_same, cnd_dvb, cnd_and, cnd_or, ↓evx_pick, gd_bool, gd_boolf, gd_tup, cnd_t, cnd_f, evTo, isCall, evx, put, lk, Od.v, keepEnv, enterEnv, ldx_ref, rdc, binx, binI, binS, unx, eqk, DV.isU, DV.cells, hget, hget0, hset, hset0, stx_ref, splice, DV.one, fillp, mat, eqcs, eqs, h1, e24, q2, q3, q4]; exact ⟨rfl, rfl⟩)] | rw [s_cnd (by simp [lk, keepEnv, Od.v, h1, e24, q2, q3, q4]; exact rfl)] | rw [cnd_t] | rw [cnd_f] | rw [s_skip] | rw [s_ret] | rw [s_exit] | rw [C_ret] | rw [C_exit] | rw [C_skip] | rw [blk_ret] | rw [blk_norm] | rw [blk_exit] | rw [blk_exit' (by decide)] | rw [blkT_ret] | rw [blkT_norm] | rw [blkT_exit] | rw [blkT_exit' (by decide)] | rw [s_blk] | rw [s_reg (by simp [evOps, evOp_n, evOp_r, evOp_d, evOp_dr, kpo_refl, kpo_app, cnd_some, cnd_pair, cnd_cnd_t, cnd_cnd_f, cnd_same, cnd_dvb, cnd_and, cnd_or, ↓evx_pick, gd_bool, gd_boolf, gd_tup, cnd_t, cnd_f, evTo, isCall, evx, put, lk, Od.v, keepEnv, enterEnv, ldx_ref, rdc, binx, binI, binS, unx, eqk, DV.isU, DV.cells, hget, hget0, hset, hset0, stx_ref, splice, DV.one, fillp, mat, eqcs, eqs, h1, e24, q2, q3, q4]; exact ⟨rfl, rfl⟩)] | rw [t_cnd (by simp [lk, keepEnv, Od.v, h1, e24, q2, q3, q4]; exact rfl)] | rw [t_blk]))
    simp [ends_ret, ends_norm, resL, evOps, evOp_n, evOp_r, evOp_d, evOp_dr, kpo_refl, kpo_app, cnd_some, cnd_pair, cnd_cnd_t, cnd_cnd_f, cnd_same, cnd_dvb, cnd_and, cnd_or, ↓evx_pick, gd_bool, gd_boolf, gd_tup, cnd_t, cnd_f, evTo, isCall, evx, put, lk, Od.v, keepEnv, enterEnv, ldx_ref, rdc, binx, binI, binS, unx, eqk, DV.isU, DV.cells, hget, hget0, hset, hset0, stx_ref, splice, DV.one, fillp, mat, eqcs, eqs, fin, fz0, fz1, fzT, fzL, nlt, h1]
  · (repeat (first | rw [s_assoc] | rw [s_seq_reg (by simp [evOps, evOp_n, evOp_r, evOp_d, evOp_dr, kpo_refl, kpo_app, cnd_some, cnd_pair, cnd_cnd_t, cnd_cnd_f, cnd_same, cnd_dvb, cnd_and, cnd_or, ↓evx_pick, gd_bool, gd_boolf, gd_tup, cnd_t, cnd_f, evTo, isCall, evx, put, lk, Od.v, keepEnv, enterEnv, ldx_ref, rdc, binx, binI, binS, unx, eqk, DV.isU, DV.cells, hget, hget0, hset, hset0, stx_ref, splice, DV.one, fillp, mat, eqcs, eqs, h1, e24, q2, q3, q4]; exact ⟨rfl, rfl⟩)] | rw [s_cnd (by simp [lk, keepEnv, Od.v, h1, e24, q2, q3, q4]; exact rfl)] | rw [cnd_t] | rw [cnd_f] | rw [s_skip] | rw [s_ret] | rw [s_exit] | rw [C_ret] | rw [C_exit] | rw [C_skip] | rw [blk_ret] | rw [blk_norm] | rw [blk_exit] | rw [blk_exit' (by decide)] | rw [blkT_ret] | rw [blkT_norm] | rw [blkT_exit] | rw [blkT_exit' (by decide)] | rw [s_blk] | rw [s_reg (by simp [evOps, evOp_n, evOp_r, evOp_d, evOp_dr, kpo_refl, kpo_app, cnd_some, cnd_pair, cnd_cnd_t, cnd_cnd_f, cnd_same, cnd_dvb, cnd_and, cnd_or, ↓evx_pick, gd_bool, gd_boolf, gd_tup, cnd_t, cnd_f, evTo, isCall, evx, put, lk, Od.v, keepEnv, enterEnv, ldx_ref, rdc, binx, binI, binS, unx, eqk, DV.isU, DV.cells, hget, hget0, hset, hset0, stx_ref, splice, DV.one, fillp, mat, eqcs, eqs, h1, e24, q2, q3, q4]; exact ⟨rfl, rfl⟩)] | rw [t_cnd (by simp [lk, keepEnv, Od.v, h1, e24, q2, q3, q4]; exact rfl)] | rw [t_blk]))
    simp [ends_ret, ends_norm, resL, evOps, evOp_n, evOp_r, evOp_d, evOp_dr, kpo_refl, kpo_app, cnd_some, cnd_pair, cnd_cnd_t, cnd_cnd_f, cnd_same, cnd_dvb, cnd_and, cnd_or, ↓evx_pick, gd_bool, gd_boolf, gd_tup, cnd_t, cnd_f, evTo, isCall, evx, put, lk, Od.v, keepEnv, enterEnv, ldx_ref, rdc, binx, binI, binS, unx, eqk, DV.isU, DV.cells, hget, hget0, hset, hset0, stx_ref, splice, DV.one, fillp, mat, eqcs, eqs, fin, fz0, fz1, fzT, fzL, nlt, h1]
theorem wordOf_u {n : Nat} (h : n < 18446744073709551616) : wordOf (uD n) = some n := by
  simp [wordOf, uD]; omega
theorem wordsOf_u : ∀ {ws : List Nat}, WB ws → wordsOf (ws.map uD) = some ws
  | [], _ => rfl
  | w :: ws, h => by
    simp only [List.map_cons, wordsOf, wordOf_u (h w (List.mem_cons_self ..)), wordsOf_u (fun x hx => h x (List.mem_cons_of_mem _ hx))]
/-- What List hands back. -/
def listD (l : List Nat) : DV := if l = [] then .nils else .fresh 3 1 (l.map iD)
theorem run15 {W : DV} {ws : List Nat} (hW : WL W ws) (bw : WB ws) (hl : ws.length ≤ 1024) (H : Heap) : E X 15 [.agg [W], .int .i64 (-1)] H = some (listD (bitsOf ws 0), H) := by
  rw [E_ext (X := X) (g := gList) H rfl, gList]
  rw [hW.vw]
  dsimp only
  rw [wordsOf_u bw]
  dsimp only
  rw [if_pos ⟨by omega, rfl⟩]
  rfl
end Go.Proofs.YtfgnefnpfgdliaaDoor
