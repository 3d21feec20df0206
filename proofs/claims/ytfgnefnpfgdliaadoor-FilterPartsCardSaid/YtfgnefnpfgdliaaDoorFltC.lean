/- Ideal runs: the sets of a filter's nodes, one after the other. -/
import Derived.Test.YtfgnefnpfgdliaaDoorFltB
namespace Go.Proofs.YtfgnefnpfgdliaaDoor
set_option linter.unusedVariables false
set_option linter.unusedSimpArgs false
set_option maxRecDepth 10000
/-- The words of one node's set, by those of the nodes ahead. -/
def stepW (n : Nat) (leaf : N → List Nat) (dn : List (List Nat)) (x : N) : List Nat :=
  if x.ask = 0 then uptoW n
  else if 1 ≤ x.ask ∧ x.ask ≤ 7 then leaf x
  else if x.ask = 10 ∧ okA x.a dn.length = true then notW (dn.getD x.a.toNat []) n
  else if x.ask = 8 ∧ okA x.a dn.length = true ∧ okA x.b dn.length = true then andW (dn.getD x.a.toNat []) (dn.getD x.b.toNat [])
  else if x.ask = 9 ∧ okA x.a dn.length = true ∧ okA x.b dn.length = true then orW (dn.getD x.a.toNat []) (dn.getD x.b.toNat [])
  else []
/-- A set's value. -/
def SetV (d : DV) (ws : List Nat) : Prop := (∃ W, d = .agg [W] ∧ WL W ws) ∧ WB ws ∧ ws.length ≤ 1024
/-- Sets that are collected. -/
def SetsV (ds : List DV) (dn : List (List Nat)) : Prop := ds.length = dn.length ∧ ∀ (i : Nat) (d : DV) (ws : List Nat), ds[i]? = some d → dn[i]? = some ws → SetV d ws
theorem SetsV.snoc {ds : List DV} {dn : List (List Nat)} (h : SetsV ds dn) {d : DV} {ws : List Nat} (hd : SetV d ws) : SetsV (ds ++ [d]) (dn ++ [ws]) := by
  refine ⟨by simp [h.1], fun i e us h1 h2 => ?_⟩
  by_cases c : i < ds.length
  · rw [List.getElem?_append_left c] at h1
    rw [List.getElem?_append_left (by rw [← h.1]; exact c)] at h2
    exact h.2 i e us h1 h2
  · rw [List.getElem?_append_right (by omega)] at h1
    rw [List.getElem?_append_right (by rw [← h.1]; omega)] at h2
    rw [← h.1] at h2
    cases hk : i - ds.length with
    | zero =>
      rw [hk] at h1 h2
      simp at h1 h2
      rw [← h1, ← h2]; exact hd
    | succ k => rw [hk] at h1; simp at h1
structure DoneAt (H h : Heap) (D : DV) (ds : List DV) : Prop where
  pre : h.take H.length = H
  b6 : h[H.length]? = some (.box 34 [.nils])
  b7 : h[H.length + 1]? = some (.box 96 [D])
  row : (D = .nils ∧ ds = []) ∨ ∃ o g, D = .row o g 0 ds.length false ∧ H.length + 2 ≤ o ∧ h[o]? = some (.row 34 1 g ds)
theorem DoneAt.len {H h : Heap} {D : DV} {ds : List DV} (hD : DoneAt H h D ds) : H.length + 1 < h.length := (List.getElem?_eq_some_iff.1 hD.b7).1
theorem DoneAt.app {H h : Heap} {D : DV} {ds : List DV} (hD : DoneAt H h D ds) (L : Heap) : DoneAt H (h ++ L) D ds where
  pre := by have := hD.len; rw [List.take_append_of_le_length (by omega)]; exact hD.pre
  b6 := hle hD.b6 L
  b7 := hle hD.b7 L
  row := by
    rcases hD.row with h1 | ⟨o, g, h1, h2, h3⟩
    · exact .inl h1
    · exact .inr ⟨o, g, h1, h2, hle h3 L⟩
theorem DoneAt.vw {H h : Heap} {D : DV} {ds : List DV} (hD : DoneAt H h D ds) : vw h 1 D = some ds := by
  rcases hD.row with ⟨rfl, rfl⟩ | ⟨o, g, rfl, h2, h3⟩
  · rfl
  · simp [Go.Proofs.YtfgnefnpfgdliaaDoor.vw, h3, List.take_of_length_le]
theorem DoneAt.step {H h : Heap} {D : DV} {ds : List DV} (hD : DoneAt H h D ds) (hb : ds.length ≤ 1000000) (y : DV) : ∃ D' h2, appx h 34 1 24 D ds [y] = some (D', h2) ∧ h2[H.length + 1]? = some (.box 96 [D]) ∧ (∃ o g n, D' = .row o g 0 n false) ∧ DoneAt H (h2.set (H.length + 1) (.box 96 [D'])) D' (ds ++ [y]) := by
  have hle' : (ds.length + [y].length) * 24 ≤ 140737488355328 := by simp; omega
  have hl := hD.len
  have tk : ∀ (g : Heap) (i : Nat) (x : HO), H.length ≤ i → (g.set i x).take H.length = g.take H.length := by
    intro g i x hi
    rw [List.take_set, List.set_eq_of_length_le (by simp; omega)]
  rcases hD.row with ⟨rfl, rfl⟩ | ⟨o, g, rfl, h2, h3⟩
  · refine ⟨.row h.length 0 0 1 false, h ++ [.row 34 1 0 [y]], by simp [appx], hle hD.b7 _, ⟨_, _, _, rfl⟩, ?_, ?_, ?_, .inr ⟨h.length, 0, rfl, by omega, ?_⟩⟩
    · rw [tk _ _ _ (by omega)]; exact (hD.app _).pre
    · rw [List.getElem?_set_ne (by omega)]; exact hle hD.b6 _
    · exact List.getElem?_set_self (by simp; omega)
    · rw [List.getElem?_set_ne (by omega)]; simp
  · have ho : o < h.length := (List.getElem?_eq_some_iff.1 h3).1
    refine ⟨.row o (g + 1) 0 (ds.length + 1) false, h.set o (.row 34 1 (g + 1) (ds ++ [y])), ?_, ?_, ⟨_, _, _, rfl⟩, ?_, ?_, ?_, .inr ⟨o, g + 1, by simp, h2, ?_⟩⟩
    · simp only [appx, if_pos hle', h3]
      simp
    · rw [List.getElem?_set_ne (by omega)]; exact hD.b7
    · rw [tk _ _ _ (by omega), tk _ _ _ (by omega)]; exact hD.pre
    · rw [List.getElem?_set_ne (by omega), List.getElem?_set_ne (by omega)]; exact hD.b6
    · exact List.getElem?_set_self (by simp; omega)
    · rw [List.getElem?_set_ne (by omega)]; exact List.getElem?_set_self ho
theorem uptoW_ln {n : Nat} (hn : n ≤ 65536) : (uptoW n).length ≤ 1024 := by rw [uptoW_len]; omega
theorem notW_WB (ws : List Nat) (n : Nat) : WB (notW ws n) := by
  intro x hx
  obtain ⟨k, hk, rfl⟩ := List.mem_map.1 hx
  exact Nat.lt_of_le_of_lt Nat.and_le_left ((uptoW_WB n).at k)
theorem andW_WB {ws ts : List Nat} (h : WB ws) : WB (andW ws ts) := by
  intro x hx
  obtain ⟨k, hk, rfl⟩ := List.mem_map.1 hx
  exact Nat.lt_of_le_of_lt Nat.and_le_left (h.at k)
theorem orW_WB {ws ts : List Nat} (h : WB ws) (h' : WB ts) : WB (orW ws ts) := by
  intro x hx
  obtain ⟨k, hk, rfl⟩ := List.mem_map.1 hx
  exact Nat.or_lt_two_pow (n := 64) (h.at k) (h'.at k)
theorem okA_ok {a : Int} {n : Nat} (h : okA a n = true) : ∃ i : Nat, a = i ∧ i < n := by
  simp only [okA, Bool.and_eq_true, decide_eq_true_eq] at h
  exact ⟨a.toNat, by omega, by omega⟩
theorem bft (b : Bool) : b = false ∨ b = true := by cases b <;> simp
/-- What a leaf's function tells. -/
def LeafOk (H : Heap) (f : Nat) (cap : List DV) (leaf : N → List Nat) : Prop := ∀ L x, ∃ W, E X f (cap ++ [x.d]) (H ++ L) = some (.agg [W], H ++ L) ∧ WL W (leaf x) ∧ WB (leaf x) ∧ (leaf x).length ≤ 1024
set_option maxHeartbeats 4000000 in
theorem step34 {H h : Heap} {D L : DV} {ds : List DV} {dn : List (List Nat)} {xs : List N} {n f : Nat} {cap : List DV} {leaf : N → List Nat} (hn : n ≤ 65536) (hv : vw h 8 L = some (xs.map N.d)) (hb : xs.length ≤ 1000000)
    (hD : DoneAt H h D ds) (hS : SetsV ds dn) (hdb : ds.length ≤ 1000000) (hlf : ∀ G x, ∃ W, E X f (cap ++ [x.d]) (h ++ G) = some (.agg [W], h ++ G) ∧ WL W (leaf x) ∧ WB (leaf x) ∧ (leaf x).length ≤ 1024) {i I : Nat} (hi : i < xs.length) (hI : I = i + 1) :
    ∃ h' D' d, C X lp34_0 [(1, .int .i64 n), (2, .func f cap []), (6, .ref H.length 0), (7, .ref (H.length + 1) 0), (8, .func 60 [] [.ref (H.length + 1) 0]), (18, L), (19, .int .i64 xs.length), (20, .int .i64 i)] h =
        some (.norm, [(1, .int .i64 n), (2, .func f cap []), (6, .ref H.length 0), (7, .ref (H.length + 1) 0), (8, .func 60 [] [.ref (H.length + 1) 0]), (18, L), (19, .int .i64 xs.length), (20, .int .i64 I)], h') ∧
      DoneAt H h' D' (ds ++ [d]) ∧ SetV d (stepW n leaf dn xs[i]) := by
  have w1 : IntKind.i64.wrap ((i : Int) + 1) = (I : Int) := (by rw [wrap64 _ (by omega) (by omega)]; omega)
  generalize hxi : xs[i] = x
  have hpl : (xs.map N.d)[i]'(by simpa using hi) = x.d := by rw [List.getElem_map, hxi]
  have fin : ∀ (W : DV) (ws : List Nat), WL W ws → WB ws → ws.length ≤ 1024 → ws = stepW n leaf dn x →
      (∀ D' h2 o g m, D' = .row o g 0 m false → appx (h ++ [.box 41 x.d.cells, .box 34 [W]]) 34 1 24 D ds [.agg [W]] = some (D', h2) → h2[H.length + 1]? = some (.box 96 [D]) →
        C X lp34_0 [(1, .int .i64 n), (2, .func f cap []), (6, .ref H.length 0), (7, .ref (H.length + 1) 0), (8, .func 60 [] [.ref (H.length + 1) 0]), (18, L), (19, .int .i64 xs.length), (20, .int .i64 i)] h =
          some (.norm, [(1, .int .i64 n), (2, .func f cap []), (6, .ref H.length 0), (7, .ref (H.length + 1) 0), (8, .func 60 [] [.ref (H.length + 1) 0]), (18, L), (19, .int .i64 xs.length), (20, .int .i64 I)], h2.set (H.length + 1) (.box 96 [D']))) →
      ∃ h' D' d, C X lp34_0 [(1, .int .i64 n), (2, .func f cap []), (6, .ref H.length 0), (7, .ref (H.length + 1) 0), (8, .func 60 [] [.ref (H.length + 1) 0]), (18, L), (19, .int .i64 xs.length), (20, .int .i64 i)] h =
        some (.norm, [(1, .int .i64 n), (2, .func f cap []), (6, .ref H.length 0), (7, .ref (H.length + 1) 0), (8, .func 60 [] [.ref (H.length + 1) 0]), (18, L), (19, .int .i64 xs.length), (20, .int .i64 I)], h') ∧
      DoneAt H h' D' (ds ++ [d]) ∧ SetV d (stepW n leaf dn x) := by
    intro W ws hW hB hl he hr
    obtain ⟨D', h2, ha, h7, ⟨o, g, m, hrow⟩, hD'⟩ := (hD.app [.box 41 x.d.cells, .box 34 [W]]).step hdb (.agg [W])
    rw [← he]
    exact ⟨_, D', .agg [W], hr D' h2 o g m hrow ha h7, hD', ⟨W, rfl, hW⟩, hB, hl⟩
  have hlen : (xs.map N.d).length = xs.length := by simp
  have g7 : ∀ G, (h ++ G)[H.length + 1]? = some (.box 96 [D]) := fun G => (hD.app G).b7
  have gv : ∀ G, vw (h ++ G) 1 D = some ds := fun G => (hD.app G).vw
  have e40 := fun G => run40 n hn (h ++ G)
  have e60a := fun G => run60 (g7 G) (gv G) x.a
  have e60b := fun G => run60 (g7 G) (gv G) x.b
  have elf := fun G => hlf G x
  have z2 : ∀ W h, srcOf h 1 (.list 1 [.agg [W]] true) = some [.agg [W]] := fun _ _ => rfl
  have z3 : ∀ ws : List Nat, Wc 1 (.agg [.list 1 (ws.map uD) false]) := fun ws => by simp [Wc, DV.cells, DV.one]
  have z4 : ∀ ws : List Nat, Nr (.agg [.list 1 (ws.map uD) false]) := fun ws => .agg (fun x hx => by
    rw [List.mem_singleton] at hx; subst hx
    exact .list (fun y hy => by obtain ⟨z, _, rfl⟩ := List.mem_map.1 hy; exact .int _ _))
  have z5 : ∀ (ws : List Nat) h, eltL [.agg [.list 1 (ws.map uD) false]] h = some ([.agg [.list 1 (ws.map uD) false]], h) := fun _ _ => rfl
  have y3 : Wc 1 (.agg [.nils]) := by simp [Wc, DV.cells, DV.one]
  have y4 : Nr (.agg [.nils]) := .agg (fun x hx => by rw [List.mem_singleton] at hx; subst hx; exact .nils)
  have y5 : ∀ h, eltL [.agg [.nils]] h = some ([.agg [.nils]], h) := fun _ => rfl
  clear hlf hxi
  unfold stepW at *
  obtain ⟨ask, col, ⟨vk, vn, vs, vt⟩, xa, xb⟩ := x
  simp only [N.d, V.d, DV.cells] at *
  by_cases c0 : ask = 0
  · subst c0
    refine fin _ (uptoW n) (.inl rfl) (uptoW_WB n) (uptoW_ln hn) (by simp) ?_
    intro D' h2 o g m hrow ha h7
    subst hrow
    clear fin
    generalize uptoW n = up at *
    generalize H.length + 1 = p7 at *
    unfold lp34_0
    (repeat (first | rw [s_assoc] | rw [s_seq_reg (by simp [evOps, evOp_n, evOp_r, evOp_d, evOp_dr, kpo_refl, kpo_app, cnd_some, cnd_pair, cnd_cnd_t, cnd_cnd_f, cnd_same, cnd_dvb, cnd_and, cnd_or, ↓evx_pick, gd_bool, gd_boolf, gd_tup, cnd_t, cnd_f, evTo, isCall, evx, put, lk, Od.v, keepEnv, enterEnv, ldx_ref, rdc, binx, binI, binS, unx, eqk, DV.isU, DV.cells, hget, hget0, hset, hset0, stx_ref, splice, DV.one, fillp, mat, eqcs, eqs, hi, hlen, w1, hv, hpl, ldx_ref, ldx, e40, g7, gv, ha, h7, z2, z3, z4, z5]; exact ⟨rfl, rfl⟩)] | rw [s_cnd (by simp [lk, keepEnv, Od.v, hi, hlen, w1, hv, hpl, ldx_ref, ldx, e40, g7, gv, ha, h7, z2, z3, z4, z5]; exact rfl)] | rw [cnd_t] | rw [cnd_f] | rw [s_skip] | rw [s_ret] | rw [s_exit] | rw [C_ret] | rw [C_exit] | rw [C_skip] | rw [blk_ret] | rw [blk_norm] | rw [blk_exit] | rw [blk_exit' (by decide)] | rw [blkT_ret] | rw [blkT_norm] | rw [blkT_exit] | rw [blkT_exit' (by decide)] | rw [s_blk] | rw [s_reg (by simp [evOps, evOp_n, evOp_r, evOp_d, evOp_dr, kpo_refl, kpo_app, cnd_some, cnd_pair, cnd_cnd_t, cnd_cnd_f, cnd_same, cnd_dvb, cnd_and, cnd_or, ↓evx_pick, gd_bool, gd_boolf, gd_tup, cnd_t, cnd_f, evTo, isCall, evx, put, lk, Od.v, keepEnv, enterEnv, ldx_ref, rdc, binx, binI, binS, unx, eqk, DV.isU, DV.cells, hget, hget0, hset, hset0, stx_ref, splice, DV.one, fillp, mat, eqcs, eqs, hi, hlen, w1, hv, hpl, ldx_ref, ldx, e40, g7, gv, ha, h7, z2, z3, z4, z5]; exact ⟨rfl, rfl⟩)] | rw [t_cnd (by simp [lk, keepEnv, Od.v, hi, hlen, w1, hv, hpl, ldx_ref, ldx, e40, g7, gv, ha, h7, z2, z3, z4, z5]; exact rfl)] | rw [t_blk]))
    simp [keepEnv, lk]
  have c0' : (ask == 0) = false := by simpa using c0
  by_cases c1 : 1 ≤ ask ∧ ask ≤ 7
  · obtain ⟨c1, c2⟩ := c1
    have c3 : ¬ ask < 1 := by omega
    have c4 : ¬ 7 < ask := by omega
    obtain ⟨W, e1, hW, hB, hl⟩ := elf [.box 41 [.int .i64 ask, .int .i64 col, .int .i64 vk, .int .i64 vn, .str vs, .bool vt, .int .i64 xa, .int .i64 xb], .box 34 [.nils]]
    refine fin W _ hW hB hl (by simp [c0, c1, c2]) ?_
    intro D' h2 o g m hrow ha h7
    subst hrow
    clear fin elf
    rcases hW with rfl | ⟨rfl, hz⟩
    · generalize leaf _ = lw at *
      generalize H.length + 1 = p7 at *
      unfold lp34_0
      (repeat (first | rw [s_assoc] | rw [s_seq_reg (by simp [evOps, evOp_n, evOp_r, evOp_d, evOp_dr, kpo_refl, kpo_app, cnd_some, cnd_pair, cnd_cnd_t, cnd_cnd_f, cnd_same, cnd_dvb, cnd_and, cnd_or, ↓evx_pick, gd_bool, gd_boolf, gd_tup, cnd_t, cnd_f, evTo, isCall, evx, put, lk, Od.v, keepEnv, enterEnv, ldx_ref, rdc, binx, binI, binS, unx, eqk, DV.isU, DV.cells, hget, hget0, hset, hset0, stx_ref, splice, DV.one, fillp, mat, eqcs, eqs, hi, hlen, w1, hv, hpl, ldx_ref, ldx, e1, c0, c0', c1, c2, c3, c4, g7, gv, ha, h7, z2, z3, z4, z5]; exact ⟨rfl, rfl⟩)] | rw [s_cnd (by simp [lk, keepEnv, Od.v, hi, hlen, w1, hv, hpl, ldx_ref, ldx, e1, c0, c0', c1, c2, c3, c4, g7, gv, ha, h7, z2, z3, z4, z5]; exact rfl)] | rw [cnd_t] | rw [cnd_f] | rw [s_skip] | rw [s_ret] | rw [s_exit] | rw [C_ret] | rw [C_exit] | rw [C_skip] | rw [blk_ret] | rw [blk_norm] | rw [blk_exit] | rw [blk_exit' (by decide)] | rw [blkT_ret] | rw [blkT_norm] | rw [blkT_exit] | rw [blkT_exit' (by decide)] | rw [s_blk] | rw [s_reg (by simp [evOps, evOp_n, evOp_r, evOp_d, evOp_dr, kpo_refl, kpo_app, cnd_some, cnd_pair, cnd_cnd_t, cnd_cnd_f, cnd_same, cnd_dvb, cnd_and, cnd_or, ↓evx_pick, gd_bool, gd_boolf, gd_tup, cnd_t, cnd_f, evTo, isCall, evx, put, lk, Od.v, keepEnv, enterEnv, ldx_ref, rdc, binx, binI, binS, unx, eqk, DV.isU, DV.cells, hget, hget0, hset, hset0, stx_ref, splice, DV.one, fillp, mat, eqcs, eqs, hi, hlen, w1, hv, hpl, ldx_ref, ldx, e1, c0, c0', c1, c2, c3, c4, g7, gv, ha, h7, z2, z3, z4, z5]; exact ⟨rfl, rfl⟩)] | rw [t_cnd (by simp [lk, keepEnv, Od.v, hi, hlen, w1, hv, hpl, ldx_ref, ldx, e1, c0, c0', c1, c2, c3, c4, g7, gv, ha, h7, z2, z3, z4, z5]; exact rfl)] | rw [t_blk]))
      simp [keepEnv, lk]
    · clear hB hl hz
      generalize H.length + 1 = p7 at *
      unfold lp34_0
      (repeat (first | rw [s_assoc] | rw [s_seq_reg (by simp [evOps, evOp_n, evOp_r, evOp_d, evOp_dr, kpo_refl, kpo_app, cnd_some, cnd_pair, cnd_cnd_t, cnd_cnd_f, cnd_same, cnd_dvb, cnd_and, cnd_or, ↓evx_pick, gd_bool, gd_boolf, gd_tup, cnd_t, cnd_f, evTo, isCall, evx, put, lk, Od.v, keepEnv, enterEnv, ldx_ref, rdc, binx, binI, binS, unx, eqk, DV.isU, DV.cells, hget, hget0, hset, hset0, stx_ref, splice, DV.one, fillp, mat, eqcs, eqs, hi, hlen, w1, hv, hpl, ldx_ref, ldx, e1, c0, c0', c1, c2, c3, c4, g7, gv, ha, h7, z2, y3, y4, y5]; exact ⟨rfl, rfl⟩)] | rw [s_cnd (by simp [lk, keepEnv, Od.v, hi, hlen, w1, hv, hpl, ldx_ref, ldx, e1, c0, c0', c1, c2, c3, c4, g7, gv, ha, h7, z2, y3, y4, y5]; exact rfl)] | rw [cnd_t] | rw [cnd_f] | rw [s_skip] | rw [s_ret] | rw [s_exit] | rw [C_ret] | rw [C_exit] | rw [C_skip] | rw [blk_ret] | rw [blk_norm] | rw [blk_exit] | rw [blk_exit' (by decide)] | rw [blkT_ret] | rw [blkT_norm] | rw [blkT_exit] | rw [blkT_exit' (by decide)] | rw [s_blk] | rw [s_reg (by simp [evOps, evOp_n, evOp_r, evOp_d, evOp_dr, kpo_refl, kpo_app, cnd_some, cnd_pair, cnd_cnd_t, cnd_cnd_f, cnd_same, cnd_dvb, cnd_and, cnd_or, ↓evx_pick, gd_bool, gd_boolf, gd_tup, cnd_t, cnd_f, evTo, isCall, evx, put, lk, Od.v, keepEnv, enterEnv, ldx_ref, rdc, binx, binI, binS, unx, eqk, DV.isU, DV.cells, hget, hget0, hset, hset0, stx_ref, splice, DV.one, fillp, mat, eqcs, eqs, hi, hlen, w1, hv, hpl, ldx_ref, ldx, e1, c0, c0', c1, c2, c3, c4, g7, gv, ha, h7, z2, y3, y4, y5]; exact ⟨rfl, rfl⟩)] | rw [t_cnd (by simp [lk, keepEnv, Od.v, hi, hlen, w1, hv, hpl, ldx_ref, ldx, e1, c0, c0', c1, c2, c3, c4, g7, gv, ha, h7, z2, y3, y4, y5]; exact rfl)] | rw [t_blk]))
      simp [keepEnv, lk]
  clear elf
  have hSl := hS.1
  rw [hSl] at e60a e60b
  have at1 : ∀ {a : Int}, okA a dn.length = true → ∃ (j : Nat) (W : DV) (ws : List Nat), a = j ∧ j < ds.length ∧ (∃ hj : j < ds.length, ds[j] = .agg [W]) ∧ dn.getD a.toNat [] = ws ∧ WL W ws ∧ WB ws ∧ ws.length ≤ 1024 := by
    intro a ha
    obtain ⟨j, rfl, hj⟩ := okA_ok ha
    have hj' : j < ds.length := by omega
    obtain ⟨⟨W, hW1, hW2⟩, hB, hl⟩ := hS.2 j _ _ (List.getElem?_eq_getElem hj') (List.getElem?_eq_getElem hj)
    exact ⟨j, W, dn[j], rfl, hj', ⟨hj', hW1⟩, by simp [List.getD, List.getElem?_eq_getElem hj], hW2, hB, hl⟩
  have none_ : (∀ D' h2 o g m, D' = .row o g 0 m false → appx (h ++ [.box 41 [.int .i64 ask, .int .i64 col, .int .i64 vk, .int .i64 vn, .str vs, .bool vt, .int .i64 xa, .int .i64 xb], .box 34 [.nils]]) 34 1 24 D ds [.agg [.nils]] = some (D', h2) → h2[H.length + 1]? = some (.box 96 [D]) → True) := fun _ _ _ _ _ _ _ _ => trivial
  clear none_
  by_cases c10 : ask = 10
  · subst c10
    rcases bft (okA xa dn.length) with oa | oa
    · rw [oa] at e60a
      refine fin .nils [] (.inr ⟨rfl, rfl⟩) (by intro y hy; cases hy) (by simp) (by simp [oa]) ?_
      intro D' h2 o g m hrow ha h7
      subst hrow
      clear fin at1
      generalize H.length + 1 = p7 at *
      unfold lp34_0
      (repeat (first | rw [s_assoc] | rw [s_seq_reg (by simp [evOps, evOp_n, evOp_r, evOp_d, evOp_dr, kpo_refl, kpo_app, cnd_some, cnd_pair, cnd_cnd_t, cnd_cnd_f, cnd_same, cnd_dvb, cnd_and, cnd_or, ↓evx_pick, gd_bool, gd_boolf, gd_tup, cnd_t, cnd_f, evTo, isCall, evx, put, lk, Od.v, keepEnv, enterEnv, ldx_ref, rdc, binx, binI, binS, unx, eqk, DV.isU, DV.cells, hget, hget0, hset, hset0, stx_ref, splice, DV.one, fillp, mat, eqcs, eqs, hi, hlen, w1, hv, hpl, ldx_ref, ldx, e60a, g7, gv, ha, h7, z2, y3, y4, y5]; exact ⟨rfl, rfl⟩)] | rw [s_cnd (by simp [lk, keepEnv, Od.v, hi, hlen, w1, hv, hpl, ldx_ref, ldx, e60a, g7, gv, ha, h7, z2, y3, y4, y5]; exact rfl)] | rw [cnd_t] | rw [cnd_f] | rw [s_skip] | rw [s_ret] | rw [s_exit] | rw [C_ret] | rw [C_exit] | rw [C_skip] | rw [blk_ret] | rw [blk_norm] | rw [blk_exit] | rw [blk_exit' (by decide)] | rw [blkT_ret] | rw [blkT_norm] | rw [blkT_exit] | rw [blkT_exit' (by decide)] | rw [s_blk] | rw [s_reg (by simp [evOps, evOp_n, evOp_r, evOp_d, evOp_dr, kpo_refl, kpo_app, cnd_some, cnd_pair, cnd_cnd_t, cnd_cnd_f, cnd_same, cnd_dvb, cnd_and, cnd_or, ↓evx_pick, gd_bool, gd_boolf, gd_tup, cnd_t, cnd_f, evTo, isCall, evx, put, lk, Od.v, keepEnv, enterEnv, ldx_ref, rdc, binx, binI, binS, unx, eqk, DV.isU, DV.cells, hget, hget0, hset, hset0, stx_ref, splice, DV.one, fillp, mat, eqcs, eqs, hi, hlen, w1, hv, hpl, ldx_ref, ldx, e60a, g7, gv, ha, h7, z2, y3, y4, y5]; exact ⟨rfl, rfl⟩)] | rw [t_cnd (by simp [lk, keepEnv, Od.v, hi, hlen, w1, hv, hpl, ldx_ref, ldx, e60a, g7, gv, ha, h7, z2, y3, y4, y5]; exact rfl)] | rw [t_blk]))
      simp [keepEnv, lk]
    · rw [oa] at e60a
      obtain ⟨j, W, ws, rfl, hj, ⟨_, hd⟩, hg, hW, hB, hl⟩ := at1 oa
      have e21 := fun G => run21 hW hB n hn (h ++ G)
      refine fin _ (notW ws n) (.inl rfl) (notW_WB ws n) (by simp [notW]; omega) (by rw [← hg]; simp [oa]) ?_
      intro D' h2 o g m hrow ha h7
      subst hrow
      clear fin at1
      generalize notW ws n = us at *
      generalize H.length + 1 = p7 at *
      unfold lp34_0
      (repeat (first | rw [s_assoc] | rw [s_seq_reg (by simp [evOps, evOp_n, evOp_r, evOp_d, evOp_dr, kpo_refl, kpo_app, cnd_some, cnd_pair, cnd_cnd_t, cnd_cnd_f, cnd_same, cnd_dvb, cnd_and, cnd_or, ↓evx_pick, gd_bool, gd_boolf, gd_tup, cnd_t, cnd_f, evTo, isCall, evx, put, lk, Od.v, keepEnv, enterEnv, ldx_ref, rdc, binx, binI, binS, unx, eqk, DV.isU, DV.cells, hget, hget0, hset, hset0, stx_ref, splice, DV.one, fillp, mat, eqcs, eqs, hi, hlen, w1, hv, hpl, ldx_ref, ldx, e60a, e21, hd, hj, g7, gv, ha, h7, z2, z3, z4, z5]; exact ⟨rfl, rfl⟩)] | rw [s_cnd (by simp [lk, keepEnv, Od.v, hi, hlen, w1, hv, hpl, ldx_ref, ldx, e60a, e21, hd, hj, g7, gv, ha, h7, z2, z3, z4, z5]; exact rfl)] | rw [cnd_t] | rw [cnd_f] | rw [s_skip] | rw [s_ret] | rw [s_exit] | rw [C_ret] | rw [C_exit] | rw [C_skip] | rw [blk_ret] | rw [blk_norm] | rw [blk_exit] | rw [blk_exit' (by decide)] | rw [blkT_ret] | rw [blkT_norm] | rw [blkT_exit] | rw [blkT_exit' (by decide)] | rw [s_blk] | rw [s_reg (by simp [evOps, evOp_n, evOp_r, evOp_d, evOp_dr, kpo_refl, kpo_app, cnd_some, cnd_pair, cnd_cnd_t, cnd_cnd_f, cnd_same, cnd_dvb, cnd_and, cnd_or, ↓evx_pick, gd_bool, gd_boolf, gd_tup, cnd_t, cnd_f, evTo, isCall, evx, put, lk, Od.v, keepEnv, enterEnv, ldx_ref, rdc, binx, binI, binS, unx, eqk, DV.isU, DV.cells, hget, hget0, hset, hset0, stx_ref, splice, DV.one, fillp, mat, eqcs, eqs, hi, hlen, w1, hv, hpl, ldx_ref, ldx, e60a, e21, hd, hj, g7, gv, ha, h7, z2, z3, z4, z5]; exact ⟨rfl, rfl⟩)] | rw [t_cnd (by simp [lk, keepEnv, Od.v, hi, hlen, w1, hv, hpl, ldx_ref, ldx, e60a, e21, hd, hj, g7, gv, ha, h7, z2, z3, z4, z5]; exact rfl)] | rw [t_blk]))
      simp [keepEnv, lk]
  by_cases c8 : ask = 8
  · subst c8
    rcases bft (okA xa dn.length) with oa | oa
    · rw [oa] at e60a
      refine fin .nils [] (.inr ⟨rfl, rfl⟩) (by intro y hy; cases hy) (by simp) (by simp [oa]) ?_
      intro D' h2 o g m hrow ha h7
      subst hrow
      clear fin at1
      generalize H.length + 1 = p7 at *
      unfold lp34_0
      (repeat (first | rw [s_assoc] | rw [s_seq_reg (by simp [evOps, evOp_n, evOp_r, evOp_d, evOp_dr, kpo_refl, kpo_app, cnd_some, cnd_pair, cnd_cnd_t, cnd_cnd_f, cnd_same, cnd_dvb, cnd_and, cnd_or, ↓evx_pick, gd_bool, gd_boolf, gd_tup, cnd_t, cnd_f, evTo, isCall, evx, put, lk, Od.v, keepEnv, enterEnv, ldx_ref, rdc, binx, binI, binS, unx, eqk, DV.isU, DV.cells, hget, hget0, hset, hset0, stx_ref, splice, DV.one, fillp, mat, eqcs, eqs, hi, hlen, w1, hv, hpl, ldx_ref, ldx, e60a, g7, gv, ha, h7, z2, y3, y4, y5]; exact ⟨rfl, rfl⟩)] | rw [s_cnd (by simp [lk, keepEnv, Od.v, hi, hlen, w1, hv, hpl, ldx_ref, ldx, e60a, g7, gv, ha, h7, z2, y3, y4, y5]; exact rfl)] | rw [cnd_t] | rw [cnd_f] | rw [s_skip] | rw [s_ret] | rw [s_exit] | rw [C_ret] | rw [C_exit] | rw [C_skip] | rw [blk_ret] | rw [blk_norm] | rw [blk_exit] | rw [blk_exit' (by decide)] | rw [blkT_ret] | rw [blkT_norm] | rw [blkT_exit] | rw [blkT_exit' (by decide)] | rw [s_blk] | rw [s_reg (by simp [evOps, evOp_n, evOp_r, evOp_d, evOp_dr, kpo_refl, kpo_app, cnd_some, cnd_pair, cnd_cnd_t, cnd_cnd_f, cnd_same, cnd_dvb, cnd_and, cnd_or, ↓evx_pick, gd_bool, gd_boolf, gd_tup, cnd_t, cnd_f, evTo, isCall, evx, put, lk, Od.v, keepEnv, enterEnv, ldx_ref, rdc, binx, binI, binS, unx, eqk, DV.isU, DV.cells, hget, hget0, hset, hset0, stx_ref, splice, DV.one, fillp, mat, eqcs, eqs, hi, hlen, w1, hv, hpl, ldx_ref, ldx, e60a, g7, gv, ha, h7, z2, y3, y4, y5]; exact ⟨rfl, rfl⟩)] | rw [t_cnd (by simp [lk, keepEnv, Od.v, hi, hlen, w1, hv, hpl, ldx_ref, ldx, e60a, g7, gv, ha, h7, z2, y3, y4, y5]; exact rfl)] | rw [t_blk]))
      simp [keepEnv, lk]
    · rw [oa] at e60a
      rcases bft (okA xb dn.length) with ob | ob
      · rw [ob] at e60b
        refine fin .nils [] (.inr ⟨rfl, rfl⟩) (by intro y hy; cases hy) (by simp) (by simp [oa, ob]) ?_
        intro D' h2 o g m hrow ha h7
        subst hrow
        clear fin at1
        generalize H.length + 1 = p7 at *
        unfold lp34_0
        (repeat (first | rw [s_assoc] | rw [s_seq_reg (by simp [evOps, evOp_n, evOp_r, evOp_d, evOp_dr, kpo_refl, kpo_app, cnd_some, cnd_pair, cnd_cnd_t, cnd_cnd_f, cnd_same, cnd_dvb, cnd_and, cnd_or, ↓evx_pick, gd_bool, gd_boolf, gd_tup, cnd_t, cnd_f, evTo, isCall, evx, put, lk, Od.v, keepEnv, enterEnv, ldx_ref, rdc, binx, binI, binS, unx, eqk, DV.isU, DV.cells, hget, hget0, hset, hset0, stx_ref, splice, DV.one, fillp, mat, eqcs, eqs, hi, hlen, w1, hv, hpl, ldx_ref, ldx, e60a, e60b, g7, gv, ha, h7, z2, y3, y4, y5]; exact ⟨rfl, rfl⟩)] | rw [s_cnd (by simp [lk, keepEnv, Od.v, hi, hlen, w1, hv, hpl, ldx_ref, ldx, e60a, e60b, g7, gv, ha, h7, z2, y3, y4, y5]; exact rfl)] | rw [cnd_t] | rw [cnd_f] | rw [s_skip] | rw [s_ret] | rw [s_exit] | rw [C_ret] | rw [C_exit] | rw [C_skip] | rw [blk_ret] | rw [blk_norm] | rw [blk_exit] | rw [blk_exit' (by decide)] | rw [blkT_ret] | rw [blkT_norm] | rw [blkT_exit] | rw [blkT_exit' (by decide)] | rw [s_blk] | rw [s_reg (by simp [evOps, evOp_n, evOp_r, evOp_d, evOp_dr, kpo_refl, kpo_app, cnd_some, cnd_pair, cnd_cnd_t, cnd_cnd_f, cnd_same, cnd_dvb, cnd_and, cnd_or, ↓evx_pick, gd_bool, gd_boolf, gd_tup, cnd_t, cnd_f, evTo, isCall, evx, put, lk, Od.v, keepEnv, enterEnv, ldx_ref, rdc, binx, binI, binS, unx, eqk, DV.isU, DV.cells, hget, hget0, hset, hset0, stx_ref, splice, DV.one, fillp, mat, eqcs, eqs, hi, hlen, w1, hv, hpl, ldx_ref, ldx, e60a, e60b, g7, gv, ha, h7, z2, y3, y4, y5]; exact ⟨rfl, rfl⟩)] | rw [t_cnd (by simp [lk, keepEnv, Od.v, hi, hlen, w1, hv, hpl, ldx_ref, ldx, e60a, e60b, g7, gv, ha, h7, z2, y3, y4, y5]; exact rfl)] | rw [t_blk]))
        simp [keepEnv, lk]
      · rw [ob] at e60b
        obtain ⟨j, W, ws, rfl, hj, ⟨_, hd⟩, hg, hW, hB, hl⟩ := at1 oa
        obtain ⟨j', W', ws', rfl, hj', ⟨_, hd'⟩, hg', hW', hB', hl'⟩ := at1 ob
        have e19 := fun G => run19 hW hW' hB hB' (by omega) (h ++ G)
        refine fin _ (andW ws ws') (.inl rfl) (andW_WB hB) (by simp [andW]; omega) (by rw [← hg, ← hg']; simp [oa, ob]) ?_
        intro D' h2 o g m hrow ha h7
        subst hrow
        clear fin at1
        generalize andW ws ws' = us at *
        generalize H.length + 1 = p7 at *
        unfold lp34_0
        (repeat (first | rw [s_assoc] | rw [s_seq_reg (by simp [evOps, evOp_n, evOp_r, evOp_d, evOp_dr, kpo_refl, kpo_app, cnd_some, cnd_pair, cnd_cnd_t, cnd_cnd_f, cnd_same, cnd_dvb, cnd_and, cnd_or, ↓evx_pick, gd_bool, gd_boolf, gd_tup, cnd_t, cnd_f, evTo, isCall, evx, put, lk, Od.v, keepEnv, enterEnv, ldx_ref, rdc, binx, binI, binS, unx, eqk, DV.isU, DV.cells, hget, hget0, hset, hset0, stx_ref, splice, DV.one, fillp, mat, eqcs, eqs, hi, hlen, w1, hv, hpl, ldx_ref, ldx, e60a, e60b, e19, hd, hj, hd', hj', g7, gv, ha, h7, z2, z3, z4, z5]; exact ⟨rfl, rfl⟩)] | rw [s_cnd (by simp [lk, keepEnv, Od.v, hi, hlen, w1, hv, hpl, ldx_ref, ldx, e60a, e60b, e19, hd, hj, hd', hj', g7, gv, ha, h7, z2, z3, z4, z5]; exact rfl)] | rw [cnd_t] | rw [cnd_f] | rw [s_skip] | rw [s_ret] | rw [s_exit] | rw [C_ret] | rw [C_exit] | rw [C_skip] | rw [blk_ret] | rw [blk_norm] | rw [blk_exit] | rw [blk_exit' (by decide)] | rw [blkT_ret] | rw [blkT_norm] | rw [blkT_exit] | rw [blkT_exit' (by decide)] | rw [s_blk] | rw [s_reg (by simp [evOps, evOp_n, evOp_r, evOp_d, evOp_dr, kpo_refl, kpo_app, cnd_some, cnd_pair, cnd_cnd_t, cnd_cnd_f, cnd_same, cnd_dvb, cnd_and, cnd_or, ↓evx_pick, gd_bool, gd_boolf, gd_tup, cnd_t, cnd_f, evTo, isCall, evx, put, lk, Od.v, keepEnv, enterEnv, ldx_ref, rdc, binx, binI, binS, unx, eqk, DV.isU, DV.cells, hget, hget0, hset, hset0, stx_ref, splice, DV.one, fillp, mat, eqcs, eqs, hi, hlen, w1, hv, hpl, ldx_ref, ldx, e60a, e60b, e19, hd, hj, hd', hj', g7, gv, ha, h7, z2, z3, z4, z5]; exact ⟨rfl, rfl⟩)] | rw [t_cnd (by simp [lk, keepEnv, Od.v, hi, hlen, w1, hv, hpl, ldx_ref, ldx, e60a, e60b, e19, hd, hj, hd', hj', g7, gv, ha, h7, z2, z3, z4, z5]; exact rfl)] | rw [t_blk]))
        simp [keepEnv, lk]
  by_cases c9 : ask = 9
  · subst c9
    rcases bft (okA xa dn.length) with oa | oa
    · rw [oa] at e60a
      refine fin .nils [] (.inr ⟨rfl, rfl⟩) (by intro y hy; cases hy) (by simp) (by simp [oa]) ?_
      intro D' h2 o g m hrow ha h7
      subst hrow
      clear fin at1
      generalize H.length + 1 = p7 at *
      unfold lp34_0
      (repeat (first | rw [s_assoc] | rw [s_seq_reg (by simp [evOps, evOp_n, evOp_r, evOp_d, evOp_dr, kpo_refl, kpo_app, cnd_some, cnd_pair, cnd_cnd_t, cnd_cnd_f, cnd_same, cnd_dvb, cnd_and, cnd_or, ↓evx_pick, gd_bool, gd_boolf, gd_tup, cnd_t, cnd_f, evTo, isCall, evx, put, lk, Od.v, keepEnv, enterEnv, ldx_ref, rdc, binx, binI, binS, unx, eqk, DV.isU, DV.cells, hget, hget0, hset, hset0, stx_ref, splice, DV.one, fillp, mat, eqcs, eqs, hi, hlen, w1, hv, hpl, ldx_ref, ldx, e60a, g7, gv, ha, h7, z2, y3, y4, y5]; exact ⟨rfl, rfl⟩)] | rw [s_cnd (by simp [lk, keepEnv, Od.v, hi, hlen, w1, hv, hpl, ldx_ref, ldx, e60a, g7, gv, ha, h7, z2, y3, y4, y5]; exact rfl)] | rw [cnd_t] | rw [cnd_f] | rw [s_skip] | rw [s_ret] | rw [s_exit] | rw [C_ret] | rw [C_exit] | rw [C_skip] | rw [blk_ret] | rw [blk_norm] | rw [blk_exit] | rw [blk_exit' (by decide)] | rw [blkT_ret] | rw [blkT_norm] | rw [blkT_exit] | rw [blkT_exit' (by decide)] | rw [s_blk] | rw [s_reg (by simp [evOps, evOp_n, evOp_r, evOp_d, evOp_dr, kpo_refl, kpo_app, cnd_some, cnd_pair, cnd_cnd_t, cnd_cnd_f, cnd_same, cnd_dvb, cnd_and, cnd_or, ↓evx_pick, gd_bool, gd_boolf, gd_tup, cnd_t, cnd_f, evTo, isCall, evx, put, lk, Od.v, keepEnv, enterEnv, ldx_ref, rdc, binx, binI, binS, unx, eqk, DV.isU, DV.cells, hget, hget0, hset, hset0, stx_ref, splice, DV.one, fillp, mat, eqcs, eqs, hi, hlen, w1, hv, hpl, ldx_ref, ldx, e60a, g7, gv, ha, h7, z2, y3, y4, y5]; exact ⟨rfl, rfl⟩)] | rw [t_cnd (by simp [lk, keepEnv, Od.v, hi, hlen, w1, hv, hpl, ldx_ref, ldx, e60a, g7, gv, ha, h7, z2, y3, y4, y5]; exact rfl)] | rw [t_blk]))
      simp [keepEnv, lk]
    · rw [oa] at e60a
      rcases bft (okA xb dn.length) with ob | ob
      · rw [ob] at e60b
        refine fin .nils [] (.inr ⟨rfl, rfl⟩) (by intro y hy; cases hy) (by simp) (by simp [oa, ob]) ?_
        intro D' h2 o g m hrow ha h7
        subst hrow
        clear fin at1
        generalize H.length + 1 = p7 at *
        unfold lp34_0
        (repeat (first | rw [s_assoc] | rw [s_seq_reg (by simp [evOps, evOp_n, evOp_r, evOp_d, evOp_dr, kpo_refl, kpo_app, cnd_some, cnd_pair, cnd_cnd_t, cnd_cnd_f, cnd_same, cnd_dvb, cnd_and, cnd_or, ↓evx_pick, gd_bool, gd_boolf, gd_tup, cnd_t, cnd_f, evTo, isCall, evx, put, lk, Od.v, keepEnv, enterEnv, ldx_ref, rdc, binx, binI, binS, unx, eqk, DV.isU, DV.cells, hget, hget0, hset, hset0, stx_ref, splice, DV.one, fillp, mat, eqcs, eqs, hi, hlen, w1, hv, hpl, ldx_ref, ldx, e60a, e60b, g7, gv, ha, h7, z2, y3, y4, y5]; exact ⟨rfl, rfl⟩)] | rw [s_cnd (by simp [lk, keepEnv, Od.v, hi, hlen, w1, hv, hpl, ldx_ref, ldx, e60a, e60b, g7, gv, ha, h7, z2, y3, y4, y5]; exact rfl)] | rw [cnd_t] | rw [cnd_f] | rw [s_skip] | rw [s_ret] | rw [s_exit] | rw [C_ret] | rw [C_exit] | rw [C_skip] | rw [blk_ret] | rw [blk_norm] | rw [blk_exit] | rw [blk_exit' (by decide)] | rw [blkT_ret] | rw [blkT_norm] | rw [blkT_exit] | rw [blkT_exit' (by decide)] | rw [s_blk] | rw [s_reg (by simp [evOps, evOp_n, evOp_r, evOp_d, evOp_dr, kpo_refl, kpo_app, cnd_some, cnd_pair, cnd_cnd_t, cnd_cnd_f, cnd_same, cnd_dvb, cnd_and, cnd_or, ↓evx_pick, gd_bool, gd_boolf, gd_tup, cnd_t, cnd_f, evTo, isCall, evx, put, lk, Od.v, keepEnv, enterEnv, ldx_ref, rdc, binx, binI, binS, unx, eqk, DV.isU, DV.cells, hget, hget0, hset, hset0, stx_ref, splice, DV.one, fillp, mat, eqcs, eqs, hi, hlen, w1, hv, hpl, ldx_ref, ldx, e60a, e60b, g7, gv, ha, h7, z2, y3, y4, y5]; exact ⟨rfl, rfl⟩)] | rw [t_cnd (by simp [lk, keepEnv, Od.v, hi, hlen, w1, hv, hpl, ldx_ref, ldx, e60a, e60b, g7, gv, ha, h7, z2, y3, y4, y5]; exact rfl)] | rw [t_blk]))
        simp [keepEnv, lk]
      · rw [ob] at e60b
        obtain ⟨j, W, ws, rfl, hj, ⟨_, hd⟩, hg, hW, hB, hl⟩ := at1 oa
        obtain ⟨j', W', ws', rfl, hj', ⟨_, hd'⟩, hg', hW', hB', hl'⟩ := at1 ob
        have e20 := fun G => run20 hW hW' hB hB' (by omega) (by omega) (h ++ G)
        refine fin _ (orW ws ws') (.inl rfl) (orW_WB hB hB') (by simp [orW]; omega) (by rw [← hg, ← hg']; simp [oa, ob]) ?_
        intro D' h2 o g m hrow ha h7
        subst hrow
        clear fin at1
        generalize orW ws ws' = us at *
        generalize H.length + 1 = p7 at *
        unfold lp34_0
        (repeat (first | rw [s_assoc] | rw [s_seq_reg (by simp [evOps, evOp_n, evOp_r, evOp_d, evOp_dr, kpo_refl, kpo_app, cnd_some, cnd_pair, cnd_cnd_t, cnd_cnd_f, cnd_same, cnd_dvb, cnd_and, cnd_or, ↓evx_pick, gd_bool, gd_boolf, gd_tup, cnd_t, cnd_f, evTo, isCall, evx, put, lk, Od.v, keepEnv, enterEnv, ldx_ref, rdc, binx, binI, binS, unx, eqk, DV.isU, DV.cells, hget, hget0, hset, hset0, stx_ref, splice, DV.one, fillp, mat, eqcs, eqs, hi, hlen, w1, hv, hpl, ldx_ref, ldx, e60a, e60b, e20, hd, hj, hd', hj', g7, gv, ha, h7, z2, z3, z4, z5]; exact ⟨rfl, rfl⟩)] | rw [s_cnd (by simp [lk, keepEnv, Od.v, hi, hlen, w1, hv, hpl, ldx_ref, ldx, e60a, e60b, e20, hd, hj, hd', hj', g7, gv, ha, h7, z2, z3, z4, z5]; exact rfl)] | rw [cnd_t] | rw [cnd_f] | rw [s_skip] | rw [s_ret] | rw [s_exit] | rw [C_ret] | rw [C_exit] | rw [C_skip] | rw [blk_ret] | rw [blk_norm] | rw [blk_exit] | rw [blk_exit' (by decide)] | rw [blkT_ret] | rw [blkT_norm] | rw [blkT_exit] | rw [blkT_exit' (by decide)] | rw [s_blk] | rw [s_reg (by simp [evOps, evOp_n, evOp_r, evOp_d, evOp_dr, kpo_refl, kpo_app, cnd_some, cnd_pair, cnd_cnd_t, cnd_cnd_f, cnd_same, cnd_dvb, cnd_and, cnd_or, ↓evx_pick, gd_bool, gd_boolf, gd_tup, cnd_t, cnd_f, evTo, isCall, evx, put, lk, Od.v, keepEnv, enterEnv, ldx_ref, rdc, binx, binI, binS, unx, eqk, DV.isU, DV.cells, hget, hget0, hset, hset0, stx_ref, splice, DV.one, fillp, mat, eqcs, eqs, hi, hlen, w1, hv, hpl, ldx_ref, ldx, e60a, e60b, e20, hd, hj, hd', hj', g7, gv, ha, h7, z2, z3, z4, z5]; exact ⟨rfl, rfl⟩)] | rw [t_cnd (by simp [lk, keepEnv, Od.v, hi, hlen, w1, hv, hpl, ldx_ref, ldx, e60a, e60b, e20, hd, hj, hd', hj', g7, gv, ha, h7, z2, z3, z4, z5]; exact rfl)] | rw [t_blk]))
        simp [keepEnv, lk]
  have c8' : (ask == 8) = false := by simpa using c8
  have c9' : (ask == 9) = false := by simpa using c9
  have c10' : (ask == 10) = false := by simpa using c10
  by_cases d1 : 1 ≤ ask
  · have d2 : ¬ ask ≤ 7 := fun h => c1 ⟨d1, h⟩
    have d3 : ¬ ask < 1 := by omega
    have d4 : 7 < ask := by omega
    refine fin .nils [] (.inr ⟨rfl, rfl⟩) (by intro y hy; cases hy) (by simp) (by simp [c0, c1, c8, c9, c10]) ?_
    intro D' h2 o g m hrow ha h7
    subst hrow
    clear fin at1
    generalize H.length + 1 = p7 at *
    unfold lp34_0
    (repeat (first | rw [s_assoc] | rw [s_seq_reg (by simp [evOps, evOp_n, evOp_r, evOp_d, evOp_dr, kpo_refl, kpo_app, cnd_some, cnd_pair, cnd_cnd_t, cnd_cnd_f, cnd_same, cnd_dvb, cnd_and, cnd_or, ↓evx_pick, gd_bool, gd_boolf, gd_tup, cnd_t, cnd_f, evTo, isCall, evx, put, lk, Od.v, keepEnv, enterEnv, ldx_ref, rdc, binx, binI, binS, unx, eqk, DV.isU, DV.cells, hget, hget0, hset, hset0, stx_ref, splice, DV.one, fillp, mat, eqcs, eqs, hi, hlen, w1, hv, hpl, ldx_ref, ldx, c0, c0', c8, c8', c9, c9', c10, c10', d1, d2, d3, d4, g7, gv, ha, h7, z2, y3, y4, y5]; exact ⟨rfl, rfl⟩)] | rw [s_cnd (by simp [lk, keepEnv, Od.v, hi, hlen, w1, hv, hpl, ldx_ref, ldx, c0, c0', c8, c8', c9, c9', c10, c10', d1, d2, d3, d4, g7, gv, ha, h7, z2, y3, y4, y5]; exact rfl)] | rw [cnd_t] | rw [cnd_f] | rw [s_skip] | rw [s_ret] | rw [s_exit] | rw [C_ret] | rw [C_exit] | rw [C_skip] | rw [blk_ret] | rw [blk_norm] | rw [blk_exit] | rw [blk_exit' (by decide)] | rw [blkT_ret] | rw [blkT_norm] | rw [blkT_exit] | rw [blkT_exit' (by decide)] | rw [s_blk] | rw [s_reg (by simp [evOps, evOp_n, evOp_r, evOp_d, evOp_dr, kpo_refl, kpo_app, cnd_some, cnd_pair, cnd_cnd_t, cnd_cnd_f, cnd_same, cnd_dvb, cnd_and, cnd_or, ↓evx_pick, gd_bool, gd_boolf, gd_tup, cnd_t, cnd_f, evTo, isCall, evx, put, lk, Od.v, keepEnv, enterEnv, ldx_ref, rdc, binx, binI, binS, unx, eqk, DV.isU, DV.cells, hget, hget0, hset, hset0, stx_ref, splice, DV.one, fillp, mat, eqcs, eqs, hi, hlen, w1, hv, hpl, ldx_ref, ldx, c0, c0', c8, c8', c9, c9', c10, c10', d1, d2, d3, d4, g7, gv, ha, h7, z2, y3, y4, y5]; exact ⟨rfl, rfl⟩)] | rw [t_cnd (by simp [lk, keepEnv, Od.v, hi, hlen, w1, hv, hpl, ldx_ref, ldx, c0, c0', c8, c8', c9, c9', c10, c10', d1, d2, d3, d4, g7, gv, ha, h7, z2, y3, y4, y5]; exact rfl)] | rw [t_blk]))
    simp [keepEnv, lk]
  · have d3 : ask < 1 := by omega
    refine fin .nils [] (.inr ⟨rfl, rfl⟩) (by intro y hy; cases hy) (by simp) (by simp [c0, c1, c8, c9, c10]) ?_
    intro D' h2 o g m hrow ha h7
    subst hrow
    clear fin at1
    generalize H.length + 1 = p7 at *
    unfold lp34_0
    (repeat (first | rw [s_assoc] | rw [s_seq_reg (by simp [evOps, evOp_n, evOp_r, evOp_d, evOp_dr, kpo_refl, kpo_app, cnd_some, cnd_pair, cnd_cnd_t, cnd_cnd_f, cnd_same, cnd_dvb, cnd_and, cnd_or, ↓evx_pick, gd_bool, gd_boolf, gd_tup, cnd_t, cnd_f, evTo, isCall, evx, put, lk, Od.v, keepEnv, enterEnv, ldx_ref, rdc, binx, binI, binS, unx, eqk, DV.isU, DV.cells, hget, hget0, hset, hset0, stx_ref, splice, DV.one, fillp, mat, eqcs, eqs, hi, hlen, w1, hv, hpl, ldx_ref, ldx, c0, c0', c8, c8', c9, c9', c10, c10', d1, d3, g7, gv, ha, h7, z2, y3, y4, y5]; exact ⟨rfl, rfl⟩)] | rw [s_cnd (by simp [lk, keepEnv, Od.v, hi, hlen, w1, hv, hpl, ldx_ref, ldx, c0, c0', c8, c8', c9, c9', c10, c10', d1, d3, g7, gv, ha, h7, z2, y3, y4, y5]; exact rfl)] | rw [cnd_t] | rw [cnd_f] | rw [s_skip] | rw [s_ret] | rw [s_exit] | rw [C_ret] | rw [C_exit] | rw [C_skip] | rw [blk_ret] | rw [blk_norm] | rw [blk_exit] | rw [blk_exit' (by decide)] | rw [blkT_ret] | rw [blkT_norm] | rw [blkT_exit] | rw [blkT_exit' (by decide)] | rw [s_blk] | rw [s_reg (by simp [evOps, evOp_n, evOp_r, evOp_d, evOp_dr, kpo_refl, kpo_app, cnd_some, cnd_pair, cnd_cnd_t, cnd_cnd_f, cnd_same, cnd_dvb, cnd_and, cnd_or, ↓evx_pick, gd_bool, gd_boolf, gd_tup, cnd_t, cnd_f, evTo, isCall, evx, put, lk, Od.v, keepEnv, enterEnv, ldx_ref, rdc, binx, binI, binS, unx, eqk, DV.isU, DV.cells, hget, hget0, hset, hset0, stx_ref, splice, DV.one, fillp, mat, eqcs, eqs, hi, hlen, w1, hv, hpl, ldx_ref, ldx, c0, c0', c8, c8', c9, c9', c10, c10', d1, d3, g7, gv, ha, h7, z2, y3, y4, y5]; exact ⟨rfl, rfl⟩)] | rw [t_cnd (by simp [lk, keepEnv, Od.v, hi, hlen, w1, hv, hpl, ldx_ref, ldx, c0, c0', c8, c8', c9, c9', c10, c10', d1, d3, g7, gv, ha, h7, z2, y3, y4, y5]; exact rfl)] | rw [t_blk]))
    simp [keepEnv, lk]
end Go.Proofs.YtfgnefnpfgdliaaDoor
