/- Ideal runs: what is sorted. -/
import Derived.Test.YtmlfhjpajbmajaaPlainH
namespace Go.Proofs.Ytmlfhjpajbmajaa
set_option linter.unusedVariables false
set_option linter.unusedSimpArgs false
set_option maxRecDepth 10000
/-- The sort of a row of n values, as the ideal machine does it. -/
def Sorts (n : Nat) : Prop := ∀ (H : Heap) (r g : Nat) (d : Array V), r < H.length → d.size = n → E X 36 [rw_ r g n, .int .i64 0, .int .i64 n, .int .i64 (Go.Sort.bitsLen n : Nat), .func 32 [] []] (hp H r g d) = some (.tup [], hp H r g (Go.Sort.sort lt d))
theorem sorts_small (n : Nat) (hn : n ≤ 12) : Sorts n := by
  intro H r g d hr hd
  have h := run36_small (H := H) (r := r) (g := g) (n := n) (a := 0) (b := n) (Go.Sort.bitsLen n : Nat) hr (by omega) (by omega) (by omega) (by omega) d hd
  rw [show Go.Sort.sort lt d = Go.Sort.insertionSort lt d 0 n by rw [Go.Sort.sort, Go.Sort.pdq, hd, if_pos (by omega)]]
  exact h
theorem run31 {n : Nat} (hs : Sorts n) (hn : n < 256) {H : Heap} {r g : Nat} (hr : r < H.length) (d : Array V) (hd : d.size = n) :
    E X 31 [rw_ r g n, .func 32 [] []] (hp H r g d) = some (.tup [], hp H r g (Go.Sort.sort lt d)) := by
  have e := hs H r g d hr hd
  have e2 := run37 n hn
  have r0 := hp_vw (H := H) g d hr
  rw [hd] at r0
  have w : IntKind.u64.wrap (n : Int) = n := by simp [IntKind.wrap, IntKind.bits, IntKind.signed]; omega
  rw [E_go (X := X) _ b31 _ rfl rfl]; unfold b31
  (repeat (first | rw [s_assoc] | rw [s_seq_reg (by simp [evOps, evOp_n, evOp_r, evOp_d, evOp_dr, kpo_refl, kpo_app, cnd_some, cnd_pair, cnd_cnd_t, cnd_cnd_f, cnd_same, cnd_dvb, cnd_and, cnd_or, ↓evx_pick, gd_bool, gd_boolf, gd_tup, cnd_t, cnd_f, evTo, isCall, evx, put, lk, Od.v, keepEnv, enterEnv, ldx_ref, rdc, binx, binI, binS, unx, eqk, DV.isU, DV.cells, hget, hget0, hset, hset0, stx_ref, splice, DV.one, fillp, mat, eqcs, eqs, e, e2, r0, hd, w]; exact ⟨rfl, rfl⟩)] | rw [s_cnd (by simp [lk, keepEnv, Od.v, e, e2, r0, hd, w]; exact rfl)] | rw [cnd_t] | rw [cnd_f] | rw [s_skip] | rw [s_ret] | rw [s_exit] | rw [C_ret] | rw [C_exit] | rw [C_skip] | rw [blk_ret] | rw [blk_norm] | rw [blk_exit] | rw [blk_exit' (by decide)] | rw [blkT_ret] | rw [blkT_norm] | rw [blkT_exit] | rw [blkT_exit' (by decide)] | rw [s_blk] | rw [s_reg (by simp [evOps, evOp_n, evOp_r, evOp_d, evOp_dr, kpo_refl, kpo_app, cnd_some, cnd_pair, cnd_cnd_t, cnd_cnd_f, cnd_same, cnd_dvb, cnd_and, cnd_or, ↓evx_pick, gd_bool, gd_boolf, gd_tup, cnd_t, cnd_f, evTo, isCall, evx, put, lk, Od.v, keepEnv, enterEnv, ldx_ref, rdc, binx, binI, binS, unx, eqk, DV.isU, DV.cells, hget, hget0, hset, hset0, stx_ref, splice, DV.one, fillp, mat, eqcs, eqs, e, e2, r0, hd, w]; exact ⟨rfl, rfl⟩)] | rw [t_cnd (by simp [lk, keepEnv, Od.v, e, e2, r0, hd, w]; exact rfl)] | rw [t_blk]))
  simp [ends_norm, resL, fin_hp]
def lp18_0 : XC := .seq (.reg [⟨some 26, .bin .lss (.t 25) (.t 24), none, false⟩] [4, 5, 23, 24, 25, 26]) (.seq (.cond (.t 26) .skip (.exit 0)) (.seq (.block 1 (.seq (.reg [⟨some 27, .iaddr 4 (.t 23) (.t 25), none, false⟩, ⟨some 28, .load true 4 (.t 27), none, false⟩, ⟨some 7, .alloc 24 [.int .i64 0, .int .i64 0, .str ⟨#[]⟩, .bool false], none, false⟩, ⟨none, .store 4 (.t 7) (.t 28), none, false⟩] [4, 5, 7, 23, 24, 25]) (.seq (.reg [⟨some 30, .mov (.t 4), none, false⟩, ⟨some 31, .load true 4 (.t 7), none, false⟩, ⟨some 32, .call (.c (.func 33 [] [])) [.t 30, .t 31], none, false⟩, ⟨some 29, .mov (.t 32), none, false⟩, ⟨some 33, .ext (.t 29) 0, none, false⟩, ⟨some 34, .ext (.t 29) 1, none, false⟩, ⟨some 8, .mov (.t 33), none, false⟩, ⟨some 9, .mov (.t 34), none, false⟩] [4, 5, 8, 23, 24, 25]) (.reg [⟨some 35, .mov (.t 5), none, false⟩, ⟨some 36, .mov (.t 8), none, false⟩, ⟨some 37, .mkslice true 3 1 [.t 36], none, false⟩, ⟨some 38, .app 3 1 8 (.t 35) (.t 37), none, false⟩, ⟨some 5, .mov (.t 38), none, false⟩] [4, 5, 23, 24, 25])))) (.reg [⟨some 39, .bin .add (.t 25) (.c (.int .i64 1)), none, false⟩, ⟨some 25, .mov (.t 39), none, false⟩] [4, 5, 23, 24, 25])))
def toS (ys vs : List V) : List DV := vs.map fun v => .int .i64 (place ys v : Nat)
theorem loop18 {H2 : Heap} {L RY : DV} {vs ys : List V} (hL : ∀ l, vw (H2 ++ l) 4 L = some (vs.map V.d)) (hY : ∀ l, vw (H2 ++ l) 4 RY = some (ys.map V.d)) (hb : vs.length ≤ 1000000) (hby : ys.length ≤ 1000000) :
    ∀ (k i : Nat) (T : DV) (l : Heap), vs.length - i ≤ k → i ≤ vs.length → GrowAt H2.length 3 1 (H2 ++ l) T (toS ys (vs.take i)) →
      ∃ e' T' l', C X (.loop lp18_0) [(4, RY), (5, T), (23, L), (24, .int .i64 vs.length), (25, .int .i64 i)] (H2 ++ l) = some (.exit 0, e', H2 ++ l') ∧ lk e' 4 = RY ∧ lk e' 5 = T' ∧ GrowAt H2.length 3 1 (H2 ++ l') T' (toS ys vs) := by
  intro k
  induction k with
  | zero =>
    intro i T l hk hi hg
    have w0 : ¬ (i < vs.length) := by omega
    obtain rfl : i = vs.length := by omega
    rw [List.take_length] at hg
    rw [t_loop]
    unfold lp18_0
    (repeat (first | rw [s_assoc] | rw [s_seq_reg (by simp [evOps, evOp_n, evOp_r, evOp_d, evOp_dr, kpo_refl, kpo_app, cnd_some, cnd_pair, cnd_cnd_t, cnd_cnd_f, cnd_same, cnd_dvb, cnd_and, cnd_or, ↓evx_pick, gd_bool, gd_boolf, gd_tup, cnd_t, cnd_f, evTo, isCall, evx, put, lk, Od.v, keepEnv, enterEnv, ldx_ref, rdc, binx, binI, binS, unx, eqk, DV.isU, DV.cells, hget, hget0, hset, hset0, stx_ref, splice, DV.one, fillp, mat, eqcs, eqs, w0]; exact ⟨rfl, rfl⟩)] | rw [s_cnd (by simp [lk, keepEnv, Od.v, w0]; exact rfl)] | rw [cnd_t] | rw [cnd_f] | rw [s_skip] | rw [s_ret] | rw [s_exit] | rw [C_ret] | rw [C_exit] | rw [C_skip] | rw [blk_ret] | rw [blk_norm] | rw [blk_exit] | rw [blk_exit' (by decide)] | rw [blkT_ret] | rw [blkT_norm] | rw [blkT_exit] | rw [blkT_exit' (by decide)] | rw [s_blk] | rw [s_reg (by simp [evOps, evOp_n, evOp_r, evOp_d, evOp_dr, kpo_refl, kpo_app, cnd_some, cnd_pair, cnd_cnd_t, cnd_cnd_f, cnd_same, cnd_dvb, cnd_and, cnd_or, ↓evx_pick, gd_bool, gd_boolf, gd_tup, cnd_t, cnd_f, evTo, isCall, evx, put, lk, Od.v, keepEnv, enterEnv, ldx_ref, rdc, binx, binI, binS, unx, eqk, DV.isU, DV.cells, hget, hget0, hset, hset0, stx_ref, splice, DV.one, fillp, mat, eqcs, eqs, w0]; exact ⟨rfl, rfl⟩)] | rw [t_cnd (by simp [lk, keepEnv, Od.v, w0]; exact rfl)] | rw [t_blk]))
    rw [lp_exit]
    exact ⟨_, _, _, rfl, by simp [keepEnv, lk], by simp [keepEnv, lk], hg⟩
  | succ k ih =>
    intro i T l hk hi hg
    by_cases w0 : i < vs.length
    · obtain ⟨I, hI⟩ : ∃ I, I = i + 1 := ⟨_, rfl⟩
      have w1 : IntKind.i64.wrap ((i : Int) + 1) = (I : Int) := by rw [wrap64 _ (by omega) (by omega)]; omega
      obtain ⟨v, hv⟩ : ∃ v, v = vs[i] := ⟨_, rfl⟩
      have hvi : vs[i]? = some v := by rw [hv]; exact List.getElem?_eq_getElem w0
      have e1 : ∀ q, E X 33 [RY, v.d] (H2 ++ q) = some (.tup [.int .i64 (place ys v : Nat), .bool (found ys v)], H2 ++ q) := fun q => run33 v (fun l => by rw [List.append_assoc]; exact hY _) hby
      have hg2 := hg.ext [HO.box 24 [.int .i64 v.k, .int .i64 v.n, .str v.s, .bool v.t]]
      obtain ⟨T', h', a1, a2, a3, a4⟩ := hg2.app (by' := 8) (ys := [.int .i64 (place ys v : Nat)]) (by simp) (by simp) (by simp [toS]; omega)
      obtain ⟨l', rfl⟩ : ∃ l', h' = H2 ++ l' := ⟨h'.drop H2.length, by
        have := List.take_append_drop H2.length h'
        rw [a3] at this
        rw [List.append_assoc, List.take_left] at this
        exact this.symm⟩
      have a5 := hg2.vw
      have a2' : GrowAt H2.length 3 1 (H2 ++ l') T' (toS ys (vs.take I)) := by
        rw [hI, List.take_add_one, hvi]; simpa [toS] using a2
      obtain ⟨e', T2, l2, c1, c2⟩ := ih I T' l' (by omega) (by omega) a2'
      have q1 : ∀ q : Heap, eltL [DV.int .i64 (place ys v : Nat)] q = some ([.int .i64 (place ys v : Nat)], q) := fun q => rfl
      have q2 : Wc 1 (DV.int .i64 (place ys v : Nat)) := by simp [Wc, DV.cells, DV.one]
      have q3 : Nr (DV.int .i64 (place ys v : Nat)) := .int _ _
      have q4 : ∀ q, vw q 1 (.list 1 [DV.int .i64 (place ys v : Nat)] true) = some [.int .i64 (place ys v : Nat)] := fun q => rfl
      rw [List.append_assoc] at a1 a5
      have hs : C X lp18_0 [(4, RY), (5, T), (23, L), (24, .int .i64 vs.length), (25, .int .i64 i)] (H2 ++ l) = some (.norm, [(4, RY), (5, T'), (23, L), (24, .int .i64 vs.length), (25, .int .i64 I)], H2 ++ l') := by
        unfold lp18_0
        (repeat (first | rw [s_assoc] | rw [s_seq_reg (by simp [evOps, evOp_n, evOp_r, evOp_d, evOp_dr, kpo_refl, kpo_app, cnd_some, cnd_pair, cnd_cnd_t, cnd_cnd_f, cnd_same, cnd_dvb, cnd_and, cnd_or, ↓evx_pick, gd_bool, gd_boolf, gd_tup, cnd_t, cnd_f, evTo, isCall, evx, put, lk, Od.v, keepEnv, enterEnv, ldx_ref, rdc, binx, binI, binS, unx, eqk, DV.isU, DV.cells, hget, hget0, hset, hset0, stx_ref, splice, DV.one, fillp, mat, eqcs, eqs, w0, w1, hL, hvi, ldx, e1, q1, q2, q3, q4, a1, a5, srcOf, ← hv]; exact ⟨rfl, rfl⟩)] | rw [s_cnd (by simp [lk, keepEnv, Od.v, w0, w1, hL, hvi, ldx, e1, q1, q2, q3, q4, a1, a5, srcOf, ← hv]; exact rfl)] | rw [cnd_t] | rw [cnd_f] | rw [s_skip] | rw [s_ret] | rw [s_exit] | rw [C_ret] | rw [C_exit] | rw [C_skip] | rw [blk_ret] | rw [blk_norm] | rw [blk_exit] | rw [blk_exit' (by decide)] | rw [blkT_ret] | rw [blkT_norm] | rw [blkT_exit] | rw [blkT_exit' (by decide)] | rw [s_blk] | rw [s_reg (by simp [evOps, evOp_n, evOp_r, evOp_d, evOp_dr, kpo_refl, kpo_app, cnd_some, cnd_pair, cnd_cnd_t, cnd_cnd_f, cnd_same, cnd_dvb, cnd_and, cnd_or, ↓evx_pick, gd_bool, gd_boolf, gd_tup, cnd_t, cnd_f, evTo, isCall, evx, put, lk, Od.v, keepEnv, enterEnv, ldx_ref, rdc, binx, binI, binS, unx, eqk, DV.isU, DV.cells, hget, hget0, hset, hset0, stx_ref, splice, DV.one, fillp, mat, eqcs, eqs, w0, w1, hL, hvi, ldx, e1, q1, q2, q3, q4, a1, a5, srcOf, ← hv]; exact ⟨rfl, rfl⟩)] | rw [t_cnd (by simp [lk, keepEnv, Od.v, w0, w1, hL, hvi, ldx, e1, q1, q2, q3, q4, a1, a5, srcOf, ← hv]; exact rfl)] | rw [t_blk]))
        simp [keepEnv, lk]
      exact ⟨e', T2, l2, by rw [t_loop, hs, lp_norm]; exact c1, c2⟩
    · exact ih i T l (by omega) hi hg
theorem toL_hp {H : Heap} {g : Nat} (d : Array V) (x : HO) (he : x = .row 24 4 g (d.toList.map V.d)) : H ++ [x] = hp (H ++ [x]) H.length g d := by
  subst he
  simp [hp, hset0]
theorem fin_sorted {H l : Heap} {ys : List V} {n : Nat} (hn : n = ys.length) {T : DV} {ts : List DV} (hT : GrowAt (H.length + 1) 3 1 (H ++ [HO.row 24 4 0 (ys.map V.d)] ++ l) T ts) (ht : ts ≠ []) (hN : ∀ x ∈ ts, Nr x) :
    fin H (H ++ [HO.row 24 4 0 (ys.map V.d)] ++ l) [.row H.length 0 0 n false, T] = (.tup [.list 4 (ys.map V.d) false, .list 1 ts false], H) := by
  rcases hT with ⟨h1, _⟩ | ⟨r, g, rfl, h2, h3⟩
  · exact absurd h1 ht
  have h4 : (H ++ [HO.row 24 4 0 (ys.map V.d)] ++ l)[H.length]? = some (HO.row 24 4 0 (ys.map V.d)) := by simp
  have h5 : ∀ x, ((H ++ [HO.row 24 4 0 (ys.map V.d)] ++ l).set H.length x)[r]? = some (.row 3 1 g ts) := fun x => by
    rw [List.getElem?_set_ne (by omega)]; exact h3
  have h6 : (H ++ [HO.row 24 4 0 (ys.map V.d)] ++ l).take H.length = H := by rw [List.append_assoc, List.take_left]
  have q0 := all_Nr ys
  rw [fin]
  · rw [if_pos h6]
    have f1 : fz1 H.length (H ++ [HO.row 24 4 0 (ys.map V.d)] ++ l) false (.row H.length 0 0 n false) = some (.list 4 (ys.map V.d) false, (H ++ [HO.row 24 4 0 (ys.map V.d)] ++ l).set H.length (.frz 24 4 0 (ys.map V.d))) := by
      rw [fz1]
      · rw [fz0, if_neg (by omega), h4]
        simp only
        rw [if_pos ⟨rfl, by simp [hn], q0⟩, if_neg (by simp), hn]
        simp [List.take_of_length_le]
      · intro cs h; cases h
    have f2 : fz1 H.length ((H ++ [HO.row 24 4 0 (ys.map V.d)] ++ l).set H.length (.frz 24 4 0 (ys.map V.d))) false (.row r g 0 ts.length false) = some (.list 1 ts false, ((H ++ [HO.row 24 4 0 (ys.map V.d)] ++ l).set H.length (.frz 24 4 0 (ys.map V.d))).set r (.frz 3 1 g ts)) := by
      rw [fz1]
      · rw [fz0, if_neg (by omega), h5]
        simp only
        rw [if_pos ⟨rfl, by simp, hN⟩, if_neg (by simp)]
        simp
      · intro cs h; cases h
    simp only [fzT, f1, f2]
  · intro d h; cases h
theorem run18 {H : Heap} {o m : Nat} {L : DV} {lim : Int} {vs : List V} (hd : DictAt H o m L lim vs) (hv : vs ≠ []) (hs : Sorts vs.length) (hn : vs.length < 256) {ys : List V} (hys : Go.Sort.sort lt vs.toArray = ys.toArray) (hyl : ys.length = vs.length) :
    E X 18 [.ref o 0] H = some (.tup [.list 4 (ys.map V.d) false, .list 1 (toS ys vs) false], H) := by
  have e1 := run14 hd
  have e2 := hd.box
  have e2' := hle hd.box
  have e3 := hd.len
  have e3' := hd.len0
  have hpos : vs.length ≠ 0 := by simpa using hv
  have hb0 : ((vs.length : Int) == 0) = false := by simpa using hv
  obtain ⟨r, g, rfl, hrow⟩ : ∃ r g, L = .row r g 0 vs.length false ∧ H[r]? = some (.row 24 4 g (vs.map V.d)) := by
    rcases hd.row with ⟨h, _⟩ | h
    · exact absurd h hv
    · exact h
  have e4 := run30 hv e3' (by omega)
  have e5 : E X 31 [.row H.length 0 0 vs.length false, .func 32 [] []] (H ++ [HO.row 24 4 0 (vs.map V.d)]) = some (.tup [], H ++ [HO.row 24 4 0 (ys.map V.d)]) := by
    have h := run31 hs hn (H := H ++ [HO.row 24 4 0 (vs.map V.d)]) (r := H.length) (g := 0) (by simp) vs.toArray (by simp)
    rw [← toL_hp (g := 0) vs.toArray _ (by simp), hys] at h
    rw [h]
    simp [hp, hset0]
  have hL : ∀ l, vw ((H ++ [HO.row 24 4 0 (ys.map V.d)]) ++ l) 4 (.row r g 0 vs.length false) = some (vs.map V.d) := fun l => by rw [List.append_assoc]; exact e3 _
  have hY : ∀ l, vw ((H ++ [HO.row 24 4 0 (ys.map V.d)]) ++ l) 4 (.row H.length 0 0 vs.length false) = some (ys.map V.d) := fun l => by
    simp [vw, ← hyl, List.take_of_length_le]
  obtain ⟨e', T', l', c1, c2, c3, c4⟩ := loop18 hL hY (by omega) (by omega) vs.length 0 .nils [] (by omega) (by omega) (.inl ⟨by simp [toS], rfl⟩)
  have c5 := fin_sorted hyl.symm (by simpa using c4) (by simpa [toS] using hv) (by intro x hx; obtain ⟨v, _, rfl⟩ := List.mem_map.1 hx; exact .int _ _)
  have hL0 := hL []
  rw [List.append_nil] at c1 hL0
  rw [show ((0 : Nat) : Int) = 0 from rfl] at c1
  unfold lp18_0 at c1
  rw [E_go (X := X) _ b18 _ rfl rfl]; unfold b18
  (repeat (first | rw [s_assoc] | rw [s_seq_reg (by simp [evOps, evOp_n, evOp_r, evOp_d, evOp_dr, kpo_refl, kpo_app, cnd_some, cnd_pair, cnd_cnd_t, cnd_cnd_f, cnd_same, cnd_dvb, cnd_and, cnd_or, ↓evx_pick, gd_bool, gd_boolf, gd_tup, cnd_t, cnd_f, evTo, isCall, evx, put, lk, Od.v, keepEnv, enterEnv, ldx_ref, rdc, binx, binI, binS, unx, eqk, DV.isU, DV.cells, hget, hget0, hset, hset0, stx_ref, splice, DV.one, fillp, mat, eqcs, eqs, e1, e2, e2', e3', hb0, e4, e5, hL0]; exact ⟨rfl, rfl⟩)] | rw [s_cnd (by simp [lk, keepEnv, Od.v, e1, e2, e2', e3', hb0, e4, e5, hL0]; exact rfl)] | rw [cnd_t] | rw [cnd_f] | rw [s_skip] | rw [s_ret] | rw [s_exit] | rw [C_ret] | rw [C_exit] | rw [C_skip] | rw [blk_ret] | rw [blk_norm] | rw [blk_exit] | rw [blk_exit' (by decide)] | rw [blkT_ret] | rw [blkT_norm] | rw [blkT_exit] | rw [blkT_exit' (by decide)] | rw [s_blk] | rw [s_reg (by simp [evOps, evOp_n, evOp_r, evOp_d, evOp_dr, kpo_refl, kpo_app, cnd_some, cnd_pair, cnd_cnd_t, cnd_cnd_f, cnd_same, cnd_dvb, cnd_and, cnd_or, ↓evx_pick, gd_bool, gd_boolf, gd_tup, cnd_t, cnd_f, evTo, isCall, evx, put, lk, Od.v, keepEnv, enterEnv, ldx_ref, rdc, binx, binI, binS, unx, eqk, DV.isU, DV.cells, hget, hget0, hset, hset0, stx_ref, splice, DV.one, fillp, mat, eqcs, eqs, e1, e2, e2', e3', hb0, e4, e5, hL0]; exact ⟨rfl, rfl⟩)] | rw [t_cnd (by simp [lk, keepEnv, Od.v, e1, e2, e2', e3', hb0, e4, e5, hL0]; exact rfl)] | rw [t_blk]))
  (try simp only [keepEnv, List.map_cons, List.map_nil, lk, reduceIte, Nat.reduceEqDiff, Nat.zero_ne_one, Nat.one_ne_zero])
  rw [c1]
  (repeat (first | rw [s_assoc] | rw [s_seq_reg (by simp [evOps, evOp_n, evOp_r, evOp_d, evOp_dr, kpo_refl, kpo_app, cnd_some, cnd_pair, cnd_cnd_t, cnd_cnd_f, cnd_same, cnd_dvb, cnd_and, cnd_or, ↓evx_pick, gd_bool, gd_boolf, gd_tup, cnd_t, cnd_f, evTo, isCall, evx, put, lk, Od.v, keepEnv, enterEnv, ldx_ref, rdc, binx, binI, binS, unx, eqk, DV.isU, DV.cells, hget, hget0, hset, hset0, stx_ref, splice, DV.one, fillp, mat, eqcs, eqs, c2, c3]; exact ⟨rfl, rfl⟩)] | rw [s_cnd (by simp [lk, keepEnv, Od.v, c2, c3]; exact rfl)] | rw [cnd_t] | rw [cnd_f] | rw [s_skip] | rw [s_ret] | rw [s_exit] | rw [C_ret] | rw [C_exit] | rw [C_skip] | rw [blk_ret] | rw [blk_norm] | rw [blk_exit] | rw [blk_exit' (by decide)] | rw [blkT_ret] | rw [blkT_norm] | rw [blkT_exit] | rw [blkT_exit' (by decide)] | rw [s_blk] | rw [s_reg (by simp [evOps, evOp_n, evOp_r, evOp_d, evOp_dr, kpo_refl, kpo_app, cnd_some, cnd_pair, cnd_cnd_t, cnd_cnd_f, cnd_same, cnd_dvb, cnd_and, cnd_or, ↓evx_pick, gd_bool, gd_boolf, gd_tup, cnd_t, cnd_f, evTo, isCall, evx, put, lk, Od.v, keepEnv, enterEnv, ldx_ref, rdc, binx, binI, binS, unx, eqk, DV.isU, DV.cells, hget, hget0, hset, hset0, stx_ref, splice, DV.one, fillp, mat, eqcs, eqs, c2, c3]; exact ⟨rfl, rfl⟩)] | rw [t_cnd (by simp [lk, keepEnv, Od.v, c2, c3]; exact rfl)] | rw [t_blk]))

  simp only [ends_ret, resL, keepEnv, List.map_cons, List.map_nil, lk, reduceIte, Nat.reduceEqDiff, Option.map_some]
  simp only [List.append_assoc, List.cons_append, List.nil_append] at c5
  rw [c5]
end Go.Proofs.Ytmlfhjpajbmajaa
