/- Ideal runs: DictKeeps. Ideal runs: DictKeeps, whole. -/
import Derived.Test.YtmlfhjpajbmajaaPlainS
import Derived.Test.YtmlfhjpajbmajaaPlainQ
namespace Go.Proofs.Ytmlfhjpajbmajaa
set_option linter.unusedVariables false
set_option linter.unusedSimpArgs false
set_option maxRecDepth 10000
def lp8_0 : XC := .seq (.seq (.reg [⟨some 33, .mov (.t 9), none, false⟩, ⟨some 34, .mov (.t 1), none, false⟩, ⟨some 35, .len 4 (.t 34), none, false⟩, ⟨some 36, .bin .lss (.t 33) (.t 35), none, false⟩] [1, 7, 8, 9, 36]) (.cond (.t 36) .skip (.exit 0))) (.seq (.block 1 (.seq (.reg [⟨some 40, .mov (.t 7), none, false⟩, ⟨some 41, .mov (.t 1), none, false⟩, ⟨some 42, .mov (.t 9), none, false⟩, ⟨some 43, .iaddr 4 (.t 41) (.t 42), none, false⟩, ⟨some 44, .load true 4 (.t 43), none, false⟩, ⟨some 45, .call (.c (.func 12 [] [])) [.t 40, .t 44], none, false⟩, ⟨some 39, .mov (.t 45), none, false⟩, ⟨some 46, .ext (.t 39) 0, none, false⟩, ⟨some 47, .ext (.t 39) 1, none, false⟩, ⟨some 10, .mov (.t 46), none, false⟩, ⟨some 11, .mov (.t 47), none, false⟩] [1, 7, 8, 9, 10, 11]) (.seq (.seq (.reg [⟨some 48, .mov (.t 11), none, false⟩, ⟨some 49, .bin .neq (.t 48) (.c (.int .i64 0)), none, false⟩] [1, 7, 8, 9, 10, 49]) (.cond (.t 49) (.reg [⟨some 10, .mov (.c (.int .i64 (-1))), none, false⟩] [1, 7, 8, 9, 10]) .skip)) (.reg [⟨some 50, .mov (.t 8), none, false⟩, ⟨some 51, .mov (.t 10), none, false⟩, ⟨some 52, .mkslice true 3 1 [.t 51], none, false⟩, ⟨some 53, .app 3 1 8 (.t 50) (.t 52), none, false⟩, ⟨some 8, .mov (.t 53), none, false⟩] [1, 7, 8, 9])))) (.reg [⟨some 37, .mov (.t 9), none, false⟩, ⟨some 38, .bin .add (.t 37) (.c (.int .i64 1)), none, false⟩, ⟨some 9, .mov (.t 38), none, false⟩] [1, 7, 8, 9]))
def lp8_1 : XC := .seq (.seq (.reg [⟨some 76, .mov (.t 14), none, false⟩, ⟨some 77, .mov (.t 1), none, false⟩, ⟨some 78, .len 4 (.t 77), none, false⟩, ⟨some 79, .bin .lss (.t 76) (.t 78), none, false⟩] [1, 7, 8, 12, 13, 14, 79]) (.cond (.t 79) .skip (.exit 2))) (.seq (.block 3 (.seq (.seq (.reg [⟨some 82, .mov (.t 8), none, false⟩, ⟨some 83, .mov (.t 14), none, false⟩, ⟨some 84, .iaddr 1 (.t 82) (.t 83), none, false⟩, ⟨some 85, .load false 1 (.t 84), none, false⟩, ⟨some 86, .bin .lss (.t 85) (.c (.int .i64 0)), none, false⟩] [1, 7, 8, 12, 13, 14, 86]) (.cond (.t 86) (.exit 3) .skip)) (.seq (.reg [⟨some 88, .mov (.t 7), none, false⟩, ⟨some 89, .mov (.t 1), none, false⟩, ⟨some 90, .mov (.t 14), none, false⟩, ⟨some 91, .iaddr 4 (.t 89) (.t 90), none, false⟩, ⟨some 92, .load true 4 (.t 91), none, false⟩, ⟨some 93, .call (.c (.func 15 [] [])) [.t 88, .t 92], none, false⟩, ⟨some 87, .mov (.t 93), none, false⟩, ⟨some 94, .ext (.t 87) 0, none, false⟩, ⟨some 95, .ext (.t 87) 1, none, false⟩, ⟨some 15, .mov (.t 94), none, false⟩, ⟨some 16, .mov (.t 95), none, false⟩] [1, 7, 8, 12, 13, 14, 15, 16]) (.seq (.reg [⟨some 97, .mov (.t 7), none, false⟩, ⟨some 98, .mov (.t 8), none, false⟩, ⟨some 99, .mov (.t 14), none, false⟩, ⟨some 100, .iaddr 1 (.t 98) (.t 99), none, false⟩, ⟨some 101, .load false 1 (.t 100), none, false⟩, ⟨some 102, .call (.c (.func 17 [] [])) [.t 97, .t 101], none, false⟩, ⟨some 96, .mov (.t 102), none, false⟩, ⟨some 103, .ext (.t 96) 0, none, false⟩, ⟨some 104, .ext (.t 96) 1, none, false⟩, ⟨some 17, .alloc 24 [.int .i64 0, .int .i64 0, .str ⟨#[]⟩, .bool false], none, false⟩, ⟨none, .store 4 (.t 17) (.t 103), none, false⟩, ⟨some 18, .mov (.t 104), none, false⟩] [1, 7, 8, 12, 13, 14, 15, 16, 17, 18]) (.seq (.seq (.reg [⟨some 105, .mov (.t 15), none, false⟩, ⟨some 106, .mov (.t 8), none, false⟩, ⟨some 107, .mov (.t 14), none, false⟩, ⟨some 108, .iaddr 1 (.t 106) (.t 107), none, false⟩, ⟨some 109, .load false 1 (.t 108), none, false⟩, ⟨some 110, .bin .neq (.t 105) (.t 109), none, false⟩, ⟨some 111, .mov (.t 110), none, false⟩, ⟨some 112, .mov (.t 16), some (111, false), false⟩, ⟨some 113, .un .not (.t 112), some (111, false), false⟩, ⟨some 114, .pick (.t 111) (.c (.bool true)) (.t 113), none, false⟩, ⟨some 115, .mov (.t 114), none, false⟩, ⟨some 116, .load true 4 (.t 17), some (115, false), false⟩, ⟨some 117, .mov (.t 1), some (115, false), false⟩, ⟨some 118, .mov (.t 14), some (115, false), false⟩, ⟨some 119, .iaddr 4 (.t 117) (.t 118), some (115, false), false⟩, ⟨some 120, .load true 4 (.t 119), some (115, false), false⟩, ⟨some 121, .eqa [1, 1, 2, 0] true (.t 116) (.t 120), some (115, false), false⟩, ⟨some 122, .pick (.t 115) (.c (.bool true)) (.t 121), none, false⟩, ⟨some 123, .mov (.t 122), none, false⟩, ⟨some 124, .mov (.t 18), some (123, false), false⟩, ⟨some 125, .un .not (.t 124), some (123, false), false⟩, ⟨some 126, .pick (.t 123) (.c (.bool true)) (.t 125), none, false⟩] [1, 7, 8, 12, 13, 14, 15, 126]) (.cond (.t 126) (.seq (.reg [⟨some 4, .mov (.c (.bool false)), none, false⟩] [4]) .ret) .skip)) (.seq (.reg [⟨some 128, .mov (.t 12), none, false⟩, ⟨some 129, .mov (.t 1), none, false⟩, ⟨some 130, .mov (.t 14), none, false⟩, ⟨some 131, .iaddr 4 (.t 129) (.t 130), none, false⟩, ⟨some 132, .load true 4 (.t 131), none, false⟩, ⟨some 133, .call (.c (.func 23 [] [])) [.t 128, .t 132], none, false⟩, ⟨some 127, .mov (.t 133), none, false⟩, ⟨some 134, .ext (.t 127) 0, none, false⟩, ⟨some 135, .ext (.t 127) 1, none, false⟩, ⟨some 19, .mov (.t 134), none, false⟩, ⟨some 20, .mov (.t 135), none, false⟩] [1, 7, 8, 12, 13, 14, 15, 19, 20]) (.seq (.reg [⟨some 136, .mov (.t 20), none, false⟩, ⟨some 137, .un .not (.t 136), none, false⟩, ⟨some 138, .mov (.t 137), none, false⟩, ⟨some 139, .mov (.t 15), some (138, false), false⟩, ⟨some 140, .bin .lss (.t 139) (.c (.int .i64 0)), some (138, false), false⟩, ⟨some 141, .pick (.t 138) (.c (.bool true)) (.t 140), none, false⟩, ⟨some 142, .mov (.t 141), none, false⟩, ⟨some 143, .mov (.t 15), some (142, false), false⟩, ⟨some 144, .mov (.t 13), some (142, false), false⟩, ⟨some 145, .len 1 (.t 144), some (142, false), false⟩, ⟨some 146, .bin .geq (.t 143) (.t 145), some (142, false), false⟩, ⟨some 147, .pick (.t 142) (.c (.bool true)) (.t 146), none, false⟩, ⟨some 148, .mov (.t 147), none, false⟩, ⟨some 149, .mov (.t 19), some (148, false), false⟩, ⟨some 150, .bin .lss (.t 149) (.c (.int .i64 0)), some (148, false), false⟩, ⟨some 151, .pick (.t 148) (.c (.bool true)) (.t 150), none, false⟩, ⟨some 152, .mov (.t 151), none, false⟩, ⟨some 153, .mov (.t 19), some (152, false), false⟩, ⟨some 154, .mov (.t 12), some (152, false), false⟩, ⟨some 155, .len 4 (.t 154), some (152, false), false⟩, ⟨some 156, .bin .geq (.t 153) (.t 155), some (152, false), false⟩, ⟨some 157, .pick (.t 152) (.c (.bool true)) (.t 156), none, false⟩, ⟨some 158, .mov (.t 157), none, false⟩, ⟨some 159, .mov (.t 13), some (158, false), false⟩, ⟨some 160, .mov (.t 15), some (158, false), false⟩, ⟨some 161, .iaddr 1 (.t 159) (.t 160), some (158, false), false⟩, ⟨some 162, .load false 1 (.t 161), some (158, false), false⟩, ⟨some 163, .mov (.t 19), some (158, false), false⟩, ⟨some 164, .bin .neq (.t 162) (.t 163), some (158, false), false⟩, ⟨some 165, .pick (.t 158) (.c (.bool true)) (.t 164), none, false⟩, ⟨some 166, .mov (.t 165), none, false⟩, ⟨some 167, .mov (.t 12), some (166, false), false⟩, ⟨some 168, .mov (.t 19), some (166, false), false⟩, ⟨some 169, .iaddr 4 (.t 167) (.t 168), some (166, false), false⟩, ⟨some 170, .load true 4 (.t 169), some (166, false), false⟩, ⟨some 171, .mov (.t 1), some (166, false), false⟩, ⟨some 172, .mov (.t 14), some (166, false), false⟩, ⟨some 173, .iaddr 4 (.t 171) (.t 172), some (166, false), false⟩, ⟨some 174, .load true 4 (.t 173), some (166, false), false⟩, ⟨some 175, .eqa [1, 1, 2, 0] true (.t 170) (.t 174), some (166, false), false⟩, ⟨some 176, .pick (.t 166) (.c (.bool true)) (.t 175), none, false⟩] [1, 7, 8, 12, 13, 14, 176]) (.cond (.t 176) (.seq (.reg [⟨some 4, .mov (.c (.bool false)), none, false⟩] [4]) .ret) .skip)))))))) (.reg [⟨some 80, .mov (.t 14), none, false⟩, ⟨some 81, .bin .add (.t 80) (.c (.int .i64 1)), none, false⟩, ⟨some 14, .mov (.t 81), none, false⟩] [1, 7, 8, 12, 13, 14]))
theorem fin_val (h h' : Heap) {d : DV} (hd : d.plain = true) : ∃ h'', fin h h' [d] = (d, h'') := by
  rw [fin]
  split
  · rw [fz1_plain _ _ _ hd]; exact ⟨_, rfl⟩
  · exact ⟨_, rfl⟩
/-- The numbers that were given, and what they stand for. -/
def NumOk (vs : List V) (ns : List Int) (ls : List V) : Prop := ns.length = ls.length ∧ ∀ (i : Nat) (n : Int) (v : V), ns[i]? = some n → ls[i]? = some v → n < 0 ∨ ∃ j : Nat, n = j ∧ vs[j]? = some v
theorem NumOk.add {vs t : List V} {ns : List Int} {ls : List V} (h : NumOk vs ns ls) {n : Int} {v : V} (hn : n < 0 ∨ ∃ j : Nat, n = j ∧ (vs ++ t)[j]? = some v) : NumOk (vs ++ t) (ns ++ [n]) (ls ++ [v]) := by
  refine ⟨by simp [h.1], fun i a b h1 h2 => ?_⟩
  by_cases hi : i < ns.length
  · rw [List.getElem?_append_left hi] at h1
    rw [List.getElem?_append_left (by rw [← h.1]; exact hi)] at h2
    rcases h.2 i a b h1 h2 with h3 | ⟨j, h3, h4⟩
    · exact .inl h3
    · exact .inr ⟨j, h3, by rw [List.getElem?_append_left (List.getElem?_eq_some_iff.1 h4).1]; exact h4⟩
  · rw [List.getElem?_append_right (by omega)] at h1
    rw [List.getElem?_append_right (by rw [← h.1]; omega)] at h2
    have e : i - ns.length = 0 := by
      cases hq : i - ns.length with
      | zero => rfl
      | succ q => rw [hq] at h1; simp at h1
    rw [e] at h1
    rw [← h.1, e] at h2
    simp at h1 h2
    subst h1 h2
    exact hn
theorem loop8a {A : DV} {ls : List V} {o m : Nat} {lim : Int} (hA : ∀ g, vw g 4 A = some (ls.map V.d)) (hb : ls.length ≤ 100) (hlim : lim ≤ 4096) :
    ∀ (k i : Nat) (vs : List V) (L N : DV) (ns : List Int) (H : Heap), ls.length - i ≤ k → i ≤ ls.length → DictAt H o m L lim vs → GrowAt 0 3 1 H N (ns.map (.int .i64)) → NumOk vs ns (ls.take i) → Gd vs → vs.length ≤ i →
      ∃ e' vs' L' N' ns' H', C X (.loop lp8_0) [(1, A), (7, .ref o 0), (8, N), (9, .int .i64 i)] H = some (.exit 0, e', H') ∧ lk e' 1 = A ∧ lk e' 7 = .ref o 0 ∧ lk e' 8 = N' ∧ DictAt H' o m L' lim vs' ∧ GrowAt 0 3 1 H' N' (ns'.map (.int .i64)) ∧ NumOk vs' ns' ls ∧ Gd vs' ∧ vs'.length ≤ ls.length := by
  intro k
  induction k with
  | zero =>
    intro i vs L N ns H hk hi hd hg hn hgd hl
    obtain rfl : i = ls.length := by omega
    rw [List.take_length] at hn
    refine ⟨[(1, A), (7, .ref o 0), (8, N), (9, .int .i64 ls.length), (36, .bool false)], vs, L, N, ns, H, ?_, rfl, rfl, rfl, hd, hg, hn, hgd, hl⟩
    rw [t_loop]
    unfold lp8_0
    (repeat (first | rw [s_assoc] | rw [s_seq_reg (by simp [evOps, evOp_n, evOp_r, evOp_d, evOp_dr, kpo_refl, kpo_app, cnd_some, cnd_pair, cnd_cnd_t, cnd_cnd_f, cnd_same, cnd_dvb, cnd_and, cnd_or, ↓evx_pick, gd_bool, gd_boolf, gd_tup, cnd_t, cnd_f, evTo, isCall, evx, put, lk, Od.v, keepEnv, enterEnv, ldx_ref, rdc, binx, binI, binS, unx, eqk, DV.isU, DV.cells, hget, hget0, hset, hset0, stx_ref, splice, DV.one, fillp, mat, eqcs, eqs, hA]; exact ⟨rfl, rfl⟩)] | rw [s_cnd (by simp [lk, keepEnv, Od.v, hA]; exact rfl)] | rw [cnd_t] | rw [cnd_f] | rw [s_skip] | rw [s_ret] | rw [s_exit] | rw [C_ret] | rw [C_exit] | rw [C_skip] | rw [blk_ret] | rw [blk_norm] | rw [blk_exit] | rw [blk_exit' (by decide)] | rw [blkT_ret] | rw [blkT_norm] | rw [blkT_exit] | rw [blkT_exit' (by decide)] | rw [s_blk] | rw [s_reg (by simp [evOps, evOp_n, evOp_r, evOp_d, evOp_dr, kpo_refl, kpo_app, cnd_some, cnd_pair, cnd_cnd_t, cnd_cnd_f, cnd_same, cnd_dvb, cnd_and, cnd_or, ↓evx_pick, gd_bool, gd_boolf, gd_tup, cnd_t, cnd_f, evTo, isCall, evx, put, lk, Od.v, keepEnv, enterEnv, ldx_ref, rdc, binx, binI, binS, unx, eqk, DV.isU, DV.cells, hget, hget0, hset, hset0, stx_ref, splice, DV.one, fillp, mat, eqcs, eqs, hA]; exact ⟨rfl, rfl⟩)] | rw [t_cnd (by simp [lk, keepEnv, Od.v, hA]; exact rfl)] | rw [t_blk]))
    rw [lp_exit]
    simp [keepEnv, lk]
  | succ k ih =>
    intro i vs L N ns H hk hi hd hg hn hgd hl
    by_cases w0 : i < ls.length
    · obtain ⟨I, hI⟩ : ∃ I, I = i + 1 := ⟨_, rfl⟩
      have w1 : IntKind.i64.wrap ((i : Int) + 1) = (I : Int) := (by rw [wrap64 _ (by omega) (by omega)]; omega)
      obtain ⟨v, hv⟩ : ∃ v, v = ls[i] := ⟨_, rfl⟩
      have hvi : ls[i]? = some v := by rw [hv]; exact List.getElem?_eq_getElem w0
      obtain ⟨L1, H1, e1, d1, b1, f1, r1⟩ := run12_all hd hlim v
      have hok := fun h => addS_ok (lim := lim) (vs := vs) (v := v) h
      have hgd1 := addS_gd lim v hgd
      have hlen1 := addS_len lim vs v
      obtain ⟨t, ht⟩ := addS_ext lim vs v
      generalize addS lim vs v = q at e1 d1 hok hgd1 hlen1 ht
      obtain ⟨n1, c1, vs1⟩ := q
      simp only at e1 d1 hok hgd1 hlen1 ht
      -- the number as it is kept
      obtain ⟨n2, hn2⟩ : ∃ n2 : Int, (c1 = 0 → n2 = n1) ∧ (c1 ≠ 0 → n2 = -1) := by
        by_cases hc : c1 = 0
        · exact ⟨n1, fun _ => rfl, fun h => absurd hc h⟩
        · exact ⟨-1, fun h => absurd h hc, fun _ => rfl⟩
      have b2 : vs1.length ≤ I := by clear hok; omega
      have b3 : ls.length - I ≤ k := by clear hok; omega
      have b4 : I ≤ ls.length := by clear hok; omega
      have hnum : n2 < 0 ∨ ∃ j : Nat, n2 = j ∧ vs1[j]? = some v := by
        by_cases hc : c1 = 0
        · obtain ⟨j, h1, h2⟩ := hok hc
          exact .inr ⟨j, by rw [hn2.1 hc, h1], h2⟩
        · left; rw [hn2.2 hc]; omega
      have ap := hg.apart hd
      have hg1 : GrowAt 0 3 1 H1 N (ns.map (.int .i64)) := hg.keep fun r hr => f1 r (hg.row_lt hr) (fun h => ap.1 (by rw [hr, h])) (fun h => ap.2.1 (by rw [hr, h])) (fun h => ap.2.2 r h hr)
      have ap1 := hg1.apart d1
      obtain ⟨N2, H2, a1, a2, a3, a4⟩ := hg1.app' (by' := 8) (ys := [.int .i64 n2]) (Nat.zero_le _) (by simp) (by have := hn.1; simp at this ⊢; omega)
      have d2 : DictAt H2 o m L1 lim vs1 := d1.keep (a4 o (List.getElem?_eq_some_iff.1 d1.box).1 ap1.1) (a4 m (List.getElem?_eq_some_iff.1 d1.map).1 ap1.2.1) (fun r hr => a4 r (d1.row_lt hr) (ap1.2.2 r hr))
      have a5 := hg1.vw
      have hn3 : NumOk vs1 (ns ++ [n2]) (ls.take I) := by
        rw [hI, List.take_add_one, hvi, ht]
        refine hn.add ?_
        rw [← ht]; exact hnum
      obtain ⟨e', vs', L', N', ns', H', g1, g2⟩ := ih I vs1 L1 N2 (ns ++ [n2]) H2 b3 b4 d2 (by simpa using a2) hn3 hgd1 b2
      refine ⟨e', vs', L', N', ns', H', ?_, g2⟩
      have q1 : ∀ q : Heap, eltL [DV.int .i64 n2] q = some ([.int .i64 n2], q) := fun q => rfl
      have q2 : Wc 1 (DV.int .i64 n2) := by simp [Wc, DV.cells, DV.one]
      have q3 : Nr (DV.int .i64 n2) := .int _ _
      have q4 : ∀ q, vw q 1 (.list 1 [DV.int .i64 n2] true) = some [.int .i64 n2] := fun q => rfl
      have hs : C X lp8_0 [(1, A), (7, .ref o 0), (8, N), (9, .int .i64 i)] H = some (.norm, [(1, A), (7, .ref o 0), (8, N2), (9, .int .i64 I)], H2) := by
        by_cases hc : c1 = 0
        · have hn2 := hn2.1 hc
          rw [← hn2] at e1
          have hc' : (c1 != 0) = false := by simp [hc]
          unfold lp8_0
          (repeat (first | rw [s_assoc] | rw [s_seq_reg (by simp [evOps, evOp_n, evOp_r, evOp_d, evOp_dr, kpo_refl, kpo_app, cnd_some, cnd_pair, cnd_cnd_t, cnd_cnd_f, cnd_same, cnd_dvb, cnd_and, cnd_or, ↓evx_pick, gd_bool, gd_boolf, gd_tup, cnd_t, cnd_f, evTo, isCall, evx, put, lk, Od.v, keepEnv, enterEnv, ldx_ref, rdc, binx, binI, binS, unx, eqk, DV.isU, DV.cells, hget, hget0, hset, hset0, stx_ref, splice, DV.one, fillp, mat, eqcs, eqs, w0, w1, hA, ← hv, ldx, e1, hc', q1, q2, q3, q4, a1, a5, srcOf]; exact ⟨rfl, rfl⟩)] | rw [s_cnd (by simp [lk, keepEnv, Od.v, w0, w1, hA, ← hv, ldx, e1, hc', q1, q2, q3, q4, a1, a5, srcOf]; exact rfl)] | rw [cnd_t] | rw [cnd_f] | rw [s_skip] | rw [s_ret] | rw [s_exit] | rw [C_ret] | rw [C_exit] | rw [C_skip] | rw [blk_ret] | rw [blk_norm] | rw [blk_exit] | rw [blk_exit' (by decide)] | rw [blkT_ret] | rw [blkT_norm] | rw [blkT_exit] | rw [blkT_exit' (by decide)] | rw [s_blk] | rw [s_reg (by simp [evOps, evOp_n, evOp_r, evOp_d, evOp_dr, kpo_refl, kpo_app, cnd_some, cnd_pair, cnd_cnd_t, cnd_cnd_f, cnd_same, cnd_dvb, cnd_and, cnd_or, ↓evx_pick, gd_bool, gd_boolf, gd_tup, cnd_t, cnd_f, evTo, isCall, evx, put, lk, Od.v, keepEnv, enterEnv, ldx_ref, rdc, binx, binI, binS, unx, eqk, DV.isU, DV.cells, hget, hget0, hset, hset0, stx_ref, splice, DV.one, fillp, mat, eqcs, eqs, w0, w1, hA, ← hv, ldx, e1, hc', q1, q2, q3, q4, a1, a5, srcOf]; exact ⟨rfl, rfl⟩)] | rw [t_cnd (by simp [lk, keepEnv, Od.v, w0, w1, hA, ← hv, ldx, e1, hc', q1, q2, q3, q4, a1, a5, srcOf]; exact rfl)] | rw [t_blk]))
          simp [keepEnv, lk]
        · have hn2 := hn2.2 hc
          subst hn2
          have hc' : (c1 != 0) = true := by simp [hc]
          unfold lp8_0
          (repeat (first | rw [s_assoc] | rw [s_seq_reg (by simp [evOps, evOp_n, evOp_r, evOp_d, evOp_dr, kpo_refl, kpo_app, cnd_some, cnd_pair, cnd_cnd_t, cnd_cnd_f, cnd_same, cnd_dvb, cnd_and, cnd_or, ↓evx_pick, gd_bool, gd_boolf, gd_tup, cnd_t, cnd_f, evTo, isCall, evx, put, lk, Od.v, keepEnv, enterEnv, ldx_ref, rdc, binx, binI, binS, unx, eqk, DV.isU, DV.cells, hget, hget0, hset, hset0, stx_ref, splice, DV.one, fillp, mat, eqcs, eqs, w0, w1, hA, ← hv, ldx, e1, hc', q1, q2, q3, q4, a1, a5, srcOf]; exact ⟨rfl, rfl⟩)] | rw [s_cnd (by simp [lk, keepEnv, Od.v, w0, w1, hA, ← hv, ldx, e1, hc', q1, q2, q3, q4, a1, a5, srcOf]; exact rfl)] | rw [cnd_t] | rw [cnd_f] | rw [s_skip] | rw [s_ret] | rw [s_exit] | rw [C_ret] | rw [C_exit] | rw [C_skip] | rw [blk_ret] | rw [blk_norm] | rw [blk_exit] | rw [blk_exit' (by decide)] | rw [blkT_ret] | rw [blkT_norm] | rw [blkT_exit] | rw [blkT_exit' (by decide)] | rw [s_blk] | rw [s_reg (by simp [evOps, evOp_n, evOp_r, evOp_d, evOp_dr, kpo_refl, kpo_app, cnd_some, cnd_pair, cnd_cnd_t, cnd_cnd_f, cnd_same, cnd_dvb, cnd_and, cnd_or, ↓evx_pick, gd_bool, gd_boolf, gd_tup, cnd_t, cnd_f, evTo, isCall, evx, put, lk, Od.v, keepEnv, enterEnv, ldx_ref, rdc, binx, binI, binS, unx, eqk, DV.isU, DV.cells, hget, hget0, hset, hset0, stx_ref, splice, DV.one, fillp, mat, eqcs, eqs, w0, w1, hA, ← hv, ldx, e1, hc', q1, q2, q3, q4, a1, a5, srcOf]; exact ⟨rfl, rfl⟩)] | rw [t_cnd (by simp [lk, keepEnv, Od.v, w0, w1, hA, ← hv, ldx, e1, hc', q1, q2, q3, q4, a1, a5, srcOf]; exact rfl)] | rw [t_blk]))
          simp [keepEnv, lk]
      rw [t_loop, hs, lp_norm]
      exact g1
    · exact ih i vs L N ns H (by omega) hi hd hg hn hgd hl
theorem loop8b {A S T N : DV} {ls vs ys : List V} {ns : List Int} {o m : Nat} {L : DV} {lim : Int} {H2 : Heap} (hA : ∀ g, vw g 4 A = some (ls.map V.d)) (hb : ls.length ≤ 100)
    (hd : DictAt H2 o m L lim vs) (hN : ∀ l, vw (H2 ++ l) 1 N = some (ns.map (.int .i64))) (hn : NumOk vs ns ls) (hgd : Gd vs) (hvl : vs.length ≤ 100)
    (hS : ∀ g, vw g 4 S = some (ys.map V.d)) (hT : ∀ g, vw g 1 T = some (toS ys vs)) (hu : Up ys) (hp : ys.Perm vs) :
    ∀ (k i : Nat) (l : Heap), ls.length - i ≤ k → i ≤ ls.length →
      ∃ e' l', C X (.loop lp8_1) [(1, A), (7, .ref o 0), (8, N), (12, S), (13, T), (14, .int .i64 i)] (H2 ++ l) = some (.exit 2, e', H2 ++ l') := by
  have hris : risL none ys = true := up_ris ys none hu (fun x hx => hgd.1 x (hp.mem_iff.1 hx))
  have hyl : ys.length = vs.length := hp.length_eq
  intro k
  induction k with
  | zero =>
    intro i l hk hi
    obtain rfl : i = ls.length := by omega
    rw [t_loop]
    unfold lp8_1
    (repeat (first | rw [s_assoc] | rw [s_seq_reg (by simp [evOps, evOp_n, evOp_r, evOp_d, evOp_dr, kpo_refl, kpo_app, cnd_some, cnd_pair, cnd_cnd_t, cnd_cnd_f, cnd_same, cnd_dvb, cnd_and, cnd_or, ↓evx_pick, gd_bool, gd_boolf, gd_tup, cnd_t, cnd_f, evTo, isCall, evx, put, lk, Od.v, keepEnv, enterEnv, ldx_ref, rdc, binx, binI, binS, unx, eqk, DV.isU, DV.cells, hget, hget0, hset, hset0, stx_ref, splice, DV.one, fillp, mat, eqcs, eqs, hA]; exact ⟨rfl, rfl⟩)] | rw [s_cnd (by simp [lk, keepEnv, Od.v, hA]; exact rfl)] | rw [cnd_t] | rw [cnd_f] | rw [s_skip] | rw [s_ret] | rw [s_exit] | rw [C_ret] | rw [C_exit] | rw [C_skip] | rw [blk_ret] | rw [blk_norm] | rw [blk_exit] | rw [blk_exit' (by decide)] | rw [blkT_ret] | rw [blkT_norm] | rw [blkT_exit] | rw [blkT_exit' (by decide)] | rw [s_blk] | rw [s_reg (by simp [evOps, evOp_n, evOp_r, evOp_d, evOp_dr, kpo_refl, kpo_app, cnd_some, cnd_pair, cnd_cnd_t, cnd_cnd_f, cnd_same, cnd_dvb, cnd_and, cnd_or, ↓evx_pick, gd_bool, gd_boolf, gd_tup, cnd_t, cnd_f, evTo, isCall, evx, put, lk, Od.v, keepEnv, enterEnv, ldx_ref, rdc, binx, binI, binS, unx, eqk, DV.isU, DV.cells, hget, hget0, hset, hset0, stx_ref, splice, DV.one, fillp, mat, eqcs, eqs, hA]; exact ⟨rfl, rfl⟩)] | rw [t_cnd (by simp [lk, keepEnv, Od.v, hA]; exact rfl)] | rw [t_blk]))
    rw [lp_exit]
    exact ⟨_, _, rfl⟩
  | succ k ih =>
    intro i l hk hi
    by_cases w0 : i < ls.length
    · obtain ⟨I, hI⟩ : ∃ I, I = i + 1 := ⟨_, rfl⟩
      have w1 : IntKind.i64.wrap ((i : Int) + 1) = (I : Int) := (by rw [wrap64 _ (by omega) (by omega)]; omega)
      have w0n : i < ns.length := by rw [hn.1]; exact w0
      obtain ⟨v, hv⟩ : ∃ v, v = ls[i] := ⟨_, rfl⟩
      have hvi : ls[i]? = some v := by rw [hv]; exact List.getElem?_eq_getElem w0
      obtain ⟨n, hnn⟩ : ∃ n, n = ns[i] := ⟨_, rfl⟩
      have hni : ns[i]? = some n := by rw [hnn]; exact List.getElem?_eq_getElem w0n
      by_cases hneg : n < 0
      · have hs : C X lp8_1 [(1, A), (7, .ref o 0), (8, N), (12, S), (13, T), (14, .int .i64 i)] (H2 ++ l) = some (.norm, [(1, A), (7, .ref o 0), (8, N), (12, S), (13, T), (14, .int .i64 I)], H2 ++ l) := by
          unfold lp8_1
          (repeat (first | rw [s_assoc] | rw [s_seq_reg (by simp [evOps, evOp_n, evOp_r, evOp_d, evOp_dr, kpo_refl, kpo_app, cnd_some, cnd_pair, cnd_cnd_t, cnd_cnd_f, cnd_same, cnd_dvb, cnd_and, cnd_or, ↓evx_pick, gd_bool, gd_boolf, gd_tup, cnd_t, cnd_f, evTo, isCall, evx, put, lk, Od.v, keepEnv, enterEnv, ldx_ref, rdc, binx, binI, binS, unx, eqk, DV.isU, DV.cells, hget, hget0, hset, hset0, stx_ref, splice, DV.one, fillp, mat, eqcs, eqs, w0, w0n, w1, hA, hN, ldx, ← hnn, hneg]; exact ⟨rfl, rfl⟩)] | rw [s_cnd (by simp [lk, keepEnv, Od.v, w0, w0n, w1, hA, hN, ldx, ← hnn, hneg]; exact rfl)] | rw [cnd_t] | rw [cnd_f] | rw [s_skip] | rw [s_ret] | rw [s_exit] | rw [C_ret] | rw [C_exit] | rw [C_skip] | rw [blk_ret] | rw [blk_norm] | rw [blk_exit] | rw [blk_exit' (by decide)] | rw [blkT_ret] | rw [blkT_norm] | rw [blkT_exit] | rw [blkT_exit' (by decide)] | rw [s_blk] | rw [s_reg (by simp [evOps, evOp_n, evOp_r, evOp_d, evOp_dr, kpo_refl, kpo_app, cnd_some, cnd_pair, cnd_cnd_t, cnd_cnd_f, cnd_same, cnd_dvb, cnd_and, cnd_or, ↓evx_pick, gd_bool, gd_boolf, gd_tup, cnd_t, cnd_f, evTo, isCall, evx, put, lk, Od.v, keepEnv, enterEnv, ldx_ref, rdc, binx, binI, binS, unx, eqk, DV.isU, DV.cells, hget, hget0, hset, hset0, stx_ref, splice, DV.one, fillp, mat, eqcs, eqs, w0, w0n, w1, hA, hN, ldx, ← hnn, hneg]; exact ⟨rfl, rfl⟩)] | rw [t_cnd (by simp [lk, keepEnv, Od.v, w0, w0n, w1, hA, hN, ldx, ← hnn, hneg]; exact rfl)] | rw [t_blk]))
          simp [keepEnv, lk]
        rw [t_loop, hs, lp_norm]
        exact ih I l (by omega) (by omega)
      · obtain ⟨j, hj, hvj⟩ : ∃ j : Nat, n = j ∧ vs[j]? = some v := by
          rcases hn.2 i n v hni hvi with h | h
          · exact absurd h hneg
          · exact h
        subst hj
        have hjl : j < vs.length := (List.getElem?_eq_some_iff.1 hvj).1
        have hmem : v ∈ ys := hp.mem_iff.2 (List.mem_of_getElem? hvj)
        obtain ⟨hpl, hfo⟩ := up_at_place hu hmem
        have hmay : mayV v = true := hgd.1 v (hp.mem_iff.1 hmem)
        have hpl2 : place ys v < ys.length := (List.getElem?_eq_some_iff.1 hpl).1
        have hpl3 : ys[place ys v] = v := (List.getElem?_eq_some_iff.1 hpl).2
        have hvj' : vs[j] = v := (List.getElem?_eq_some_iff.1 hvj).2
        have e15 := fun l => run15 (hd.app l) v
        rw [fnd_at hgd hvj] at e15
        have e17 := fun l => run17 (hd.app l) j hvj
        have e23 := fun g => run23 (h := g) (A := S) (xs := ys) v (fun l => hS _) (by omega)
        rw [if_pos ⟨hris, hmay⟩, hris, hmay, hfo] at e23
        obtain ⟨p, hp'⟩ : ∃ p, p = place ys v := ⟨_, rfl⟩
        have hpT : p < ys.length := by rw [hp']; exact hpl2
        have hTl : (toS ys vs).length = vs.length := by simp [toS]
        have hTj : (toS ys vs)[j]? = some (.int .i64 p) := by simp [toS, hvj, hp']
        have hTj' : (toS ys vs)[j]'(by rw [hTl]; exact hjl) = .int .i64 p := by
          have h := hTj
          rw [List.getElem?_eq_getElem (by rw [hTl]; exact hjl)] at h
          exact Option.some.inj h
        have hSp : ys[p]'hpT = v := by
          have h := hpl
          rw [← hp', List.getElem?_eq_getElem hpT] at h
          exact Option.some.inj h
        rw [← hp'] at e23
        have z1 : ¬ ((j : Int) < 0) := by omega
        have z2 : ¬ ((p : Int) < 0) := by omega
        have z3 : ¬ vs.length ≤ j := by omega
        have z4 : ¬ ys.length ≤ p := by omega
        have hk' : (v.k == v.k && (v.n == v.n && (v.s == v.s && v.t == v.t))) = true := (V.eqb_iff v v).2 rfl
        have hs : C X lp8_1 [(1, A), (7, .ref o 0), (8, N), (12, S), (13, T), (14, .int .i64 i)] (H2 ++ l) = some (.norm, [(1, A), (7, .ref o 0), (8, N), (12, S), (13, T), (14, .int .i64 I)], H2 ++ (l ++ [HO.box 24 [.int .i64 v.k, .int .i64 v.n, .str v.s, .bool v.t]])) := by
          unfold lp8_1
          (repeat (first | rw [s_assoc] | rw [s_seq_reg (by simp [evOps, evOp_n, evOp_r, evOp_d, evOp_dr, kpo_refl, kpo_app, cnd_some, cnd_pair, cnd_cnd_t, cnd_cnd_f, cnd_same, cnd_dvb, cnd_and, cnd_or, ↓evx_pick, gd_bool, gd_boolf, gd_tup, cnd_t, cnd_f, evTo, isCall, evx, put, lk, Od.v, keepEnv, enterEnv, ldx_ref, rdc, binx, binI, binS, unx, eqk, DV.isU, DV.cells, hget, hget0, hset, hset0, stx_ref, splice, DV.one, fillp, mat, eqcs, eqs, w0, w0n, w1, hA, hN, hS, hT, hTl, hTj', hSp, ldx, ← hnn, ← hv, z1, z2, z3, z4, hjl, hpT, e15, e17, e23, beq_bytes]; exact ⟨rfl, rfl⟩)] | rw [s_cnd (by simp [lk, keepEnv, Od.v, w0, w0n, w1, hA, hN, hS, hT, hTl, hTj', hSp, ldx, ← hnn, ← hv, z1, z2, z3, z4, hjl, hpT, e15, e17, e23, beq_bytes]; exact rfl)] | rw [cnd_t] | rw [cnd_f] | rw [s_skip] | rw [s_ret] | rw [s_exit] | rw [C_ret] | rw [C_exit] | rw [C_skip] | rw [blk_ret] | rw [blk_norm] | rw [blk_exit] | rw [blk_exit' (by decide)] | rw [blkT_ret] | rw [blkT_norm] | rw [blkT_exit] | rw [blkT_exit' (by decide)] | rw [s_blk] | rw [s_reg (by simp [evOps, evOp_n, evOp_r, evOp_d, evOp_dr, kpo_refl, kpo_app, cnd_some, cnd_pair, cnd_cnd_t, cnd_cnd_f, cnd_same, cnd_dvb, cnd_and, cnd_or, ↓evx_pick, gd_bool, gd_boolf, gd_tup, cnd_t, cnd_f, evTo, isCall, evx, put, lk, Od.v, keepEnv, enterEnv, ldx_ref, rdc, binx, binI, binS, unx, eqk, DV.isU, DV.cells, hget, hget0, hset, hset0, stx_ref, splice, DV.one, fillp, mat, eqcs, eqs, w0, w0n, w1, hA, hN, hS, hT, hTl, hTj', hSp, ldx, ← hnn, ← hv, z1, z2, z3, z4, hjl, hpT, e15, e17, e23, beq_bytes]; exact ⟨rfl, rfl⟩)] | rw [t_cnd (by simp [lk, keepEnv, Od.v, w0, w0n, w1, hA, hN, hS, hT, hTl, hTj', hSp, ldx, ← hnn, ← hv, z1, z2, z3, z4, hjl, hpT, e15, e17, e23, beq_bytes]; exact rfl)] | rw [t_blk]))
          simp [keepEnv, lk]
        rw [t_loop, hs, lp_norm]
        exact ih I _ (by omega) (by omega)
    · exact ih i l (by omega) hi
end Go.Proofs.Ytmlfhjpajbmajaa
namespace Go.Proofs.Ytmlfhjpajbmajaa
set_option linter.unusedVariables false
set_option linter.unusedSimpArgs false
set_option maxRecDepth 10000
theorem limOf_le (n : Int) : limOf n ≤ 4096 := by
  unfold limOf; split
  · omega
  · split <;> omega
theorem new_dict (n : Int) (h : Heap) : DictAt (h ++ [.map 0 0 [], .box 55 [.int .i64 (limOf n), .nils, .map h.length]]) (h.length + 1) h.length .nils (limOf n) [] := ⟨by simp [hget], by simp [ents], .inl ⟨rfl, rfl⟩⟩
/-- What is sorted: its values and where each number's stands. -/
theorem run18A {H : Heap} {o m : Nat} {L : DV} {lim : Int} {vs : List V} (hd : DictAt H o m L lim vs) (hn : vs.length < 256) (hgd : Gd vs) :
    ∃ S T ys, (∀ l, E X 18 [.ref o 0] (H ++ l) = some (.tup [S, T], H ++ l)) ∧ (∀ g, vw g 4 S = some (ys.map V.d)) ∧ (∀ g, vw g 1 T = some (toS ys vs)) ∧ Up ys ∧ ys.Perm vs := by
  by_cases hv : vs = []
  · subst hv
    exact ⟨.nils, .nils, [], fun l => run18E (hd.app l), fun _ => rfl, fun _ => rfl, List.Pairwise.nil, List.Perm.refl _⟩
  · exact ⟨_, _, (Go.Sort.sort lt vs.toArray).toList, fun l => run18L (hd.app l) hv hn rfl, fun _ => rfl, fun _ => rfl, sort_up hgd, sort_perm vs⟩
theorem run8 {A : DV} {ls : List V} (limit : Int) (hA : A = .list 4 (ls.map V.d) false ∨ (A = .nils ∧ ls = [])) : ∃ h', E X 8 [.int .i64 limit, A] [] = some (.bool true, h') := by
  have hvw : ∀ g, vw g 4 A = some (ls.map V.d) := by
    intro g; rcases hA with rfl | ⟨rfl, rfl⟩ <;> rfl
  have e1 := run9
  obtain ⟨b, e2, hb⟩ := run10' [] hA
  cases b with
  | false =>
    refine ⟨[], ?_⟩
    rw [E_go (X := X) _ b8 _ rfl rfl]; unfold b8; (repeat (first | rw [s_assoc] | rw [s_seq_reg (by simp [evOps, evOp_n, evOp_r, evOp_d, evOp_dr, kpo_refl, kpo_app, cnd_some, cnd_pair, cnd_cnd_t, cnd_cnd_f, cnd_same, cnd_dvb, cnd_and, cnd_or, ↓evx_pick, gd_bool, gd_boolf, gd_tup, cnd_t, cnd_f, evTo, isCall, evx, put, lk, Od.v, keepEnv, enterEnv, ldx_ref, rdc, binx, binI, binS, unx, eqk, DV.isU, DV.cells, hget, hget0, hset, hset0, stx_ref, splice, DV.one, fillp, mat, eqcs, eqs, e1, e2]; exact ⟨rfl, rfl⟩)] | rw [s_cnd (by simp [lk, keepEnv, Od.v, e1, e2]; exact rfl)] | rw [cnd_t] | rw [cnd_f] | rw [s_skip] | rw [s_ret] | rw [s_exit] | rw [C_ret] | rw [C_exit] | rw [C_skip] | rw [blk_ret] | rw [blk_norm] | rw [blk_exit] | rw [blk_exit' (by decide)] | rw [blkT_ret] | rw [blkT_norm] | rw [blkT_exit] | rw [blkT_exit' (by decide)] | rw [s_blk] | rw [s_reg (by simp [evOps, evOp_n, evOp_r, evOp_d, evOp_dr, kpo_refl, kpo_app, cnd_some, cnd_pair, cnd_cnd_t, cnd_cnd_f, cnd_same, cnd_dvb, cnd_and, cnd_or, ↓evx_pick, gd_bool, gd_boolf, gd_tup, cnd_t, cnd_f, evTo, isCall, evx, put, lk, Od.v, keepEnv, enterEnv, ldx_ref, rdc, binx, binI, binS, unx, eqk, DV.isU, DV.cells, hget, hget0, hset, hset0, stx_ref, splice, DV.one, fillp, mat, eqcs, eqs, e1, e2]; exact ⟨rfl, rfl⟩)] | rw [t_cnd (by simp [lk, keepEnv, Od.v, e1, e2]; exact rfl)] | rw [t_blk])); simp [ends_ret, ends_norm, resL, evOps, evOp_n, evOp_r, evOp_d, evOp_dr, kpo_refl, kpo_app, cnd_some, cnd_pair, cnd_cnd_t, cnd_cnd_f, cnd_same, cnd_dvb, cnd_and, cnd_or, ↓evx_pick, gd_bool, gd_boolf, gd_tup, cnd_t, cnd_f, evTo, isCall, evx, put, lk, Od.v, keepEnv, enterEnv, ldx_ref, rdc, binx, binI, binS, unx, eqk, DV.isU, DV.cells, hget, hget0, hset, hset0, stx_ref, splice, DV.one, fillp, mat, eqcs, eqs, fin, fz0, fz1, fzT, fzL, nlt, e1, e2]
  | true =>
    have hl := hb rfl
    have e3 := run11' limit []
    have D1 := new_dict limit []
    rw [List.nil_append, show ([] : Heap).length = 0 from rfl] at e3 D1
    generalize hH1 : ([.map 0 0 [], .box 55 [.int .i64 (limOf limit), .nils, .map 0]] : Heap) = H1 at e3 D1
    obtain ⟨e', vs, L, N, ns, H2, c1, c2, c3, c4, c5, c6, c7, c8, c9⟩ := loop8a hvw hl (limOf_le limit) ls.length 0 [] .nils .nils [] H1 (by omega) (by omega) D1 (.inl ⟨rfl, rfl⟩) ⟨by simp, by simp⟩ gd_nil (by simp)
    obtain ⟨S, T, ys, e4, hS, hT, hu, hp⟩ := run18A c5 (by omega) c8
    have e4' := e4 []
    rw [List.append_nil] at e4'
    have e5 := run14 c5
    have hN : ∀ l, vw (H2 ++ l) 1 N = some (ns.map (.int .i64)) := fun l => (c6.ext l).vw
    obtain ⟨e'', l'', c10⟩ := loop8b hvw hl c5 hN c7 c8 (by omega) hS hT hu hp ls.length 0 [] (by omega) (by omega)
    rw [show ((0 : Nat) : Int) = 0 from rfl] at c1 c10
    rw [List.append_nil] at c10
    have hris : risL none ys = true := up_ris ys none hu (fun x hx => c8.1 x (hp.mem_iff.1 hx))
    have hyl : ys.length = vs.length := hp.length_eq
    have hTl : (toS ys vs).length = vs.length := by simp [toS]
    have e6 := run25 (h := H2) (A := S) (xs := ys) (fun l => hS _) (by omega)
    rw [hris] at e6
    have z1 : ((vs.length : Int) != vs.length) = false := by simp
    obtain ⟨h', c11⟩ := fin_val [] (H2 ++ l'') (d := .bool true) rfl
    refine ⟨h', ?_⟩
    unfold lp8_0 at c1
    unfold lp8_1 at c10
    rw [E_go (X := X) _ b8 _ rfl rfl]; unfold b8
    (repeat (first | rw [s_assoc] | rw [s_seq_reg (by simp [evOps, evOp_n, evOp_r, evOp_d, evOp_dr, kpo_refl, kpo_app, cnd_some, cnd_pair, cnd_cnd_t, cnd_cnd_f, cnd_same, cnd_dvb, cnd_and, cnd_or, ↓evx_pick, gd_bool, gd_boolf, gd_tup, cnd_t, cnd_f, evTo, isCall, evx, put, lk, Od.v, keepEnv, enterEnv, ldx_ref, rdc, binx, binI, binS, unx, eqk, DV.isU, DV.cells, hget, hget0, hset, hset0, stx_ref, splice, DV.one, fillp, mat, eqcs, eqs, e1, e2, e3]; exact ⟨rfl, rfl⟩)] | rw [s_cnd (by simp [lk, keepEnv, Od.v, e1, e2, e3]; exact rfl)] | rw [cnd_t] | rw [cnd_f] | rw [s_skip] | rw [s_ret] | rw [s_exit] | rw [C_ret] | rw [C_exit] | rw [C_skip] | rw [blk_ret] | rw [blk_norm] | rw [blk_exit] | rw [blk_exit' (by decide)] | rw [blkT_ret] | rw [blkT_norm] | rw [blkT_exit] | rw [blkT_exit' (by decide)] | rw [s_blk] | rw [s_reg (by simp [evOps, evOp_n, evOp_r, evOp_d, evOp_dr, kpo_refl, kpo_app, cnd_some, cnd_pair, cnd_cnd_t, cnd_cnd_f, cnd_same, cnd_dvb, cnd_and, cnd_or, ↓evx_pick, gd_bool, gd_boolf, gd_tup, cnd_t, cnd_f, evTo, isCall, evx, put, lk, Od.v, keepEnv, enterEnv, ldx_ref, rdc, binx, binI, binS, unx, eqk, DV.isU, DV.cells, hget, hget0, hset, hset0, stx_ref, splice, DV.one, fillp, mat, eqcs, eqs, e1, e2, e3]; exact ⟨rfl, rfl⟩)] | rw [t_cnd (by simp [lk, keepEnv, Od.v, e1, e2, e3]; exact rfl)] | rw [t_blk]))
    (try simp only [keepEnv, List.map_cons, List.map_nil, lk, reduceIte, Nat.reduceEqDiff, Nat.zero_ne_one, Nat.one_ne_zero])
    rw [c1]
    (repeat (first | rw [s_assoc] | rw [s_seq_reg (by simp [evOps, evOp_n, evOp_r, evOp_d, evOp_dr, kpo_refl, kpo_app, cnd_some, cnd_pair, cnd_cnd_t, cnd_cnd_f, cnd_same, cnd_dvb, cnd_and, cnd_or, ↓evx_pick, gd_bool, gd_boolf, gd_tup, cnd_t, cnd_f, evTo, isCall, evx, put, lk, Od.v, keepEnv, enterEnv, ldx_ref, rdc, binx, binI, binS, unx, eqk, DV.isU, DV.cells, hget, hget0, hset, hset0, stx_ref, splice, DV.one, fillp, mat, eqcs, eqs, c2, c3, c4, e4', e5, e6, hS, hT, hTl, hyl, z1]; exact ⟨rfl, rfl⟩)] | rw [s_cnd (by simp [lk, keepEnv, Od.v, c2, c3, c4, e4', e5, e6, hS, hT, hTl, hyl, z1]; exact rfl)] | rw [cnd_t] | rw [cnd_f] | rw [s_skip] | rw [s_ret] | rw [s_exit] | rw [C_ret] | rw [C_exit] | rw [C_skip] | rw [blk_ret] | rw [blk_norm] | rw [blk_exit] | rw [blk_exit' (by decide)] | rw [blkT_ret] | rw [blkT_norm] | rw [blkT_exit] | rw [blkT_exit' (by decide)] | rw [s_blk] | rw [s_reg (by simp [evOps, evOp_n, evOp_r, evOp_d, evOp_dr, kpo_refl, kpo_app, cnd_some, cnd_pair, cnd_cnd_t, cnd_cnd_f, cnd_same, cnd_dvb, cnd_and, cnd_or, ↓evx_pick, gd_bool, gd_boolf, gd_tup, cnd_t, cnd_f, evTo, isCall, evx, put, lk, Od.v, keepEnv, enterEnv, ldx_ref, rdc, binx, binI, binS, unx, eqk, DV.isU, DV.cells, hget, hget0, hset, hset0, stx_ref, splice, DV.one, fillp, mat, eqcs, eqs, c2, c3, c4, e4', e5, e6, hS, hT, hTl, hyl, z1]; exact ⟨rfl, rfl⟩)] | rw [t_cnd (by simp [lk, keepEnv, Od.v, c2, c3, c4, e4', e5, e6, hS, hT, hTl, hyl, z1]; exact rfl)] | rw [t_blk]))
    (try simp only [keepEnv, List.map_cons, List.map_nil, lk, reduceIte, Nat.reduceEqDiff, Nat.zero_ne_one, Nat.one_ne_zero])
    rw [c10]
    (repeat (first | rw [s_assoc] | rw [s_seq_reg (by simp [evOps, evOp_n, evOp_r, evOp_d, evOp_dr, kpo_refl, kpo_app, cnd_some, cnd_pair, cnd_cnd_t, cnd_cnd_f, cnd_same, cnd_dvb, cnd_and, cnd_or, ↓evx_pick, gd_bool, gd_boolf, gd_tup, cnd_t, cnd_f, evTo, isCall, evx, put, lk, Od.v, keepEnv, enterEnv, ldx_ref, rdc, binx, binI, binS, unx, eqk, DV.isU, DV.cells, hget, hget0, hset, hset0, stx_ref, splice, DV.one, fillp, mat, eqcs, eqs]; exact ⟨rfl, rfl⟩)] | rw [s_cnd (by simp [lk, keepEnv, Od.v]; exact rfl)] | rw [cnd_t] | rw [cnd_f] | rw [s_skip] | rw [s_ret] | rw [s_exit] | rw [C_ret] | rw [C_exit] | rw [C_skip] | rw [blk_ret] | rw [blk_norm] | rw [blk_exit] | rw [blk_exit' (by decide)] | rw [blkT_ret] | rw [blkT_norm] | rw [blkT_exit] | rw [blkT_exit' (by decide)] | rw [s_blk] | rw [s_reg (by simp [evOps, evOp_n, evOp_r, evOp_d, evOp_dr, kpo_refl, kpo_app, cnd_some, cnd_pair, cnd_cnd_t, cnd_cnd_f, cnd_same, cnd_dvb, cnd_and, cnd_or, ↓evx_pick, gd_bool, gd_boolf, gd_tup, cnd_t, cnd_f, evTo, isCall, evx, put, lk, Od.v, keepEnv, enterEnv, ldx_ref, rdc, binx, binI, binS, unx, eqk, DV.isU, DV.cells, hget, hget0, hset, hset0, stx_ref, splice, DV.one, fillp, mat, eqcs, eqs]; exact ⟨rfl, rfl⟩)] | rw [t_cnd (by simp [lk, keepEnv, Od.v]; exact rfl)] | rw [t_blk]))
    simp only [ends_ret, resL, keepEnv, List.map_cons, List.map_nil, lk, reduceIte, Nat.reduceEqDiff, Option.map_some]
    rw [c11]
end Go.Proofs.Ytmlfhjpajbmajaa
